/- Contracts of Go functions that the laws reach: what each call answers and leaves in memory, for all arguments within the bounds that each theorem names. -/
import Derived.Test.YtajfhoeejeadkaaDoorInst
import Derived.Test.YtajfhoeejeadkaaDoorAuto
import Derived.Test.YtajfhoeejeadkaaDoorO1
import Derived.Test.YtajfhoeejeadkaaDoorVec3
import Derived.Test.YtajfhoeejeadkaaDoorRows
import Derived.Test.YtajfhoeejeadkaaDoorLift
import Derived.Test.YtajfhoeejeadkaaDoorChecked
import Derived.Test.YtajfhoeejeadkaaDoorQ5
import Derived.Test.YtajfhoeejeadkaaDoorV1
import Derived.Test.YtajfhoeejeadkaaDoorQ1
import Derived.ProofKit
import Derived.LaidMore
import Derived.Lay
import Derived.OpenShut
import Derived.Test.YtajfhoeejeadkaaDoorQ4
import Derived.Test.YtajfhoeejeadkaaDoorArgs
set_option linter.unusedVariables false
set_option linter.unusedSimpArgs false
set_option maxRecDepth 100000
set_option maxHeartbeats 4000000
namespace Go.Tg
open Go Go.Proofs
def v2 (x y : UInt32) : V16 := fun i => if i.val = 0 then x else if i.val = 1 then y else 0
end Go.Tg

set_option linter.unusedVariables false
set_option linter.unusedSimpArgs false
set_option maxRecDepth 100000
set_option maxHeartbeats 4000000
namespace Go.Tg
open Go Go.Proofs
open Go.ChangeShapes Go.WideShapes Go.ChangeAt Go.RowKit
theorem laid_cells {P : Program} {laid : List (String × DataW Unit)} {n : String} {d : DataW Unit} {W : World} (g : Nat) (T e : TypeId) (k : IntKind) (zs : List Int)
    (hp : (laid.all fun x => x.2.handleName?.isNone) = true) (hl : laid = [(n, d)]) (hg : P.globalNamed n = some g) (hT : (P.globals[g]?).map (·.type) = some T) (hu : P.underlying T = some (.array zs.length e))
    (he : P.underlying e = some (.int k)) (hc : P.cellsOf e = 1) (hcT : P.cellsOf T = zs.length) (hd : d = .agg (zs.map fun z => .lit (.int k z))) (h : laidMetH P laid W) :
    ∃ t fr, full W g = some (.cells (zs.map fun z => Value.int k z).toArray t fr) := by
  subst hl
  rw [MakeChecks.laidMetH_plain _ _ _ hp] at h
  obtain ⟨ps, ⟨g', t, cs, fuel, p, q, hg', ht, hv, hx, _, _⟩, _, _⟩ := h
  obtain rfl := Option.some.inj (hg.symm.trans hg')
  obtain rfl := Option.some.inj (hT.symm.trans ht)
  obtain ⟨xs, m, _, ex, hlen, hxl, hel⟩ := DataW.trod_array hu hx
  have e3 : xs.map (·.1) = zs.map fun z => .lit (.int k z) := by
    have := (Prod.mk.inj ex).1
    rw [hd] at this
    exact (DataW.agg.inj this).symm
  have hcs : cs.toList = zs.map fun z => Value.int k z := by
    apply List.ext_getElem
    · rw [hlen, hcT, List.length_map]
    · intro r h1 h2
      have hr : r < zs.length := by simpa using h2
      have hE := hel r hr
      rw [hc, Nat.mul_one, List.getElem?_eq_getElem (by omega)] at hE
      obtain ⟨z, e1, e2, _⟩ := DataW.trod_int he hE
      have e4 : (xs.map (·.1))[r]? = (zs.map fun z => (DataW.lit (.int k z) : DataW Unit))[r]? := by rw [e3]
      rw [List.getElem?_map, List.getElem?_map, List.getElem?_eq_getElem (by omega : r < xs.length), List.getElem?_eq_getElem hr, e2] at e4
      have hz : z = zs[r] := by
        simp only [Option.map_some, Option.some.injEq, DataW.lit.injEq, Lit.int.injEq, true_and] at e4
        exact e4
      have h0 : ((cs.toList.drop r).take 1)[0]? = some (.int k z) := by rw [e1]; rfl
      have h9 : cs.toList[r]? = some (.int k z) := by
        rw [List.getElem?_take, if_pos (by omega), List.getElem?_drop] at h0
        simpa using h0
      rw [List.getElem?_eq_getElem h1] at h9
      rw [Option.some.inj h9, hz, List.getElem_map]
  simp only [World.var?, hg, Option.bind_some] at hv
  split at hv
  · rename_i c9 t9 f9 e9
    obtain rfl := Option.some.inj hv
    refine ⟨t9, f9, ?_⟩
    show W.heap[g]? = _
    rw [e9, ← hcs]
  · cases hv
theorem half_of {laid : List (String × DataW Unit)} {W : World} (hl : laid = [("trug/crc.half", .agg (halfL.map fun z => .lit (.int .u32 z)))]) (h : laidMetH Tryd.prog laid W) : Half (full W) := by
  obtain ⟨t, fr, e⟩ := laid_cells (P := Tryd.prog) 1 64 28 .u32 halfL (by rw [hl]; rfl) hl (by kernel_rfl) (by kernel_rfl) Tryd.underlying64 Tryd.underlying28 (by kernel_rfl) (by kernel_rfl) rfl h
  exact ⟨t, fr, e⟩
end Go.Tg

set_option linter.unusedVariables false
set_option linter.unusedSimpArgs false
set_option maxRecDepth 100000
set_option maxHeartbeats 4000000
namespace Go.Tg
open Go Go.Proofs
section
variable {H : Type} {enc : TypeId × Value → H} {W : World} {sp : Nat → Bool}
theorem rows_map {α : Type} (f : α → List Value) : ∀ {rows : List (List Value)}, (∀ r, r ∈ rows → ∃ x, r = f x) → ∃ xs : List α, rows = xs.map f
  | [], _ => ⟨[], rfl⟩
  | r :: rows, h => by
    obtain ⟨x, rfl⟩ := h r (by simp)
    obtain ⟨xs, rfl⟩ := rows_map f (rows := rows) fun r hr => h r (by simp [hr])
    exact ⟨x :: xs, rfl⟩
theorem key_of {row : List Value} (h : Td enc Tryd.prog W sp 32 row) : ∃ k : KeyT, row = cKey k := by
  obtain ⟨hl, hf⟩ := h.struct (fs := [{ name := "Cart", type := 27, offset := 0, embedded := false, tag := "", pkgPath := "", byteOffset := 0 }, { name := "Dot", type := 30, offset := 1, embedded := false, tag := "", pkgPath := "", byteOffset := 4 }]) Tryd.underlying32
  rw [show Program.cellsOf Tryd.prog 32 = 3 from by kernel_rfl] at hl
  match row, hl with
  | [v0, v1, v2], _ =>
    have h0 := hf _ (List.mem_cons_self ..)
    have h1 := hf _ (List.mem_cons_of_mem _ (List.mem_cons_self ..))
    rw [show Program.cellsOf Tryd.prog _ = 1 from by kernel_rfl] at h0
    rw [show Program.cellsOf Tryd.prog _ = 2 from by kernel_rfl] at h1
    obtain ⟨k, e0, k0⟩ := h0.nat Tryd.underlying27 rfl
    obtain ⟨_, hg⟩ := h1.struct (fs := [{ name := "Rep", type := 5, offset := 0, embedded := false, tag := "", pkgPath := "", byteOffset := 0 }, { name := "Seq", type := 28, offset := 1, embedded := false, tag := "", pkgPath := "", byteOffset := 4 }]) Tryd.underlying30
    have g0 := hg _ (List.mem_cons_self ..)
    have g1 := hg _ (List.mem_cons_of_mem _ (List.mem_cons_self ..))
    rw [show Program.cellsOf Tryd.prog _ = 1 from by kernel_rfl] at g0 g1
    obtain ⟨n, e1, k1⟩ := g0.nat Tryd.underlying5 rfl
    obtain ⟨m, e2, k2⟩ := g1.nat Tryd.underlying28 rfl
    simp at e0 e1 e2
    subst e0; subst e1; subst e2
    simp only [inK] at k0 k1 k2
    refine ⟨⟨UInt16.ofNat k, ⟨UInt8.ofNat n, UInt32.ofNat m⟩⟩, ?_⟩
    simp [cKey]
    omega
theorem loc_of {row : List Value} (h : Td enc Tryd.prog W sp 117 row) : ∃ k : LocT, row = cLoc k := by
  obtain ⟨hl, hf⟩ := h.struct (fs := [{ name := "Seg", type := 28, offset := 0, embedded := false, tag := "", pkgPath := "", byteOffset := 0 }, { name := "At", type := 28, offset := 1, embedded := false, tag := "", pkgPath := "", byteOffset := 4 }]) Tryd.underlying117
  rw [show Program.cellsOf Tryd.prog 117 = 2 from by kernel_rfl] at hl
  match row, hl with
  | [v0, v1], _ =>
    have g0 := hf _ (List.mem_cons_self ..)
    have g1 := hf _ (List.mem_cons_of_mem _ (List.mem_cons_self ..))
    rw [show Program.cellsOf Tryd.prog _ = 1 from by kernel_rfl] at g0 g1
    obtain ⟨n, e1, k1⟩ := g0.nat Tryd.underlying28 rfl
    obtain ⟨m, e2, k2⟩ := g1.nat Tryd.underlying28 rfl
    simp at e1 e2
    subst e1; subst e2
    simp only [inK] at k1 k2
    refine ⟨⟨UInt32.ofNat n, UInt32.ofNat m⟩, ?_⟩
    simp [cLoc]
    omega
theorem kid_of {row : List Value} (h : Td enc Tryd.prog W sp 28 row) : ∃ k : UInt32, row = cKid k := by
  obtain ⟨n, e1, k1⟩ := h.nat Tryd.underlying28 rfl
  subst e1
  simp only [inK] at k1
  refine ⟨UInt32.ofNat n, ?_⟩
  simp [cKid]
  omega
theorem page_of {cs : List Value} (h : Td enc Tryd.prog W sp 26 cs) : ∃ (p : PageT) (A : PAd), cs = pgV p A ∧ PgR (full W) p A := by
  obtain ⟨hl, hf⟩ := h.struct (fs := [{ name := "Leaf", type := 4, offset := 0, embedded := false, tag := "", pkgPath := "", byteOffset := 0 }, { name := "Keys", type := 22, offset := 1, embedded := false, tag := "", pkgPath := "", byteOffset := 8 }, { name := "Locs", type := 23, offset := 2, embedded := false, tag := "", pkgPath := "", byteOffset := 32 }, { name := "Kids", type := 24, offset := 3, embedded := false, tag := "", pkgPath := "", byteOffset := 56 }]) Tryd.underlying26
  rw [show Program.cellsOf Tryd.prog 26 = 4 from by kernel_rfl] at hl
  match cs, hl with
  | [v0, v1, v2, v3], _ =>
    have h0 := hf _ (List.mem_cons_self ..)
    have h1 := hf _ (List.mem_cons_of_mem _ (List.mem_cons_self ..))
    have h2 := hf _ (List.mem_cons_of_mem _ (List.mem_cons_of_mem _ (List.mem_cons_self ..)))
    have h3 := hf _ (List.mem_cons_of_mem _ (List.mem_cons_of_mem _ (List.mem_cons_of_mem _ (List.mem_cons_self ..))))
    rw [show Program.cellsOf Tryd.prog _ = 1 from by kernel_rfl] at h0 h1 h2 h3
    obtain ⟨lf, e0⟩ := h0.bool Tryd.underlying4
    obtain ⟨ak, ck, rk, e1, r1, t1⟩ := h1.slice Tryd.underlying22 (sz := 3) (by kernel_rfl) (by decide)
    obtain ⟨al, cl, rl, e2, r2, t2⟩ := h2.slice Tryd.underlying23 (sz := 2) (by kernel_rfl) (by decide)
    obtain ⟨ad, cd, rd, e3, r3, t3⟩ := h3.slice Tryd.underlying24 (sz := 1) (by kernel_rfl) (by decide)
    obtain ⟨ks, rfl⟩ := rows_map cKey fun r hr => key_of (t1 r hr)
    obtain ⟨ls, rfl⟩ := rows_map cLoc fun r hr => loc_of (t2 r hr)
    obtain ⟨ds, rfl⟩ := rows_map cKid fun r hr => kid_of (t3 r hr)
    simp at e0 e1 e2 e3
    subst e0; subst e1; subst e2; subst e3
    exact ⟨⟨lf, ks, ls, ds⟩, ⟨ak, ck, al, cl, ad, cd⟩, rfl, ⟨r1, r2, r3⟩⟩
end
end Go.Tg

