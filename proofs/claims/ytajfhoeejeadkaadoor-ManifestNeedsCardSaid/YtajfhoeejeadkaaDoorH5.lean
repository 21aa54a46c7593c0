/- Contracts of Go functions that the laws reach: what each call answers and leaves in memory, for all arguments within the bounds that each theorem names. -/
import Derived.Test.YtajfhoeejeadkaaDoorInst
import Derived.Test.YtajfhoeejeadkaaDoorAuto
import Derived.Test.YtajfhoeejeadkaaDoorL3
import Derived.Test.YtajfhoeejeadkaaDoorL4
import Derived.Test.YtajfhoeejeadkaaDoorVec1
import Derived.Test.YtajfhoeejeadkaaDoorF2
set_option linter.unusedVariables false
set_option linter.unusedSimpArgs false
set_option maxRecDepth 100000
set_option maxHeartbeats 4000000
namespace Go.Tg
open Go Go.Proofs
open Go.ChangeShapes Go.WideShapes Go.ChangeAt Go.RowKit
theorem laid_head {P : Program} {rest : List (String × DataW Unit)} {n : String} {d : DataW Unit} {W : World} (g : Nat) (T e : TypeId) (k : IntKind) (zs : List Int) {ps : List MemPlace}
    (hg : P.globalNamed n = some g) (hT : (P.globals[g]?).map (·.type) = some T) (hu : P.underlying T = some (.array zs.length e))
    (he : P.underlying e = some (.int k)) (hc : P.cellsOf e = 1) (hcT : P.cellsOf T = zs.length) (hd : d = .agg (zs.map fun z => .lit (.int k z))) (h : DataW.LaidVars P W ((n, d) :: rest) ps) :
    ∃ t fr, full W g = some (.cells (zs.map fun z => Value.int k z).toArray t fr) := by
  obtain ⟨g', t, cs, fuel, p, q, hg', ht, hv, hx, _, _⟩ := h
  obtain rfl := Option.some.inj (hg.symm.trans hg')
  obtain rfl := Option.some.inj (hT.symm.trans ht)
  obtain ⟨xs, m, _, ex, hlen, hxl, hel⟩ := DataW.trod_array hu hx
  have e3 : xs.map (·.1) = zs.map fun z => .lit (.int k z) := by
    have := (Prod.mk.inj ex).1
    rw [hd] at this
    exact (DataW.agg.inj this).symm
  have hcs : cs.toList = zs.map fun z => Value.int k z := by
    apply List.ext_getElem
    · rw [hlen, hcT, List.length_map]
    · intro r h1 h2
      have hr : r < zs.length := by simpa using h2
      have hE := hel r hr
      rw [hc, Nat.mul_one, List.getElem?_eq_getElem (by omega)] at hE
      obtain ⟨z, e1, e2, _⟩ := DataW.trod_int he hE
      have e4 : (xs.map (·.1))[r]? = (zs.map fun z => (DataW.lit (.int k z) : DataW Unit))[r]? := by rw [e3]
      rw [List.getElem?_map, List.getElem?_map, List.getElem?_eq_getElem (by omega : r < xs.length), List.getElem?_eq_getElem hr, e2] at e4
      have hz : z = zs[r] := by
        simp only [Option.map_some, Option.some.injEq, DataW.lit.injEq, Lit.int.injEq, true_and] at e4
        exact e4
      have h0 : ((cs.toList.drop r).take 1)[0]? = some (.int k z) := by rw [e1]; rfl
      have h9 : cs.toList[r]? = some (.int k z) := by
        rw [List.getElem?_take, if_pos (by omega), List.getElem?_drop] at h0
        simpa using h0
      rw [List.getElem?_eq_getElem h1] at h9
      rw [Option.some.inj h9, hz, List.getElem_map]
  simp only [World.var?, hg, Option.bind_some] at hv
  split at hv
  · rename_i c9 t9 f9 e9
    obtain rfl := Option.some.inj hv
    refine ⟨t9, f9, ?_⟩
    show W.heap[g]? = _
    rw [e9, ← hcs]
  · cases hv
theorem laid_rest {P : Program} {x : String × DataW Unit} {rest : List (String × DataW Unit)} {W : World} {ps : List MemPlace} (h : DataW.LaidVars P W (x :: rest) ps) : ∃ ps', DataW.LaidVars P W rest ps' := by
  obtain ⟨n, d⟩ := x
  obtain ⟨g', t, cs, fuel, p, q, hg', ht, hv, hx, h9, _⟩ := h
  exact ⟨_, h9⟩
theorem tabs_of {laid : List (String × DataW Unit)} {x y : String × DataW Unit} {W : World} (hp : (laid.all fun x => x.2.handleName?.isNone) = true) (hl : laid = [x, y, ("internal/strconv.uint64pow10", .agg (Lib.pow10Tab.map fun z => .lit (.int .u64 z))), ("trug/crc.half", .agg (halfL.map fun z => .lit (.int .u32 z)))]) (h : laidMetH Tryd.prog laid W) : Half (full W) ∧ Pow (full W) := by
  rw [MakeChecks.laidMetH_plain _ _ _ hp] at h
  subst hl
  obtain ⟨ps, h, _, _⟩ := h
  obtain ⟨p1, h1⟩ := laid_rest h
  obtain ⟨p2, h2⟩ := laid_rest h1
  obtain ⟨p3, h3⟩ := laid_rest h2
  obtain ⟨t, fr, e⟩ := laid_head (P := Tryd.prog) 0 230 91 .u64 Lib.pow10Tab (by kernel_rfl) (by kernel_rfl) Tryd.underlying230 Tryd.underlying91 (by kernel_rfl) (by kernel_rfl) rfl h2
  obtain ⟨t', fr', e'⟩ := laid_head (P := Tryd.prog) 1 64 28 .u32 halfL (by kernel_rfl) (by kernel_rfl) Tryd.underlying64 Tryd.underlying28 (by kernel_rfl) (by kernel_rfl) rfl h3
  exact ⟨⟨t', fr', e'⟩, ⟨t, fr, e⟩⟩
end Go.Tg

set_option linter.unusedVariables false
set_option linter.unusedSimpArgs false
set_option maxRecDepth 100000
set_option maxHeartbeats 4000000
namespace Go.Tg
open Go Go.Proofs
section
variable {H : Type} {enc : TypeId × Value → H} {W : World} {sp : Nat → Bool}
theorem man_of {cs : List Value} (h : Td enc Tryd.prog W sp 93 cs) : ∃ (m : ManT) (A : MAd), cs = mnV m A ∧ MnR (full W) m A := by
  obtain ⟨hl, hf⟩ := h.struct (fs := [{ name := "Version", type := 91, offset := 0, embedded := false, tag := "", pkgPath := "", byteOffset := 0 }, { name := "Floor", type := 65, offset := 1, embedded := false, tag := "", pkgPath := "", byteOffset := 8 }, { name := "Base", type := 28, offset := 17, embedded := false, tag := "", pkgPath := "", byteOffset := 72 }, { name := "Segs", type := 24, offset := 18, embedded := false, tag := "", pkgPath := "", byteOffset := 80 }, { name := "Next", type := 28, offset := 19, embedded := false, tag := "", pkgPath := "", byteOffset := 104 }]) Tryd.underlying93
  rw [show Program.cellsOf Tryd.prog 93 = 20 from by kernel_rfl] at hl
  match cs, hl with
  | [v0, v1, v2, v3, v4, v5, v6, v7, v8, v9, v10, v11, v12, v13, v14, v15, v16, v17, v18, v19], _ =>
    have h0 := hf _ (List.mem_cons_self ..)
    have h1 := hf _ (List.mem_cons_of_mem _ (List.mem_cons_self ..))
    have h2 := hf _ (List.mem_cons_of_mem _ (List.mem_cons_of_mem _ (List.mem_cons_self ..)))
    have h3 := hf _ (List.mem_cons_of_mem _ (List.mem_cons_of_mem _ (List.mem_cons_of_mem _ (List.mem_cons_self ..))))
    have h4 := hf _ (List.mem_cons_of_mem _ (List.mem_cons_of_mem _ (List.mem_cons_of_mem _ (List.mem_cons_of_mem _ (List.mem_cons_self ..)))))
    rw [show Program.cellsOf Tryd.prog _ = 1 from by kernel_rfl] at h0 h2 h3 h4
    rw [show Program.cellsOf Tryd.prog _ = 16 from by kernel_rfl] at h1
    obtain ⟨n0, e0, k0⟩ := h0.nat Tryd.underlying91 rfl
    obtain ⟨v, e1⟩ := vec_of h1
    obtain ⟨n2, e2, k2⟩ := h2.nat Tryd.underlying28 rfl
    obtain ⟨a, c, rows, e3, r3, t3⟩ := h3.slice Tryd.underlying24 (sz := 1) (by kernel_rfl) (by decide)
    obtain ⟨n4, e4, k4⟩ := h4.nat Tryd.underlying28 rfl
    obtain ⟨segs, rfl⟩ := rows_map cKid fun r hr => kid_of (t3 r hr)
    simp only [inK] at k0 k2 k4
    simp only [List.drop_zero, List.drop_succ_cons, List.take_succ_cons, List.take_zero, List.cons.injEq, and_true] at e0 e1 e2 e3 e4
    subst e0; subst e2; subst e3; subst e4
    refine ⟨⟨UInt64.ofNat n0, v, UInt32.ofNat n2, segs, UInt32.ofNat n4⟩, ⟨a, c⟩, ?_, r3⟩
    unfold mnV mnL
    rw [← e1]
    simp
    omega
end
end Go.Tg

set_option linter.unusedVariables false
set_option linter.unusedSimpArgs false
set_option maxRecDepth 100000
set_option maxHeartbeats 4000000
namespace Go.Tg
open Go Go.Proofs
section
variable {H : Type} {enc : TypeId × Value → H} {W : World} {sp : Nat → Bool}
theorem str_of {row : List Value} (h : Td enc Tryd.prog W sp 9 row) : ∃ s, row = cStr s := by
  obtain ⟨s, e, -⟩ := h.str Tryd.underlying9
  exact ⟨s, e⟩
theorem strs_of {cs : List Value} (h : Td enc Tryd.prog W sp 107 cs) : ∃ (a : Option Addr) (c : Nat) (l : List (List UInt8)), cs = [.slice a l.length c] ∧ Sl (full W) 1 a c (l.map cStr) := by
  obtain ⟨a, c, rows, e, r, t⟩ := h.slice Tryd.underlying107 (sz := 1) (by kernel_rfl) (by decide)
  obtain ⟨l, rfl⟩ := rows_mapO cStr fun r hr => str_of (t r hr)
  exact ⟨a, c, l, by rw [e, List.length_map], r⟩
end
theorem need_mem {m : ManT} {x : List UInt8} : x ∈ needM m ↔ x = manW ∨ (∃ s ∈ m.segs, x = segW s.toNat) ∨ (m.base.toNat ≠ 0 ∧ x = baseW m.base.toNat) := by
  unfold needM
  simp only [List.mem_append, List.mem_singleton, List.mem_map]
  constructor
  · rintro ((h | ⟨s, hs, rfl⟩) | h)
    · exact .inl h
    · exact .inr (.inl ⟨s, hs, rfl⟩)
    · split at h
      · cases h
      · exact .inr (.inr ⟨‹_›, List.mem_singleton.1 h⟩)
  · rintro (h | ⟨s, hs, rfl⟩ | ⟨h1, h2⟩)
    · exact .inl (.inl h)
    · exact .inl (.inr ⟨s, hs, rfl⟩)
    · rw [if_neg h1]; exact .inr (List.mem_singleton.2 h2)
end Go.Tg

