/- Contracts of Go functions that the laws reach: what each call answers and leaves in memory, for all arguments within the bounds that each theorem names. -/
import Derived.Test.YtajfhoeejeadkaaDoorInst
import Derived.Test.YtajfhoeejeadkaaDoorAuto
import Derived.Test.YtajfhoeejeadkaaDoorRows
import Derived.Test.YtajfhoeejeadkaaDoorLift
import Derived.Test.YtajfhoeejeadkaaDoorChecked
import Derived.Test.YtajfhoeejeadkaaDoorLZ
import Derived.Test.YtajfhoeejeadkaaDoorVec4
import Derived.Test.YtajfhoeejeadkaaDoorV1
import Derived.Test.YtajfhoeejeadkaaDoorQ2
import Derived.ProofKit
import Derived.LaidMore
import Derived.Lay
import Derived.OpenShut
import Derived.Test.YtajfhoeejeadkaaDoorVecD
import Derived.Test.YtajfhoeejeadkaaDoorArgs
import Derived.Test.YtajfhoeejeadkaaDoorCards
import Derived.Test.YtajfhoeejeadkaaDoorTie
import Derived.SevenTiedAt
import Derived.Test.YtajfhoeejeadkaaDoorChn
set_option linter.unusedVariables false
set_option linter.unusedSimpArgs false
set_option maxRecDepth 100000
set_option maxHeartbeats 4000000
namespace Go.Tg
open Go Go.Proofs
open Go.ChangeShapes Go.WideShapes Go.ChangeAt Go.RowKit
theorem laid_cells {P : Program} {laid : List (String × DataW Unit)} {n : String} {d : DataW Unit} {W : World} (g : Nat) (T e : TypeId) (k : IntKind) (zs : List Int)
    (hp : (laid.all fun x => x.2.handleName?.isNone) = true) (hl : laid = [(n, d)]) (hg : P.globalNamed n = some g) (hT : (P.globals[g]?).map (·.type) = some T) (hu : P.underlying T = some (.array zs.length e))
    (he : P.underlying e = some (.int k)) (hc : P.cellsOf e = 1) (hcT : P.cellsOf T = zs.length) (hd : d = .agg (zs.map fun z => .lit (.int k z))) (h : laidMetH P laid W) :
    ∃ t fr, full W g = some (.cells (zs.map fun z => Value.int k z).toArray t fr) := by
  subst hl
  rw [MakeChecks.laidMetH_plain _ _ _ hp] at h
  obtain ⟨ps, ⟨g', t, cs, fuel, p, q, hg', ht, hv, hx, _, _⟩, _, _⟩ := h
  obtain rfl := Option.some.inj (hg.symm.trans hg')
  obtain rfl := Option.some.inj (hT.symm.trans ht)
  obtain ⟨xs, m, _, ex, hlen, hxl, hel⟩ := DataW.trod_array hu hx
  have e3 : xs.map (·.1) = zs.map fun z => .lit (.int k z) := by
    have := (Prod.mk.inj ex).1
    rw [hd] at this
    exact (DataW.agg.inj this).symm
  have hcs : cs.toList = zs.map fun z => Value.int k z := by
    apply List.ext_getElem
    · rw [hlen, hcT, List.length_map]
    · intro r h1 h2
      have hr : r < zs.length := by simpa using h2
      have hE := hel r hr
      rw [hc, Nat.mul_one, List.getElem?_eq_getElem (by omega)] at hE
      obtain ⟨z, e1, e2, _⟩ := DataW.trod_int he hE
      have e4 : (xs.map (·.1))[r]? = (zs.map fun z => (DataW.lit (.int k z) : DataW Unit))[r]? := by rw [e3]
      rw [List.getElem?_map, List.getElem?_map, List.getElem?_eq_getElem (by omega : r < xs.length), List.getElem?_eq_getElem hr, e2] at e4
      have hz : z = zs[r] := by
        simp only [Option.map_some, Option.some.injEq, DataW.lit.injEq, Lit.int.injEq, true_and] at e4
        exact e4
      have h0 : ((cs.toList.drop r).take 1)[0]? = some (.int k z) := by rw [e1]; rfl
      have h9 : cs.toList[r]? = some (.int k z) := by
        rw [List.getElem?_take, if_pos (by omega), List.getElem?_drop] at h0
        simpa using h0
      rw [List.getElem?_eq_getElem h1] at h9
      rw [Option.some.inj h9, hz, List.getElem_map]
  simp only [World.var?, hg, Option.bind_some] at hv
  split at hv
  · rename_i c9 t9 f9 e9
    obtain rfl := Option.some.inj hv
    refine ⟨t9, f9, ?_⟩
    show W.heap[g]? = _
    rw [e9, ← hcs]
  · cases hv
theorem half_of {laid : List (String × DataW Unit)} {W : World} (hl : laid = [("trug/crc.half", .agg (halfL.map fun z => .lit (.int .u32 z)))]) (h : laidMetH Tryd.prog laid W) : Half (full W) := by
  obtain ⟨t, fr, e⟩ := laid_cells (P := Tryd.prog) 1 64 28 .u32 halfL (by rw [hl]; rfl) hl (by kernel_rfl) (by kernel_rfl) Tryd.underlying64 Tryd.underlying28 (by kernel_rfl) (by kernel_rfl) rfl h
  exact ⟨t, fr, e⟩
end Go.Tg

set_option linter.unusedVariables false
set_option linter.unusedSimpArgs false
set_option maxRecDepth 100000
set_option maxHeartbeats 4000000
namespace Go.Tg
open Go Go.Proofs
def PGv (h : FH) (v : Value) (p : PageT) : Prop := ∃ A, v = .agg (pgV p A).toArray ∧ PgR h p A
theorem PGv.mono {h h' : FH} {v : Value} {p : PageT} (hle : FLe h h') (r : PGv h v p) : PGv h' v p := by
  obtain ⟨A, e, r⟩ := r; exact ⟨A, e, r.mono hle⟩
section
variable {P : Program} {o : Oper} {s : Env} {w : World} {K : Value → World → Prop}
end
end Go.Tg
namespace Go.Proofs.YtajfhoeejeadkaaDoor
open Go.ChangeShapes Go.WideShapes Go.ChangeAt Go.RowKit Go.Tg
end Go.Proofs.YtajfhoeejeadkaaDoor

set_option linter.unusedVariables false
set_option linter.unusedSimpArgs false
set_option maxRecDepth 100000
set_option maxHeartbeats 4000000
namespace Go.Tg
open Go Go.Proofs
theorem firstF_len (b : List UInt8) : (firstF b).1.length ≤ b.length := by
  unfold firstF
  split
  · simp
  · split
    · simp
    · split
      · simp
      · split
        · simp
        · simp; omega
end Go.Tg

