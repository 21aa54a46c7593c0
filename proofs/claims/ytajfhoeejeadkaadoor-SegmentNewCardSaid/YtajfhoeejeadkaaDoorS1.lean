/- Contracts of Go functions that the laws reach: what each call answers and leaves in memory, for all arguments within the bounds that each theorem names. -/
import Derived.Test.YtajfhoeejeadkaaDoorInst
import Derived.Test.YtajfhoeejeadkaaDoorAuto
import Derived.Test.YtajfhoeejeadkaaDoorRows
import Derived.Test.YtajfhoeejeadkaaDoorLift
import Derived.Test.YtajfhoeejeadkaaDoorChecked
import Derived.Test.YtajfhoeejeadkaaDoorLZ
import Derived.Test.YtajfhoeejeadkaaDoorVec4
import Derived.Test.YtajfhoeejeadkaaDoorV1
import Derived.Test.YtajfhoeejeadkaaDoorQ2
import Derived.ProofKit
import Derived.LaidMore
import Derived.Lay
import Derived.OpenShut
import Derived.Test.YtajfhoeejeadkaaDoorVecD
import Derived.Test.YtajfhoeejeadkaaDoorArgs
import Derived.Test.YtajfhoeejeadkaaDoorCards
import Derived.Test.YtajfhoeejeadkaaDoorTie
import Derived.SevenTiedAt
import Derived.Test.YtajfhoeejeadkaaDoorChn
set_option linter.unusedVariables false
set_option linter.unusedSimpArgs false
set_option maxRecDepth 100000
set_option maxHeartbeats 4000000
namespace Go.Tg
open Go Go.Proofs
open Go.ChangeShapes Go.WideShapes Go.ChangeAt Go.RowKit
theorem laid_cells {P : Program} {laid : List (String × DataW Unit)} {n : String} {d : DataW Unit} {W : World} (g : Nat) (T e : TypeId) (k : IntKind) (zs : List Int)
    (hp : (laid.all fun x => x.2.handleName?.isNone) = true) (hl : laid = [(n, d)]) (hg : P.globalNamed n = some g) (hT : (P.globals[g]?).map (·.type) = some T) (hu : P.underlying T = some (.array zs.length e))
    (he : P.underlying e = some (.int k)) (hc : P.cellsOf e = 1) (hcT : P.cellsOf T = zs.length) (hd : d = .agg (zs.map fun z => .lit (.int k z))) (h : laidMetH P laid W) :
    ∃ t fr, full W g = some (.cells (zs.map fun z => Value.int k z).toArray t fr) := by
  subst hl
  rw [MakeChecks.laidMetH_plain _ _ _ hp] at h
  obtain ⟨ps, ⟨g', t, cs, fuel, p, q, hg', ht, hv, hx, _, _⟩, _, _⟩ := h
  obtain rfl := Option.some.inj (hg.symm.trans hg')
  obtain rfl := Option.some.inj (hT.symm.trans ht)
  obtain ⟨xs, m, _, ex, hlen, hxl, hel⟩ := DataW.trod_array hu hx
  have e3 : xs.map (·.1) = zs.map fun z => .lit (.int k z) := by
    have := (Prod.mk.inj ex).1
    rw [hd] at this
    exact (DataW.agg.inj this).symm
  have hcs : cs.toList = zs.map fun z => Value.int k z := by
    apply List.ext_getElem
    · rw [hlen, hcT, List.length_map]
    · intro r h1 h2
      have hr : r < zs.length := by simpa using h2
      have hE := hel r hr
      rw [hc, Nat.mul_one, List.getElem?_eq_getElem (by omega)] at hE
      obtain ⟨z, e1, e2, _⟩ := DataW.trod_int he hE
      have e4 : (xs.map (·.1))[r]? = (zs.map fun z => (DataW.lit (.int k z) : DataW Unit))[r]? := by rw [e3]
      rw [List.getElem?_map, List.getElem?_map, List.getElem?_eq_getElem (by omega : r < xs.length), List.getElem?_eq_getElem hr, e2] at e4
      have hz : z = zs[r] := by
        simp only [Option.map_some, Option.some.injEq, DataW.lit.injEq, Lit.int.injEq, true_and] at e4
        exact e4
      have h0 : ((cs.toList.drop r).take 1)[0]? = some (.int k z) := by rw [e1]; rfl
      have h9 : cs.toList[r]? = some (.int k z) := by
        rw [List.getElem?_take, if_pos (by omega), List.getElem?_drop] at h0
        simpa using h0
      rw [List.getElem?_eq_getElem h1] at h9
      rw [Option.some.inj h9, hz, List.getElem_map]
  simp only [World.var?, hg, Option.bind_some] at hv
  split at hv
  · rename_i c9 t9 f9 e9
    obtain rfl := Option.some.inj hv
    refine ⟨t9, f9, ?_⟩
    show W.heap[g]? = _
    rw [e9, ← hcs]
  · cases hv
theorem half_of {laid : List (String × DataW Unit)} {W : World} (hl : laid = [("trug/crc.half", .agg (halfL.map fun z => .lit (.int .u32 z)))]) (h : laidMetH Tryd.prog laid W) : Half (full W) := by
  obtain ⟨t, fr, e⟩ := laid_cells (P := Tryd.prog) 1 64 28 .u32 halfL (by rw [hl]; rfl) hl (by kernel_rfl) (by kernel_rfl) Tryd.underlying64 Tryd.underlying28 (by kernel_rfl) (by kernel_rfl) rfl h
  exact ⟨t, fr, e⟩
end Go.Tg

set_option linter.unusedVariables false
set_option linter.unusedSimpArgs false
set_option maxRecDepth 100000
set_option maxHeartbeats 4000000
namespace Go.Tg
open Go Go.Proofs
def PGv (h : FH) (v : Value) (p : PageT) : Prop := ∃ A, v = .agg (pgV p A).toArray ∧ PgR h p A
theorem PGv.mono {h h' : FH} {v : Value} {p : PageT} (hle : FLe h h') (r : PGv h v p) : PGv h' v p := by
  obtain ⟨A, e, r⟩ := r; exact ⟨A, e, r.mono hle⟩
section
variable {P : Program} {o : Oper} {s : Env} {w : World} {K : Value → World → Prop}
end
end Go.Tg
namespace Go.Proofs.YtajfhoeejeadkaaDoor
open Go.ChangeShapes Go.WideShapes Go.ChangeAt Go.RowKit Go.Tg
end Go.Proofs.YtajfhoeejeadkaaDoor

set_option linter.unusedVariables false
set_option linter.unusedSimpArgs false
set_option maxRecDepth 100000
set_option maxHeartbeats 4000000
namespace Go.Tg
open Go Go.Proofs
def recF (o : OpT) : List UInt8 := putB 2 ++ fieldB (encO o)
def numF (k n : Nat) : List UInt8 := putB k ++ putB n
theorem fieldB_inj {a b : List UInt8} (ha : a.length < 18446744073709551616) (hb : b.length < 18446744073709551616) (h : fieldB a = fieldB b) : a = b := (putB_app_inj ha hb h).2
theorem recF_inj {u v : OpT} (h : recF u = recF v) : u = v := by
  have h1 := encO_len u; have h2 := encO_len v
  exact encO_inj (fieldB_inj (by omega) (by omega) (putB_app_inj (by decide) (by decide) h).2)
theorem recF_len (o : OpT) : (recF o).length ≤ 297 := by
  have h1 := encO_len o; have h2 := fieldB_len (encO o); have h3 := putB_len 2
  unfold recF; rw [List.length_append]; omega
theorem numF_len (k n : Nat) : (numF k n).length ≤ 22 := by
  have h1 := putB_len k; have h2 := putB_len n
  unfold numF; rw [List.length_append]; omega
theorem numF_inj {k n j m : Nat} (hk : k < 18446744073709551616) (hn : n < 18446744073709551616) (hj : j < 18446744073709551616) (hm : m < 18446744073709551616) (h : numF k n = numF j m) : k = j ∧ n = m := by
  obtain ⟨h1, h2⟩ := putB_app_inj hk hj h
  exact ⟨h1, (putB_app_inj (r := []) (s := []) hn hm (by rw [h2])).1⟩
theorem numF_rec {k n : Nat} {o : OpT} (hk : k < 18446744073709551616) (h2 : k ≠ 2) : recF o ≠ numF k n := fun h => h2 (putB_app_inj (by decide) hk h).1.symm
open Classical in
noncomputable def isOp (f : List UInt8) : Option OpT := if h : ∃ o, rightO o 16 = true ∧ recF o = f then some h.choose else none
theorem isOp_rec {o : OpT} (h : rightO o 16 = true) : isOp (recF o) = some o := by
  unfold isOp
  rw [dif_pos ⟨o, h, rfl⟩]
  have hx : ∃ u, rightO u 16 = true ∧ recF u = recF o := ⟨o, h, rfl⟩
  exact congrArg some (recF_inj hx.choose_spec.2)
theorem isOp_none {f : List UInt8} : isOp f = none ↔ ∀ u, rightO u 16 = true → recF u ≠ f := by
  unfold isOp
  constructor
  · intro h u hu e
    rw [dif_pos ⟨u, hu, e⟩] at h; cases h
  · intro h
    rw [dif_neg fun ⟨u, hu, e⟩ => h u hu e]
def framesL : Nat → List UInt8 → List (List UInt8)
  | 0, _ => []
  | n + 1, b => if (firstF b).2.2 = 0 then (firstF b).1 :: framesL n (b.drop (firstF b).2.1) else []
def frames (b : List UInt8) : List (List UInt8) := framesL b.length b
theorem wrapB_pos (xs : List UInt8) : 4 ≤ (wrapB xs).length := by unfold wrapB; rw [List.length_append, sum4_len]; omega
theorem firstF_pos {b : List UInt8} (h : (firstF b).2.2 = 0) : 4 ≤ (firstF b).2.1 := by
  obtain ⟨h1, h2, h3⟩ := firstF_ok h
  have := congrArg List.length h1
  have := wrapB_pos (firstF b).1
  rw [List.length_take] at *
  omega
theorem framesL_eq : ∀ (n m : Nat) (b : List UInt8), b.length ≤ n → b.length ≤ m → framesL n b = framesL m b
  | 0, 0, _, _, _ => rfl
  | 0, m + 1, b, h, _ => by
    obtain rfl : b = [] := List.eq_nil_of_length_eq_zero (by omega)
    rfl
  | n + 1, 0, b, _, h => by
    obtain rfl : b = [] := List.eq_nil_of_length_eq_zero (by omega)
    rfl
  | n + 1, m + 1, b, h1, h2 => by
    unfold framesL
    split
    · rename_i h
      have := firstF_pos h
      have h3 := (firstF_ok h).2.2
      rw [framesL_eq n m _ (by rw [List.length_drop]; omega) (by rw [List.length_drop]; omega)]
    · rfl
theorem frames_ok {b : List UInt8} (h : (firstF b).2.2 = 0) : frames b = (firstF b).1 :: frames (b.drop (firstF b).2.1) := by
  have h1 := firstF_pos h
  have h3 := (firstF_ok h).2.2
  unfold frames
  cases hb : b.length with
  | zero => omega
  | succ n =>
    rw [framesL, if_pos h, framesL_eq n _ _ (by rw [List.length_drop]; omega) (Nat.le_refl _)]
theorem frames_no {b : List UInt8} (h : (firstF b).2.2 ≠ 0) : frames b = [] := by
  unfold frames
  cases hb : b.length with
  | zero => rfl
  | succ n => rw [framesL, if_neg h]
theorem frames_wrap {xs : List UInt8} (hl : xs.length ≤ 4096) (r : List UInt8) : frames (wrapB xs ++ r) = xs :: frames r := by
  have h := firstF_wrap hl r
  rw [frames_ok (by rw [h]), h]
  dsimp only
  rw [List.drop_left' rfl]
theorem frames_nil : frames [] = [] := rfl
theorem firstF_cut {xs : List UInt8} (hl : xs.length ≤ 4096) {k : Nat} (hk : k < (wrapB xs).length) : (firstF ((wrapB xs).take k)).2.2 ≠ 0 := fun h => by
  obtain ⟨f1, f2, f3⟩ := firstF_ok h
  have h4 := firstF_wrap f2 ((wrapB xs).drop (firstF ((wrapB xs).take k)).2.1)
  have hk2 : (firstF ((wrapB xs).take k)).2.1 ≤ k := by rw [List.length_take] at f3; omega
  rw [List.take_take, Nat.min_eq_left hk2] at f1
  rw [← f1, List.take_append_drop] at h4
  have h5 := firstF_wrap hl []
  rw [List.append_nil, h4] at h5
  have := (Prod.mk.inj (Prod.mk.inj h5).2).1
  have h6 := congrArg List.length f1
  rw [List.length_take] at *
  omega
theorem frames_cut {xs : List UInt8} (hl : xs.length ≤ 4096) {k : Nat} (hk : k < (wrapB xs).length) : frames ((wrapB xs).take k) = [] := frames_no (firstF_cut hl hk)
noncomputable def segR : List (List UInt8) → Nat → Nat → List OpT × List Nat × Bool × Nat
  | [], _, at_ => ([], [], false, at_)
  | f :: l, n, at_ => match isOp f with
    | some o => (o :: (segR l (n + 1) (at_ + (wrapB f).length)).1, at_ :: (segR l (n + 1) (at_ + (wrapB f).length)).2.1, (segR l (n + 1) (at_ + (wrapB f).length)).2.2)
    | none => if f = numF 3 n then ([], [], true, at_ + (wrapB f).length) else ([], [], false, at_)
theorem segR_op {f : List UInt8} {o : OpT} (h : isOp f = some o) (l : List (List UInt8)) (n at_ : Nat) : segR (f :: l) n at_ = (o :: (segR l (n + 1) (at_ + (wrapB f).length)).1, at_ :: (segR l (n + 1) (at_ + (wrapB f).length)).2.1, (segR l (n + 1) (at_ + (wrapB f).length)).2.2) := by
  rw [segR, h]
theorem segR_foot {f : List UInt8} {n : Nat} (h : isOp f = none) (hf : f = numF 3 n) (l : List (List UInt8)) (at_ : Nat) : segR (f :: l) n at_ = ([], [], true, at_ + (wrapB f).length) := by
  rw [segR, h]; dsimp only; rw [if_pos hf]
theorem segR_no {f : List UInt8} {n : Nat} (h : isOp f = none) (hf : f ≠ numF 3 n) (l : List (List UInt8)) (at_ : Nat) : segR (f :: l) n at_ = ([], [], false, at_) := by
  rw [segR, h]; dsimp only; rw [if_neg hf]
structure InfT where
  id : UInt32
  ops : List OpT
  ats : List Nat
  sld : Bool
  used : Nat
def zeroI : InfT := ⟨0, [], [], false, 0⟩
open Classical in
noncomputable def scanS (b : List UInt8) : InfT × Int := match frames b with
  | [] => (zeroI, 5)
  | f :: l => if h : ∃ id : UInt32, f = numF 1 id.toNat then (⟨h.choose, (segR l 0 (wrapB f).length).1, (segR l 0 (wrapB f).length).2.1, (segR l 0 (wrapB f).length).2.2.1, (segR l 0 (wrapB f).length).2.2.2⟩, 0) else (zeroI, 5)
theorem scanS_nil {b : List UInt8} (h : frames b = []) : scanS b = (zeroI, 5) := by unfold scanS; rw [h]
theorem scanS_no {b f : List UInt8} {l : List (List UInt8)} (h : frames b = f :: l) (hn : ∀ id : UInt32, f ≠ numF 1 id.toNat) : scanS b = (zeroI, 5) := by
  unfold scanS; rw [h]; dsimp only; rw [dif_neg fun ⟨id, e⟩ => hn id e]
theorem scanS_ok {b : List UInt8} {l : List (List UInt8)} {id : UInt32} (h : frames b = numF 1 id.toNat :: l) : scanS b = (⟨id, (segR l 0 (wrapB (numF 1 id.toNat)).length).1, (segR l 0 (wrapB (numF 1 id.toNat)).length).2.1, (segR l 0 (wrapB (numF 1 id.toNat)).length).2.2.1, (segR l 0 (wrapB (numF 1 id.toNat)).length).2.2.2⟩, 0) := by
  unfold scanS; rw [h]; dsimp only
  have hx : ∃ id' : UInt32, numF 1 id.toNat = numF 1 id'.toNat := ⟨id, rfl⟩
  rw [dif_pos hx]
  have h1 := hx.choose_spec
  have h2 := hx.choose.toNat_lt; have h3 := id.toNat_lt
  have : hx.choose = id := UInt32.toNat_inj.1 (numF_inj (by decide) (by omega) (by decide) (by omega) h1).2.symm
  rw [this]
def headB (id : UInt32) : List UInt8 := wrapB (numF 1 id.toNat)
def recB (o : OpT) : List UInt8 := wrapB (recF o)
def footB (n : Nat) : List UInt8 := wrapB (numF 3 n)
end Go.Tg

