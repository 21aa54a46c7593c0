/- Contracts of Go functions that the laws reach: what each call answers and leaves in memory, for all arguments within the bounds that each theorem names. -/
import Derived.Test.YtbfilhaigbebpaaDoorInst
import Derived.Test.YtbfilhaigbebpaaDoorAuto
import Derived.Test.YtbfilhaigbebpaaDoorO2
import Derived.Test.YtbfilhaigbebpaaDoorRows
import Derived.Test.YtbfilhaigbebpaaDoorLift
import Derived.Test.YtbfilhaigbebpaaDoorChecked
import Derived.Test.YtbfilhaigbebpaaDoorVec2
import Derived.Test.YtbfilhaigbebpaaDoorC1
import Derived.ProofKit
import Derived.LaidMore
import Derived.Lay
import Derived.OpenShut
set_option linter.unusedVariables false
set_option linter.unusedSimpArgs false
set_option maxRecDepth 100000
set_option maxHeartbeats 4000000
namespace Go.Tg
open Go Go.Proofs
def or3 (x y z : Int) : Int := if x ≠ 0 then x else if y ≠ 0 then y else z
def or3at (x y z : Int) (k : Nat) : Int := if k = 0 then x else if k = 1 then y else z
theorem cmp_Or (a : Option Addr) (c : Nat) (x y z : Int) (w : World) (hr : RdC (full w) a [.int .i64 x, .int .i64 y, .int .i64 z]) : SpecV Tryd.prog 72 #[.slice a 3 c] w (.int .i64 (or3 x y z)) := by
  have H := St.start (sat_full w)
  obtain ⟨b, off, l, T, fr, rfl, hb, hl⟩ := hr.resolve_left (by simp)
  have gk : ∀ k : Nat, k < 3 → l[off + (k : Int).toNat * 1]? = some (.int .i64 (or3at x y z k)) := fun k hk => by
    have h1 : ((l.drop off).take 3)[k]? = ([.int .i64 x, .int .i64 y, .int .i64 z] : List Value)[k]? := congrArg (·[k]?) hl
    rw [List.getElem?_take_of_lt hk, List.getElem?_drop] at h1
    rw [show off + (k : Int).toNat * 1 = off + k by omega, h1]
    match k, hk with
    | 0, _ => rfl
    | 1, _ => rfl
    | 2, _ => rfl
  unfold SpecV
  refine calls_of Tryd.func72 rfl Tryd.ntmps72 (by simp) ?_
  repeat' (first | ((first | refine WL.p rfl ?_ | refine WL.u ?_); first | refine pvQ ?_ | (refine opk 3 rfl ?_; (refine ost_cmp rfl rfl rfl rfl (fun hc => ?_) (fun hc => ?_) <;> (simp only [cmpP] at hc; try exact prIQ))) | (refine opk 4 rfl ?_; (refine ost_cmp rfl rfl rfl rfl (fun hc => ?_) (fun hc => ?_) <;> (simp only [cmpP] at hc; try exact prIQ)))) | refine Wc.seq ?_ | refine then_n ?_ | refine WL.nil ?_ | refine Wc.region ?_ | refine Wc.block ?_ | refine then_r ?_ | refine then_e ?_ | refine inb_e rfl ?_ | refine inb_o rfl ?_ | refine inb_n ?_ | refine inb_r ?_ | refine Wc.skip ?_ | refine Wc.exit ?_ | refine Wc.ret ?_ | refine Wc.cond_true rfl ?_ | refine Wc.cond_false rfl ?_)
  refine Wc.loopE (fun s0 m s w' => ∃ k : Nat, m = 3 - k ∧ k ≤ 3 ∧ Agree [2, 5, 8, 9, 10, 11, 12, 13, 14, 15, 16] s s0 ∧ s 8 = .int .i64 k ∧ (∀ i, i < k → or3at x y z i = 0) ∧
    St w [] (full w) (full w) [] w') 3 ⟨0, rfl, by omega, Agree.refl _ _, rfl, fun i hi => absurd hi (by omega), H⟩ ?_
  clear H
  rintro m s w' ⟨k, rfl, hk, hA, e1, h0, H⟩
  obtain ⟨j, rfl⟩ := hA.env1 e1
  clear hA e1
  by_cases hlt : k < 3
  · have g := gk k hlt
    repeat' (first | ((first | refine WL.p rfl ?_ | refine WL.u ?_); first | refine pvQ ?_ | (refine opk 3 rfl ?_; (refine ost_cmp rfl rfl rfl rfl (fun hc => ?_) (fun hc => ?_) <;> (simp only [cmpP] at hc; try exact prIQ))) | (refine opk 4 rfl ?_; (refine ost_cmp rfl rfl rfl rfl (fun hc => ?_) (fun hc => ?_) <;> (simp only [cmpP] at hc; try exact prIQ)))) | refine Wc.seq ?_ | refine then_n ?_ | refine WL.nil ?_ | refine Wc.region ?_ | refine Wc.block ?_ | refine then_r ?_ | refine then_e ?_ | refine inb_e rfl ?_ | refine inb_o rfl ?_ | refine inb_n ?_ | refine inb_r ?_ | refine Wc.skip ?_ | refine Wc.exit ?_ | refine Wc.ret ?_ | refine Wc.cond_true rfl ?_ | refine Wc.cond_false rfl ?_)
    · have e : or3at x y z k = or3 x y z := by
        match k, hlt, h0, hc with
        | 0, _, _, hc =>
          have hc : x ≠ 0 := hc
          show x = or3 x y z
          unfold or3; rw [if_pos hc]
        | 1, _, h0, hc => have := h0 0 (by omega); simp only [or3at, or3] at *; simp_all
        | 2, _, h0, hc => have h1 := h0 0 (by omega); have := h0 1 (by omega); simp only [or3at, or3] at *; simp_all
      (first | refine fn_ret1 (v := .bool _) rfl rfl ⟨?_, H.fr⟩ | refine fn_ret1 (v := .int _ _) rfl rfl ⟨?_, H.fr⟩ | refine fn_ret1 (v := .string _) rfl rfl ⟨?_, H.fr⟩); rw [e]
    · exact ⟨3 - (k + 1), by omega, k + 1, rfl, by omega, by (repeat' (first | exact Agree.refl _ _ | exact Agree.havoc | refine Agree.upd rfl ?_ | refine Agree.hav2 rfl ?_)), rfl, fun i hi => by
        by_cases hik : i = k
        · subst hik; exact Classical.not_not.1 hc
        · exact h0 i (by omega), H⟩
  · obtain rfl : k = 3 := by omega
    repeat' (first | ((first | refine WL.p rfl ?_ | refine WL.u ?_); first | refine pvQ ?_ | (refine opk 3 rfl ?_; (refine ost_cmp rfl rfl rfl rfl (fun hc => ?_) (fun hc => ?_) <;> (simp only [cmpP] at hc; try exact prIQ))) | (refine opk 4 rfl ?_; (refine ost_cmp rfl rfl rfl rfl (fun hc => ?_) (fun hc => ?_) <;> (simp only [cmpP] at hc; try exact prIQ)))) | refine Wc.seq ?_ | refine then_n ?_ | refine WL.nil ?_ | refine Wc.region ?_ | refine Wc.block ?_ | refine then_r ?_ | refine then_e ?_ | refine inb_e rfl ?_ | refine inb_o rfl ?_ | refine inb_n ?_ | refine inb_r ?_ | refine Wc.skip ?_ | refine Wc.exit ?_ | refine Wc.ret ?_ | refine Wc.cond_true rfl ?_ | refine Wc.cond_false rfl ?_)
    have e : or3 x y z = 0 := by
      have h1 := h0 0 (by omega); have h2 := h0 1 (by omega); have h3 := h0 2 (by omega)
      simp only [or3at, or3] at *; simp_all
    (first | refine fn_ret1 (v := .bool _) rfl rfl ⟨?_, H.fr⟩ | refine fn_ret1 (v := .int _ _) rfl rfl ⟨?_, H.fr⟩ | refine fn_ret1 (v := .string _) rfl rfl ⟨?_, H.fr⟩); rw [e]
end Go.Tg

set_option linter.unusedVariables false
set_option linter.unusedSimpArgs false
set_option maxRecDepth 100000
set_option maxHeartbeats 4000000
namespace Go.Tg
open Go Go.Proofs
structure KeyT where
  cart : UInt16
  dot : DotT
def cKey (k : KeyT) : List Value := [.int .u16 k.cart.toNat, .int .u8 k.dot.rep.toNat, .int .u32 k.dot.seq.toNat]
theorem cKey_len (k : KeyT) : (cKey k).length = 3 := rfl
def keyN (k : KeyT) : Nat := k.cart.toNat * 1099511627776 + k.dot.rep.toNat * 4294967296 + k.dot.seq.toNat
theorem keyN_inj {a b : KeyT} (h : keyN a = keyN b) : a = b := by
  have h1 := a.cart.toNat_lt; have h2 := a.dot.rep.toNat_lt; have h3 := a.dot.seq.toNat_lt
  have h4 := b.cart.toNat_lt; have h5 := b.dot.rep.toNat_lt; have h6 := b.dot.seq.toNat_lt
  unfold keyN at h
  have e1 : a.cart = b.cart := UInt16.toNat_inj.1 (by omega)
  have e2 : a.dot.rep = b.dot.rep := UInt8.toNat_inj.1 (by omega)
  have e3 : a.dot.seq = b.dot.seq := UInt32.toNat_inj.1 (by omega)
  obtain ⟨c, ⟨r, q⟩⟩ := a
  obtain ⟨c', ⟨r', q'⟩⟩ := b
  simp only at e1 e2 e3
  subst e1; subst e2; subst e3; rfl
theorem cKey_inj {a b : KeyT} : cKey a = cKey b ↔ a = b := by
  refine ⟨fun h => ?_, fun h => by rw [h]⟩
  unfold cKey at h
  simp only [List.cons.injEq, Value.int.injEq, true_and, and_true] at h
  exact keyN_inj (by unfold keyN; omega)
theorem typed_cKey (k : KeyT) : Typed [.i .u16, .i .u8, .i .u32] (cKey k) := rfl
def lessK (a b : KeyT) : Bool := decide (keyN a < keyN b)
def ordK (a b : KeyT) : Int := or3 (cmp3 a.cart.toNat b.cart.toNat) (cmp3 a.dot.rep.toNat b.dot.rep.toNat) (cmp3 a.dot.seq.toNat b.dot.seq.toNat)
theorem ordK_lt (a b : KeyT) : ordK a b < 0 ↔ keyN a < keyN b := by
  have h1 := a.cart.toNat_lt; have h2 := a.dot.rep.toNat_lt; have h3 := a.dot.seq.toNat_lt
  have h4 := b.cart.toNat_lt; have h5 := b.dot.rep.toNat_lt; have h6 := b.dot.seq.toNat_lt
  unfold ordK or3 cmp3 keyN
  repeat' split
  all_goals omega
theorem ordK_zero (a b : KeyT) : ordK a b = 0 ↔ keyN a = keyN b := by
  have h1 := a.cart.toNat_lt; have h2 := a.dot.rep.toNat_lt; have h3 := a.dot.seq.toNat_lt
  have h4 := b.cart.toNat_lt; have h5 := b.dot.rep.toNat_lt; have h6 := b.dot.seq.toNat_lt
  unfold ordK or3 cmp3 keyN
  repeat' split
  all_goals omega
theorem ordK_self (a : KeyT) : ordK a a = 0 := (ordK_zero a a).2 rfl
theorem nan16 (x : Int) (w : World) : SpecV Tryd.prog 81 #[.int .u16 x] w (.bool false) := by
  refine specV_of fun h0 hs H => ?_
  refine calls_of Tryd.func81 rfl Tryd.ntmps81 (by simp) ?_
  repeat' (first | ((first | refine WL.p rfl ?_ | refine WL.u ?_); first | refine pvQ ?_ | (refine opk 3 rfl ?_; (refine ost_cmp rfl rfl rfl rfl (fun hc => ?_) (fun hc => ?_) <;> (simp only [cmpP] at hc; try exact prIQ))) | (refine opk 4 rfl ?_; (refine ost_cmp rfl rfl rfl rfl (fun hc => ?_) (fun hc => ?_) <;> (simp only [cmpP] at hc; try exact prIQ)))) | refine Wc.seq ?_ | refine then_n ?_ | refine WL.nil ?_ | refine Wc.region ?_ | refine Wc.block ?_ | refine then_r ?_ | refine then_e ?_ | refine inb_e rfl ?_ | refine inb_o rfl ?_ | refine inb_n ?_ | refine inb_r ?_ | refine Wc.skip ?_ | refine Wc.exit ?_ | refine Wc.ret ?_ | refine Wc.cond_true rfl ?_ | refine Wc.cond_false rfl ?_)
  (first | refine fn_ret1 (v := .bool _) rfl rfl ⟨?_, H.fr⟩ | refine fn_ret1 (v := .int _ _) rfl rfl ⟨?_, H.fr⟩ | refine fn_ret1 (v := .string _) rfl rfl ⟨?_, H.fr⟩); rfl
theorem compare16 (x y : Int) (w : World) : SpecV Tryd.prog 73 #[.int .u16 x, .int .u16 y] w (.int .i64 (cmp3 x y)) := by
  refine specV_of fun h0 hs H => ?_
  refine calls_of Tryd.func73 rfl Tryd.ntmps73 (by simp) ?_
  repeat' (first | ((first | refine WL.p rfl ?_ | refine WL.u ?_); first | (refine opk 1 rfl ?_; (refine ost_V H rfl (nan16 _ _) rfl ?_; clear H; intro wk H)) | refine pvQ ?_ | (refine opk 3 rfl ?_; (refine ost_cmp rfl rfl rfl rfl (fun hc => ?_) (fun hc => ?_) <;> (simp only [cmpP] at hc; try exact prIQ))) | (refine opk 4 rfl ?_; (refine ost_cmp rfl rfl rfl rfl (fun hc => ?_) (fun hc => ?_) <;> (simp only [cmpP] at hc; try exact prIQ)))) | refine Wc.seq ?_ | refine then_n ?_ | refine WL.nil ?_ | refine Wc.region ?_ | refine Wc.block ?_ | refine then_r ?_ | refine then_e ?_ | refine inb_e rfl ?_ | refine inb_o rfl ?_ | refine inb_n ?_ | refine inb_r ?_ | refine Wc.skip ?_ | refine Wc.exit ?_ | refine Wc.ret ?_ | refine Wc.cond_true rfl ?_ | refine Wc.cond_false rfl ?_)
  all_goals ((first | refine fn_ret1 (v := .bool _) rfl rfl ⟨?_, H.fr⟩ | refine fn_ret1 (v := .int _ _) rfl rfl ⟨?_, H.fr⟩ | refine fn_ret1 (v := .string _) rfl rfl ⟨?_, H.fr⟩); congr 1; simp [cmp3, *])
theorem page_order (a b : KeyT) (w : World) : SpecV Tryd.prog 60 #[.agg (cKey a).toArray, .agg (cKey b).toArray] w (.int .i64 (ordK a b)) := by
  refine specV_of fun h0 hs H => ?_
  have la := cKey_len a
  have lb := cKey_len b
  have ta := typed_cKey a; have tb := typed_cKey b
  refine calls_of Tryd.func60 rfl Tryd.ntmps60 (by simp) ?_
  repeat' (first | ((first | refine WL.p rfl ?_ | refine WL.u ?_); first | (refine opk 1 rfl ?_; first | (refine ost_V H rfl (cmp_Or _ _ _ _ _ _ (H.ownRdC (i := 0) rfl)) rfl ?_; clear H; intro wk H) | (refine ost_V H rfl (compare32 _ _ _) rfl ?_; clear H; intro wk H)) | refine pvQ ?_ | (refine opk 3 rfl ?_; first | (refine ost_eqA rfl (by decide) rfl rfl tyQ tyQ (fun hc => ?_) (fun hc => ?_) <;> try exact prEQ) | (refine ost_neA rfl (by decide) rfl rfl tyQ tyQ (fun hc => ?_) (fun hc => ?_) <;> try exact prEQ)) | (refine opk 9 rfl ?_; first | (refine ost_boxq H rfl ?_; clear H; intro bk wk H) | (refine ost_build1 H rfl rfl rfl evQ lsQ rfl ?_; clear H; intro bk wk H))) | refine Wc.seq ?_ | refine then_n ?_ | refine WL.nil ?_ | refine Wc.region ?_ | refine Wc.block ?_ | refine then_r ?_ | refine then_e ?_ | refine inb_e rfl ?_ | refine inb_o rfl ?_ | refine inb_n ?_ | refine inb_r ?_ | refine Wc.skip ?_ | refine Wc.exit ?_ | refine Wc.ret ?_ | refine Wc.cond_true rfl ?_ | refine Wc.cond_false rfl ?_ | (refine Wc.drawn (id := 3) 18 (by kernel_rfl) ?_) | (refine rgs_nil ?_; intro vs wk hE; replace H := H.ext hE; clear hE) | (refine RGs.bq (fun _ => rfl) rfl (by intro vs w hE hP; have H := H.ext hE; first | exact dbQ | fail) (fun hc => ?_) (fun hc => ?_) <;> ((try simp only [cmpP, decide_eq_true_eq, decide_eq_false_iff_not, dcd_iff, dcd_no] at hc); try exact prDQ)) | refine RGs.pq (fun _ => rfl) rfl (by intro vs w hE hP; have H := H.ext hE; first | (refine opk 1 rfl ?_; first | (exact ost_V0d rfl (compare16 _ _ _) rfl) | (exact ost_V0d rfl (compare32 _ _ _) rfl) | (exact ost_V0d rfl (compare8 _ _ _) rfl)) | exact dvQ | fail) ?_)
  · (first | refine fn_ret1 (v := .bool _) rfl rfl ⟨?_, H.fr⟩ | refine fn_ret1 (v := .int _ _) rfl rfl ⟨?_, H.fr⟩ | refine fn_ret1 (v := .string _) rfl rfl ⟨?_, H.fr⟩); rw [cKey_inj.1 hc, ordK_self]
  · (first | refine fn_ret1 (v := .bool _) rfl rfl ⟨?_, H.fr⟩ | refine fn_ret1 (v := .int _ _) rfl rfl ⟨?_, H.fr⟩ | refine fn_ret1 (v := .string _) rfl rfl ⟨?_, H.fr⟩); rfl
theorem page_Less (a b : KeyT) (w : World) : SpecV Tryd.prog 43 #[.agg (cKey a).toArray, .agg (cKey b).toArray] w (.bool (lessK a b)) := by
  refine specV_of fun h0 hs H => ?_
  have la := cKey_len a
  have lb := cKey_len b
  have hl := ordK_lt a b
  refine calls_of Tryd.func43 rfl Tryd.ntmps43 (by simp) ?_
  repeat' (first | ((first | refine WL.p rfl ?_ | refine WL.u ?_); first | (refine opk 1 rfl ?_; (refine ost_V H rfl (page_order _ _ _) rfl ?_; clear H; intro wk H)) | refine pvQ ?_ | (refine opk 3 rfl ?_; (refine ost_cmp rfl rfl rfl rfl (fun hc => ?_) (fun hc => ?_) <;> (simp only [cmpP] at hc; try exact prIQ))) | (refine opk 4 rfl ?_; (refine ost_cmp rfl rfl rfl rfl (fun hc => ?_) (fun hc => ?_) <;> (simp only [cmpP] at hc; try exact prIQ))) | (refine opk 9 rfl ?_; (refine ost_boxq H rfl ?_; clear H; intro bk wk H))) | refine Wc.seq ?_ | refine then_n ?_ | refine WL.nil ?_ | refine Wc.region ?_ | refine Wc.block ?_ | refine then_r ?_ | refine then_e ?_ | refine inb_e rfl ?_ | refine inb_o rfl ?_ | refine inb_n ?_ | refine inb_r ?_ | refine Wc.skip ?_ | refine Wc.exit ?_ | refine Wc.ret ?_ | refine Wc.cond_true rfl ?_ | refine Wc.cond_false rfl ?_)
  all_goals ((first | refine fn_ret1 (v := .bool _) rfl rfl ⟨?_, H.fr⟩ | refine fn_ret1 (v := .int _ _) rfl rfl ⟨?_, H.fr⟩ | refine fn_ret1 (v := .string _) rfl rfl ⟨?_, H.fr⟩); congr 1; simp [lessK, ← hl]; omega)
theorem r13_Less (a b : KeyT) (w : World) : SpecV Tryd.prog 47 #[.agg (cKey a).toArray, .agg (cKey b).toArray] w (.bool (lessK a b)) := by
  refine specV_of fun h0 hs H => ?_
  have la := cKey_len a
  have lb := cKey_len b
  have h1 := a.cart.toNat_lt; have h2 := a.dot.rep.toNat_lt; have h3 := a.dot.seq.toNat_lt
  have h4 := b.cart.toNat_lt; have h5 := b.dot.rep.toNat_lt; have h6 := b.dot.seq.toNat_lt
  refine calls_of Tryd.func47 rfl Tryd.ntmps47 (by simp) ?_
  repeat' (first | ((first | refine WL.p rfl ?_ | refine WL.u ?_); first | refine pvQ ?_ | (refine opk 3 rfl ?_; (refine ost_cmp rfl rfl rfl rfl (fun hc => ?_) (fun hc => ?_) <;> (simp only [cmpP] at hc; try exact prIQ))) | (refine opk 4 rfl ?_; (refine ost_cmp rfl rfl rfl rfl (fun hc => ?_) (fun hc => ?_) <;> (simp only [cmpP] at hc; try exact prIQ))) | (refine opk 9 rfl ?_; (refine ost_boxq H rfl ?_; clear H; intro bk wk H))) | refine Wc.seq ?_ | refine then_n ?_ | refine WL.nil ?_ | refine Wc.region ?_ | refine Wc.block ?_ | refine then_r ?_ | refine then_e ?_ | refine inb_e rfl ?_ | refine inb_o rfl ?_ | refine inb_n ?_ | refine inb_r ?_ | refine Wc.skip ?_ | refine Wc.exit ?_ | refine Wc.ret ?_ | refine Wc.cond_true rfl ?_ | refine Wc.cond_false rfl ?_)
  all_goals ((first | refine fn_ret1 (v := .bool _) rfl rfl ⟨?_, H.fr⟩ | refine fn_ret1 (v := .int _ _) rfl rfl ⟨?_, H.fr⟩ | refine fn_ret1 (v := .string _) rfl rfl ⟨?_, H.fr⟩); congr 1; symm; first | exact decide_eq_true (by unfold keyN; omega) | exact decide_eq_false (by unfold keyN; omega))
attribute [irreducible] keyN
end Go.Tg

set_option linter.unusedVariables false
set_option linter.unusedSimpArgs false
set_option maxRecDepth 100000
set_option maxHeartbeats 4000000
namespace Go.Tg
open Go Go.Proofs
open Go.ChangeShapes Go.WideShapes Go.ChangeAt Go.RowKit
theorem laid_cells {P : Program} {laid : List (String × DataW Unit)} {n : String} {d : DataW Unit} {W : World} (g : Nat) (T e : TypeId) (k : IntKind) (zs : List Int)
    (hp : (laid.all fun x => x.2.handleName?.isNone) = true) (hl : laid = [(n, d)]) (hg : P.globalNamed n = some g) (hT : (P.globals[g]?).map (·.type) = some T) (hu : P.underlying T = some (.array zs.length e))
    (he : P.underlying e = some (.int k)) (hc : P.cellsOf e = 1) (hcT : P.cellsOf T = zs.length) (hd : d = .agg (zs.map fun z => .lit (.int k z))) (h : laidMetH P laid W) :
    ∃ t fr, full W g = some (.cells (zs.map fun z => Value.int k z).toArray t fr) := by
  subst hl
  rw [MakeChecks.laidMetH_plain _ _ _ hp] at h
  obtain ⟨ps, ⟨g', t, cs, fuel, p, q, hg', ht, hv, hx, _, _⟩, _, _⟩ := h
  obtain rfl := Option.some.inj (hg.symm.trans hg')
  obtain rfl := Option.some.inj (hT.symm.trans ht)
  obtain ⟨xs, m, _, ex, hlen, hxl, hel⟩ := DataW.trod_array hu hx
  have e3 : xs.map (·.1) = zs.map fun z => .lit (.int k z) := by
    have := (Prod.mk.inj ex).1
    rw [hd] at this
    exact (DataW.agg.inj this).symm
  have hcs : cs.toList = zs.map fun z => Value.int k z := by
    apply List.ext_getElem
    · rw [hlen, hcT, List.length_map]
    · intro r h1 h2
      have hr : r < zs.length := by simpa using h2
      have hE := hel r hr
      rw [hc, Nat.mul_one, List.getElem?_eq_getElem (by omega)] at hE
      obtain ⟨z, e1, e2, _⟩ := DataW.trod_int he hE
      have e4 : (xs.map (·.1))[r]? = (zs.map fun z => (DataW.lit (.int k z) : DataW Unit))[r]? := by rw [e3]
      rw [List.getElem?_map, List.getElem?_map, List.getElem?_eq_getElem (by omega : r < xs.length), List.getElem?_eq_getElem hr, e2] at e4
      have hz : z = zs[r] := by
        simp only [Option.map_some, Option.some.injEq, DataW.lit.injEq, Lit.int.injEq, true_and] at e4
        exact e4
      have h0 : ((cs.toList.drop r).take 1)[0]? = some (.int k z) := by rw [e1]; rfl
      have h9 : cs.toList[r]? = some (.int k z) := by
        rw [List.getElem?_take, if_pos (by omega), List.getElem?_drop] at h0
        simpa using h0
      rw [List.getElem?_eq_getElem h1] at h9
      rw [Option.some.inj h9, hz, List.getElem_map]
  simp only [World.var?, hg, Option.bind_some] at hv
  split at hv
  · rename_i c9 t9 f9 e9
    obtain rfl := Option.some.inj hv
    refine ⟨t9, f9, ?_⟩
    show W.heap[g]? = _
    rw [e9, ← hcs]
  · cases hv
theorem half_of {laid : List (String × DataW Unit)} {W : World} (hl : laid = [("trug/crc.half", .agg (halfL.map fun z => .lit (.int .u32 z)))]) (h : laidMetH Tryd.prog laid W) : Half (full W) := by
  obtain ⟨t, fr, e⟩ := laid_cells (P := Tryd.prog) 0 186 26 .u32 halfL (by rw [hl]; rfl) hl (by kernel_rfl) (by kernel_rfl) Tryd.underlying186 Tryd.underlying26 (by kernel_rfl) (by kernel_rfl) rfl h
  exact ⟨t, fr, e⟩
end Go.Tg

