/- Contracts of Go functions that the laws reach: what each call answers and leaves in memory, for all arguments within the bounds that each theorem names. -/
import Derived.Test.YtajfhoeejeadkaaDoorInst
import Derived.Test.YtajfhoeejeadkaaDoorAuto
import Derived.Test.YtajfhoeejeadkaaDoorO3
set_option linter.unusedVariables false
set_option linter.unusedSimpArgs false
set_option maxRecDepth 100000
set_option maxHeartbeats 4000000
namespace Go.Tg
open Go Go.Proofs
structure KeyT where
  cart : UInt16
  dot : DotT
def cKey (k : KeyT) : List Value := [.int .u16 k.cart.toNat, .int .u8 k.dot.rep.toNat, .int .u32 k.dot.seq.toNat]
theorem cKey_len (k : KeyT) : (cKey k).length = 3 := rfl
def keyN (k : KeyT) : Nat := k.cart.toNat * 1099511627776 + k.dot.rep.toNat * 4294967296 + k.dot.seq.toNat
theorem keyN_inj {a b : KeyT} (h : keyN a = keyN b) : a = b := by
  have h1 := a.cart.toNat_lt; have h2 := a.dot.rep.toNat_lt; have h3 := a.dot.seq.toNat_lt
  have h4 := b.cart.toNat_lt; have h5 := b.dot.rep.toNat_lt; have h6 := b.dot.seq.toNat_lt
  unfold keyN at h
  have e1 : a.cart = b.cart := UInt16.toNat_inj.1 (by omega)
  have e2 : a.dot.rep = b.dot.rep := UInt8.toNat_inj.1 (by omega)
  have e3 : a.dot.seq = b.dot.seq := UInt32.toNat_inj.1 (by omega)
  obtain ⟨c, ⟨r, q⟩⟩ := a
  obtain ⟨c', ⟨r', q'⟩⟩ := b
  simp only at e1 e2 e3
  subst e1; subst e2; subst e3; rfl
theorem cKey_inj {a b : KeyT} : cKey a = cKey b ↔ a = b := by
  refine ⟨fun h => ?_, fun h => by rw [h]⟩
  unfold cKey at h
  simp only [List.cons.injEq, Value.int.injEq, true_and, and_true] at h
  exact keyN_inj (by unfold keyN; omega)
theorem typed_cKey (k : KeyT) : Typed [.i .u16, .i .u8, .i .u32] (cKey k) := rfl
def lessK (a b : KeyT) : Bool := decide (keyN a < keyN b)
def ordK (a b : KeyT) : Int := or3 (cmp3 a.cart.toNat b.cart.toNat) (cmp3 a.dot.rep.toNat b.dot.rep.toNat) (cmp3 a.dot.seq.toNat b.dot.seq.toNat)
theorem ordK_lt (a b : KeyT) : ordK a b < 0 ↔ keyN a < keyN b := by
  have h1 := a.cart.toNat_lt; have h2 := a.dot.rep.toNat_lt; have h3 := a.dot.seq.toNat_lt
  have h4 := b.cart.toNat_lt; have h5 := b.dot.rep.toNat_lt; have h6 := b.dot.seq.toNat_lt
  unfold ordK or3 cmp3 keyN
  repeat' split
  all_goals omega
theorem ordK_zero (a b : KeyT) : ordK a b = 0 ↔ keyN a = keyN b := by
  have h1 := a.cart.toNat_lt; have h2 := a.dot.rep.toNat_lt; have h3 := a.dot.seq.toNat_lt
  have h4 := b.cart.toNat_lt; have h5 := b.dot.rep.toNat_lt; have h6 := b.dot.seq.toNat_lt
  unfold ordK or3 cmp3 keyN
  repeat' split
  all_goals omega
theorem ordK_self (a : KeyT) : ordK a a = 0 := (ordK_zero a a).2 rfl
theorem nan16 (x : Int) (w : World) : SpecV Tryd.prog 137 #[.int .u16 x] w (.bool false) := by
  refine specV_of fun h0 hs H => ?_
  refine calls_of Tryd.func137 rfl Tryd.ntmps137 (by simp) ?_
  repeat' (first | ((first | refine WL.p rfl ?_ | refine WL.u ?_); first | refine pvQ ?_ | (refine opk 3 rfl ?_; (refine ost_cmp rfl rfl rfl rfl (fun hc => ?_) (fun hc => ?_) <;> (simp only [cmpP] at hc; try exact prIQ))) | (refine opk 4 rfl ?_; (refine ost_cmp rfl rfl rfl rfl (fun hc => ?_) (fun hc => ?_) <;> (simp only [cmpP] at hc; try exact prIQ)))) | refine Wc.seq ?_ | refine then_n ?_ | refine WL.nil ?_ | refine Wc.region ?_ | refine Wc.block ?_ | refine then_r ?_ | refine then_e ?_ | refine inb_e rfl ?_ | refine inb_o rfl ?_ | refine inb_n ?_ | refine inb_r ?_ | refine Wc.skip ?_ | refine Wc.exit ?_ | refine Wc.ret ?_ | refine Wc.cond_true rfl ?_ | refine Wc.cond_false rfl ?_)
  (first | refine fn_ret1 (v := .bool _) rfl rfl ⟨?_, H.fr⟩ | refine fn_ret1 (v := .int _ _) rfl rfl ⟨?_, H.fr⟩ | refine fn_ret1 (v := .string _) rfl rfl ⟨?_, H.fr⟩); rfl
theorem compare16 (x y : Int) (w : World) : SpecV Tryd.prog 111 #[.int .u16 x, .int .u16 y] w (.int .i64 (cmp3 x y)) := by
  refine specV_of fun h0 hs H => ?_
  refine calls_of Tryd.func111 rfl Tryd.ntmps111 (by simp) ?_
  repeat' (first | ((first | refine WL.p rfl ?_ | refine WL.u ?_); first | (refine opk 1 rfl ?_; (refine ost_V H rfl (nan16 _ _) rfl ?_; clear H; intro wk H)) | refine pvQ ?_ | (refine opk 3 rfl ?_; (refine ost_cmp rfl rfl rfl rfl (fun hc => ?_) (fun hc => ?_) <;> (simp only [cmpP] at hc; try exact prIQ))) | (refine opk 4 rfl ?_; (refine ost_cmp rfl rfl rfl rfl (fun hc => ?_) (fun hc => ?_) <;> (simp only [cmpP] at hc; try exact prIQ)))) | refine Wc.seq ?_ | refine then_n ?_ | refine WL.nil ?_ | refine Wc.region ?_ | refine Wc.block ?_ | refine then_r ?_ | refine then_e ?_ | refine inb_e rfl ?_ | refine inb_o rfl ?_ | refine inb_n ?_ | refine inb_r ?_ | refine Wc.skip ?_ | refine Wc.exit ?_ | refine Wc.ret ?_ | refine Wc.cond_true rfl ?_ | refine Wc.cond_false rfl ?_)
  all_goals ((first | refine fn_ret1 (v := .bool _) rfl rfl ⟨?_, H.fr⟩ | refine fn_ret1 (v := .int _ _) rfl rfl ⟨?_, H.fr⟩ | refine fn_ret1 (v := .string _) rfl rfl ⟨?_, H.fr⟩); congr 1; simp [cmp3, *])
theorem page_order (a b : KeyT) (w : World) : SpecV Tryd.prog 63 #[.agg (cKey a).toArray, .agg (cKey b).toArray] w (.int .i64 (ordK a b)) := by
  refine specV_of fun h0 hs H => ?_
  have la := cKey_len a
  have lb := cKey_len b
  have ta := typed_cKey a; have tb := typed_cKey b
  refine calls_of Tryd.func63 rfl Tryd.ntmps63 (by simp) ?_
  repeat' (first | ((first | refine WL.p rfl ?_ | refine WL.u ?_); first | (refine opk 1 rfl ?_; first | (refine ost_V H rfl (cmp_Or _ _ _ _ _ _ (H.ownRdC (i := 0) rfl)) rfl ?_; clear H; intro wk H) | (refine ost_V H rfl (compare32 _ _ _) rfl ?_; clear H; intro wk H)) | refine pvQ ?_ | (refine opk 3 rfl ?_; first | (refine ost_eqA rfl (by decide) rfl rfl tyQ tyQ (fun hc => ?_) (fun hc => ?_) <;> try exact prEQ) | (refine ost_neA rfl (by decide) rfl rfl tyQ tyQ (fun hc => ?_) (fun hc => ?_) <;> try exact prEQ)) | (refine opk 9 rfl ?_; first | (refine ost_boxq H rfl ?_; clear H; intro bk wk H) | (refine ost_build1 H rfl rfl rfl evQ lsQ rfl ?_; clear H; intro bk wk H))) | refine Wc.seq ?_ | refine then_n ?_ | refine WL.nil ?_ | refine Wc.region ?_ | refine Wc.block ?_ | refine then_r ?_ | refine then_e ?_ | refine inb_e rfl ?_ | refine inb_o rfl ?_ | refine inb_n ?_ | refine inb_r ?_ | refine Wc.skip ?_ | refine Wc.exit ?_ | refine Wc.ret ?_ | refine Wc.cond_true rfl ?_ | refine Wc.cond_false rfl ?_ | (refine Wc.drawn (id := 3) 18 (by kernel_rfl) ?_) | (refine rgs_nil ?_; intro vs wk hE; replace H := H.ext hE; clear hE) | (refine RGs.bq (fun _ => rfl) rfl (by intro vs w hE hP; have H := H.ext hE; first | exact dbQ | fail) (fun hc => ?_) (fun hc => ?_) <;> ((try simp only [cmpP, decide_eq_true_eq, decide_eq_false_iff_not, dcd_iff, dcd_no] at hc); try exact prDQ)) | refine RGs.pq (fun _ => rfl) rfl (by intro vs w hE hP; have H := H.ext hE; first | (refine opk 1 rfl ?_; first | (exact ost_V0d rfl (compare16 _ _ _) rfl) | (exact ost_V0d rfl (compare32 _ _ _) rfl) | (exact ost_V0d rfl (compare8 _ _ _) rfl)) | exact dvQ | fail) ?_)
  · (first | refine fn_ret1 (v := .bool _) rfl rfl ⟨?_, H.fr⟩ | refine fn_ret1 (v := .int _ _) rfl rfl ⟨?_, H.fr⟩ | refine fn_ret1 (v := .string _) rfl rfl ⟨?_, H.fr⟩); rw [cKey_inj.1 hc, ordK_self]
  · (first | refine fn_ret1 (v := .bool _) rfl rfl ⟨?_, H.fr⟩ | refine fn_ret1 (v := .int _ _) rfl rfl ⟨?_, H.fr⟩ | refine fn_ret1 (v := .string _) rfl rfl ⟨?_, H.fr⟩); rfl
theorem page_Less (a b : KeyT) (w : World) : SpecV Tryd.prog 25 #[.agg (cKey a).toArray, .agg (cKey b).toArray] w (.bool (lessK a b)) := by
  refine specV_of fun h0 hs H => ?_
  have la := cKey_len a
  have lb := cKey_len b
  have hl := ordK_lt a b
  refine calls_of Tryd.func25 rfl Tryd.ntmps25 (by simp) ?_
  repeat' (first | ((first | refine WL.p rfl ?_ | refine WL.u ?_); first | (refine opk 1 rfl ?_; (refine ost_V H rfl (page_order _ _ _) rfl ?_; clear H; intro wk H)) | refine pvQ ?_ | (refine opk 3 rfl ?_; (refine ost_cmp rfl rfl rfl rfl (fun hc => ?_) (fun hc => ?_) <;> (simp only [cmpP] at hc; try exact prIQ))) | (refine opk 4 rfl ?_; (refine ost_cmp rfl rfl rfl rfl (fun hc => ?_) (fun hc => ?_) <;> (simp only [cmpP] at hc; try exact prIQ))) | (refine opk 9 rfl ?_; (refine ost_boxq H rfl ?_; clear H; intro bk wk H))) | refine Wc.seq ?_ | refine then_n ?_ | refine WL.nil ?_ | refine Wc.region ?_ | refine Wc.block ?_ | refine then_r ?_ | refine then_e ?_ | refine inb_e rfl ?_ | refine inb_o rfl ?_ | refine inb_n ?_ | refine inb_r ?_ | refine Wc.skip ?_ | refine Wc.exit ?_ | refine Wc.ret ?_ | refine Wc.cond_true rfl ?_ | refine Wc.cond_false rfl ?_)
  all_goals ((first | refine fn_ret1 (v := .bool _) rfl rfl ⟨?_, H.fr⟩ | refine fn_ret1 (v := .int _ _) rfl rfl ⟨?_, H.fr⟩ | refine fn_ret1 (v := .string _) rfl rfl ⟨?_, H.fr⟩); congr 1; simp [lessK, ← hl]; omega)
theorem r13_Less (a b : KeyT) (w : World) : SpecV Tryd.prog 26 #[.agg (cKey a).toArray, .agg (cKey b).toArray] w (.bool (lessK a b)) := by
  refine specV_of fun h0 hs H => ?_
  have la := cKey_len a
  have lb := cKey_len b
  have h1 := a.cart.toNat_lt; have h2 := a.dot.rep.toNat_lt; have h3 := a.dot.seq.toNat_lt
  have h4 := b.cart.toNat_lt; have h5 := b.dot.rep.toNat_lt; have h6 := b.dot.seq.toNat_lt
  refine calls_of Tryd.func26 rfl Tryd.ntmps26 (by simp) ?_
  repeat' (first | ((first | refine WL.p rfl ?_ | refine WL.u ?_); first | refine pvQ ?_ | (refine opk 3 rfl ?_; (refine ost_cmp rfl rfl rfl rfl (fun hc => ?_) (fun hc => ?_) <;> (simp only [cmpP] at hc; try exact prIQ))) | (refine opk 4 rfl ?_; (refine ost_cmp rfl rfl rfl rfl (fun hc => ?_) (fun hc => ?_) <;> (simp only [cmpP] at hc; try exact prIQ))) | (refine opk 9 rfl ?_; (refine ost_boxq H rfl ?_; clear H; intro bk wk H))) | refine Wc.seq ?_ | refine then_n ?_ | refine WL.nil ?_ | refine Wc.region ?_ | refine Wc.block ?_ | refine then_r ?_ | refine then_e ?_ | refine inb_e rfl ?_ | refine inb_o rfl ?_ | refine inb_n ?_ | refine inb_r ?_ | refine Wc.skip ?_ | refine Wc.exit ?_ | refine Wc.ret ?_ | refine Wc.cond_true rfl ?_ | refine Wc.cond_false rfl ?_)
  all_goals ((first | refine fn_ret1 (v := .bool _) rfl rfl ⟨?_, H.fr⟩ | refine fn_ret1 (v := .int _ _) rfl rfl ⟨?_, H.fr⟩ | refine fn_ret1 (v := .string _) rfl rfl ⟨?_, H.fr⟩); congr 1; symm; first | exact decide_eq_true (by unfold keyN; omega) | exact decide_eq_false (by unfold keyN; omega))
attribute [irreducible] keyN
end Go.Tg

