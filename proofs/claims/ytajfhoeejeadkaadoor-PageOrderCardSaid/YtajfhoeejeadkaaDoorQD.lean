/- Proved: the given statement PageOrderCardSaid: the Go law PageOrder returns true for every input that it is asked of. No conditions. -/
import Derived.Test.YtajfhoeejeadkaaDoorInst
import Derived.Test.YtajfhoeejeadkaaDoorAuto
import Derived.Test.YtajfhoeejeadkaaDoorQC
import Derived.Test.YtajfhoeejeadkaaDoorChn
import Derived.Test.YtajfhoeejeadkaaDoorL2
import Derived.Test.YtajfhoeejeadkaaDoorQ2
import Derived.Test.YtajfhoeejeadkaaDoorW6
import Derived.Test.YtajfhoeejeadkaaDoorArgs
import Derived.Test.YtajfhoeejeadkaaDoorCards
import Derived.Test.YtajfhoeejeadkaaDoorTie
import Derived.SevenTiedAt
set_option linter.unusedVariables false
set_option linter.unusedSimpArgs false
set_option maxRecDepth 100000
set_option maxHeartbeats 4000000
namespace Go.Tg
open Go Go.Proofs
def ckm (i j : Nat) (k : KeyT) : Cm := ⟨i, j, [], fun v L' => ∃ b, v = pt b ∧ L' = [.blk b (.cells [.int .u16 0, .int .u8 0, .int .u32 0].toArray 42 (0, 0))], fun v L' => ∃ b, v = pt b ∧ L' = [.blk b (.cells (cKey k).toArray 42 (0, 0))]⟩
theorem law_PageOrder (a b c : KeyT) (w : World) (hT0 : Half (full w)) : SpecV Tryd.prog 6 #[.agg (cKey a).toArray, .agg (cKey b).toArray, .agg (cKey c).toArray] w (.bool true) := by
  have H := St.start (sat_full w)
  generalize hh : full w = h0 at H hT0
  have hT := hT0
  unfold SpecV
  refine calls_of Tryd.func6 rfl Tryd.ntmps6 (by simp) ?_
  have l1 := cKey_len a; have l2 := cKey_len b; have l3 := cKey_len c
  have lq : ∀ (x y : KeyT) (q : Bool), lessK x y = q → ∀ w, SpecV Tryd.prog 25 #[.agg (cKey x).toArray, .agg (cKey y).toArray] w (.bool q) := fun x y q hq w => by
    have := page_Less x y w; rw [hq] at this; exact this
  have i0 : cKey a = cKey b ↔ keyN a = keyN b := ⟨fun h => by rw [cKey_inj.1 h], fun h => by rw [keyN_inj h]⟩
  have t1 := lq a b _ rfl
  repeat' (first | ((first | refine WL.p rfl ?_ | refine WL.u ?_ | refine WL.g rfl rfl ?_ | refine WL.gu rfl ?_); first | (refine opk 1 rfl ?_; (refine ost_V H rfl (alive13 _ _ (sat_full _) (hT.full H)) rfl ?_; clear H; intro wk H)) | refine pvQ ?_ | (refine opk 3 rfl ?_; first | (refine ost_eqA rfl (by decide) rfl rfl tyQ tyQ (fun hc => ?_) (fun hc => ?_) <;> try exact prEQ) | (refine ost_neA rfl (by decide) rfl rfl tyQ tyQ (fun hc => ?_) (fun hc => ?_) <;> try exact prEQ)) | (refine opk 8 rfl ?_; (refine ost_storeW H rfl rfl rfl rfl lQ ixQ lQ okQ ?_; clear H; intro wk H; simp only [List.set_cons_zero, List.set_cons_succ, Nat.reduceAdd] at H)) | (refine opk 9 rfl ?_; first | (refine ost_boxq H rfl ?_; clear H; intro bk wk H) | (refine ost_allocA H rfl ?_; clear H; intro bk wk H))) | refine Wc.seq ?_ | refine then_n ?_ | refine WL.nil ?_ | refine Wc.region ?_ | refine Wc.block ?_ | refine then_r ?_ | refine then_e ?_ | refine inb_e rfl ?_ | refine inb_o rfl ?_ | refine inb_n ?_ | refine inb_r ?_ | refine Wc.skip ?_ | refine Wc.exit ?_ | refine Wc.ret ?_ | refine Wc.cond_true rfl ?_ | refine Wc.cond_false rfl ?_ | (refine Wc.drawn (id := 4) 5 (by kernel_rfl) ?_) | refine WL.skp rfl rfl ?_ | refine WL.sku rfl ?_ | (refine rgs_nil ?_; intro vs wk hE; replace H := H.ext hE; clear hE) | refine RGs.skp (fun _ => rfl) rfl ?_ | (refine RGs.bq (fun _ => rfl) rfl (by intro vs w hE hP; have H := H.ext hE; first | exact dbQ | fail) (fun hc => ?_) (fun hc => ?_) <;> ((try simp only [cmpP, decide_eq_true_eq, decide_eq_false_iff_not, dcd_iff, dcd_no] at hc); try exact prDQ)) | refine RGs.pq (fun _ => rfl) rfl (by intro vs w hE hP; have H := H.ext hE; first | exact dvQ | fail) ?_)
  refine Wc.drawC (id := 3) 8 [ckm 3 6 a, ckm 4 7 b, ckm 5 8 c] [.blk _ _, .blk _ _, .blk _ _] [(3, 6), (4, 7), (5, 8)] H (by kernel_rfl) rfl (by kernel_rfl) (by first | exact List.Perm.refl _ | (simp [inpC, ckm]; done)) ?_
  refine RGc.p rfl rfl (by intro vs w T hP H; simp only [List.cons_append, List.nil_append] at H; exact dvQ) ?_
  refine RGc.p rfl rfl (by intro vs w T hP H; simp only [List.cons_append, List.nil_append] at H; exact dvQ) ?_
  refine RGc.p rfl rfl (by intro vs w T hP H; simp only [List.cons_append, List.nil_append] at H; exact dvQ) ?_
  refine RGc.m (m := ckm 3 6 a) rfl (by intro vs w T hP H; refine ost_allocA H rfl ?_; intro bk wk H2; exact ⟨[_], ⟨_, rfl, rfl⟩, H2⟩) ?_
  refine RGc.m (m := ckm 4 7 b) rfl (by intro vs w T hP H; refine ost_allocA H rfl ?_; intro bk wk H2; exact ⟨[_], ⟨_, rfl, rfl⟩, H2⟩) ?_
  refine RGc.m (m := ckm 5 8 c) rfl (by intro vs w T hP H; refine ost_allocA H rfl ?_; intro bk wk H2; exact ⟨[_], ⟨_, rfl, rfl⟩, H2⟩) ?_
  refine RGc.s (m := ckm 3 6 a) rfl rfl (by intro vs w T L1 hP h1 H; obtain ⟨b9, e9, rfl⟩ := h1; refine ost_storeW (i := 0) H rfl rfl e9 rfl (by rfl) rfl rfl (allOne_of rfl) ?_; intro wk H2; exact ⟨[_], ⟨_, e9, rfl⟩, H2⟩) ?_
  refine RGc.s (m := ckm 4 7 b) rfl rfl (by intro vs w T L1 hP h1 H; obtain ⟨b9, e9, rfl⟩ := h1; refine ost_storeW (i := 0) H rfl rfl e9 rfl (by rfl) rfl rfl (allOne_of rfl) ?_; intro wk H2; exact ⟨[_], ⟨_, e9, rfl⟩, H2⟩) ?_
  refine RGc.nil ?_
  intro vs wk outs HM hR
  obtain ⟨bx, ex, ox⟩ := (hR (ckm 3 6 a) (by simp)).1 (by simp [ckm])
  obtain ⟨by', ey, oy⟩ := (hR (ckm 4 7 b) (by simp)).1 (by simp [ckm])
  obtain ⟨bz, ez, oz⟩ := (hR (ckm 5 8 c) (by simp)).2 (by simp [ckm])
  have hv3 : vs (0 + 1 + 1 + 1) = _ := ex
  have hv4 : vs (0 + 1 + 1 + 1 + 1) = _ := ey
  have hv5 : vs (0 + 1 + 1 + 1 + 1 + 1) = _ := ez
  simp only [outsC, ox, oy, oz, List.cons_append, List.nil_append, List.append_nil] at HM
  (try dsimp only)
  rw [hv3, hv4, hv5]
  replace H := HM
  clear HM hR hv3 hv4 hv5
  have ll : ∀ (x y : KeyT), lessK x y = true ↔ keyN x < keyN y := fun x y => lessK_iff
  rcases Nat.lt_trichotomy (keyN a) (keyN b) with hab | hab | hab
  · have q1 := (ll a b).2 hab
    have q2 : lessK b a = false := by cases e : lessK b a with | false => rfl | true => exact absurd ((ll b a).1 e) (by omega)
    have hne : ¬ cKey a = cKey b := fun e => by have := i0.1 e; omega
    cases q3 : lessK b c with
    | false =>
      have x1 := lq a b _ q1; have x2 := lq b a _ q2; have x3 := lq b c _ q3
      clear ll
      repeat' (first | ((first | refine WL.p rfl ?_ | refine WL.u ?_ | refine WL.g rfl rfl ?_ | refine WL.gu rfl ?_); first | (refine opk 1 rfl ?_; first | (refine ost_V H rfl (x1 _) rfl ?_; clear H; intro wk H) | (refine ost_V H rfl (x2 _) rfl ?_; clear H; intro wk H) | (refine ost_V H rfl (x3 _) rfl ?_; clear H; intro wk H)) | (refine opk 3 rfl ?_; (refine ost_boolNe rfl rfl rfl ?_)) | refine pvQ ?_ | (refine opk 3 rfl ?_; first | (refine ost_eqA rfl (by decide) rfl rfl tyQ tyQ (fun hc => ?_) (fun hc => ?_) <;> try exact prEQ) | (refine ost_neA rfl (by decide) rfl rfl tyQ tyQ (fun hc => ?_) (fun hc => ?_) <;> try exact prEQ)) | (refine opk 8 rfl ?_; (refine ost_storeW H rfl rfl rfl rfl lQ ixQ lQ okQ ?_; clear H; intro wk H; simp only [List.set_cons_zero, List.set_cons_succ, Nat.reduceAdd] at H)) | (refine opk 9 rfl ?_; first | (refine ost_boxq H rfl ?_; clear H; intro bk wk H) | (refine ost_allocA H rfl ?_; clear H; intro bk wk H))) | refine Wc.seq ?_ | refine then_n ?_ | refine WL.nil ?_ | refine Wc.region ?_ | refine Wc.block ?_ | refine then_r ?_ | refine then_e ?_ | refine inb_e rfl ?_ | refine inb_o rfl ?_ | refine inb_n ?_ | refine inb_r ?_ | refine Wc.skip ?_ | refine Wc.exit ?_ | refine Wc.ret ?_ | refine Wc.cond_true rfl ?_ | refine Wc.cond_false rfl ?_ | (refine Wc.drawn (id := 3) 8 (by kernel_rfl) ?_) | (refine Wc.drawn (id := 4) 5 (by kernel_rfl) ?_) | refine WL.skp rfl rfl ?_ | refine WL.sku rfl ?_ | (refine rgs_nil ?_; intro vs wk hE; replace H := H.ext hE; clear hE) | refine RGs.skp (fun _ => rfl) rfl ?_ | (refine RGs.bq (fun _ => rfl) rfl (by intro vs w hE hP; have H := H.ext hE; first | exact dbQ | fail) (fun hc => ?_) (fun hc => ?_) <;> ((try simp only [cmpP, decide_eq_true_eq, decide_eq_false_iff_not, dcd_iff, dcd_no] at hc); try exact prDQ)) | refine RGs.pq (fun _ => rfl) rfl (by intro vs w hE hP; have H := H.ext hE; first | (refine opk 1 rfl ?_; first | (exact ost_V0d rfl (x1 _) rfl) | (exact ost_V0d rfl (x2 _) rfl) | (exact ost_V0d rfl (x3 _) rfl)) | exact dvQ | fail) ?_)
      all_goals ((first | refine fn_ret1 (v := .bool _) rfl rfl ⟨?_, H.fr⟩ | refine fn_ret1 (v := .int _ _) rfl rfl ⟨?_, H.fr⟩ | refine fn_ret1 (v := .string _) rfl rfl ⟨?_, H.fr⟩); rfl)
    | true =>
      have q4 : lessK a c = true := (ll a c).2 (by have := (ll b c).1 q3; omega)
      have x1 := lq a b _ q1; have x2 := lq b a _ q2; have x3 := lq b c _ q3; have x4 := lq a c _ q4
      clear ll
      repeat' (first | ((first | refine WL.p rfl ?_ | refine WL.u ?_ | refine WL.g rfl rfl ?_ | refine WL.gu rfl ?_); first | (refine opk 1 rfl ?_; first | (refine ost_V H rfl (x1 _) rfl ?_; clear H; intro wk H) | (refine ost_V H rfl (x2 _) rfl ?_; clear H; intro wk H) | (refine ost_V H rfl (x3 _) rfl ?_; clear H; intro wk H) | (refine ost_V H rfl (x4 _) rfl ?_; clear H; intro wk H)) | (refine opk 3 rfl ?_; (refine ost_boolNe rfl rfl rfl ?_)) | refine pvQ ?_ | (refine opk 3 rfl ?_; first | (refine ost_eqA rfl (by decide) rfl rfl tyQ tyQ (fun hc => ?_) (fun hc => ?_) <;> try exact prEQ) | (refine ost_neA rfl (by decide) rfl rfl tyQ tyQ (fun hc => ?_) (fun hc => ?_) <;> try exact prEQ)) | (refine opk 8 rfl ?_; (refine ost_storeW H rfl rfl rfl rfl lQ ixQ lQ okQ ?_; clear H; intro wk H; simp only [List.set_cons_zero, List.set_cons_succ, Nat.reduceAdd] at H)) | (refine opk 9 rfl ?_; first | (refine ost_boxq H rfl ?_; clear H; intro bk wk H) | (refine ost_allocA H rfl ?_; clear H; intro bk wk H))) | refine Wc.seq ?_ | refine then_n ?_ | refine WL.nil ?_ | refine Wc.region ?_ | refine Wc.block ?_ | refine then_r ?_ | refine then_e ?_ | refine inb_e rfl ?_ | refine inb_o rfl ?_ | refine inb_n ?_ | refine inb_r ?_ | refine Wc.skip ?_ | refine Wc.exit ?_ | refine Wc.ret ?_ | refine Wc.cond_true rfl ?_ | refine Wc.cond_false rfl ?_ | (refine Wc.drawn (id := 3) 8 (by kernel_rfl) ?_) | (refine Wc.drawn (id := 4) 5 (by kernel_rfl) ?_) | refine WL.skp rfl rfl ?_ | refine WL.sku rfl ?_ | (refine rgs_nil ?_; intro vs wk hE; replace H := H.ext hE; clear hE) | refine RGs.skp (fun _ => rfl) rfl ?_ | (refine RGs.bq (fun _ => rfl) rfl (by intro vs w hE hP; have H := H.ext hE; first | exact dbQ | fail) (fun hc => ?_) (fun hc => ?_) <;> ((try simp only [cmpP, decide_eq_true_eq, decide_eq_false_iff_not, dcd_iff, dcd_no] at hc); try exact prDQ)) | refine RGs.pq (fun _ => rfl) rfl (by intro vs w hE hP; have H := H.ext hE; first | (refine opk 1 rfl ?_; first | (exact ost_V0d rfl (x1 _) rfl) | (exact ost_V0d rfl (x2 _) rfl) | (exact ost_V0d rfl (x3 _) rfl) | (exact ost_V0d rfl (x4 _) rfl)) | exact dvQ | fail) ?_)
      all_goals ((first | refine fn_ret1 (v := .bool _) rfl rfl ⟨?_, H.fr⟩ | refine fn_ret1 (v := .int _ _) rfl rfl ⟨?_, H.fr⟩ | refine fn_ret1 (v := .string _) rfl rfl ⟨?_, H.fr⟩); rfl)
  · have q1 : lessK a b = false := by cases e : lessK a b with | false => rfl | true => exact absurd ((ll a b).1 e) (by omega)
    have q2 : lessK b a = false := by cases e : lessK b a with | false => rfl | true => exact absurd ((ll b a).1 e) (by omega)
    have hne : cKey a = cKey b := i0.2 hab
    have x1 := lq a b _ q1; have x2 := lq b a _ q2
    clear ll
    repeat' (first | ((first | refine WL.p rfl ?_ | refine WL.u ?_ | refine WL.g rfl rfl ?_ | refine WL.gu rfl ?_); first | (refine opk 1 rfl ?_; first | (refine ost_V H rfl (x1 _) rfl ?_; clear H; intro wk H) | (refine ost_V H rfl (x2 _) rfl ?_; clear H; intro wk H)) | (refine opk 3 rfl ?_; (refine ost_boolNe rfl rfl rfl ?_)) | refine pvQ ?_ | (refine opk 3 rfl ?_; first | (refine ost_eqA rfl (by decide) rfl rfl tyQ tyQ (fun hc => ?_) (fun hc => ?_) <;> try exact prEQ) | (refine ost_neA rfl (by decide) rfl rfl tyQ tyQ (fun hc => ?_) (fun hc => ?_) <;> try exact prEQ)) | (refine opk 8 rfl ?_; (refine ost_storeW H rfl rfl rfl rfl lQ ixQ lQ okQ ?_; clear H; intro wk H; simp only [List.set_cons_zero, List.set_cons_succ, Nat.reduceAdd] at H)) | (refine opk 9 rfl ?_; first | (refine ost_boxq H rfl ?_; clear H; intro bk wk H) | (refine ost_allocA H rfl ?_; clear H; intro bk wk H))) | refine Wc.seq ?_ | refine then_n ?_ | refine WL.nil ?_ | refine Wc.region ?_ | refine Wc.block ?_ | refine then_r ?_ | refine then_e ?_ | refine inb_e rfl ?_ | refine inb_o rfl ?_ | refine inb_n ?_ | refine inb_r ?_ | refine Wc.skip ?_ | refine Wc.exit ?_ | refine Wc.ret ?_ | refine Wc.cond_true rfl ?_ | refine Wc.cond_false rfl ?_ | (refine Wc.drawn (id := 3) 8 (by kernel_rfl) ?_) | (refine Wc.drawn (id := 4) 5 (by kernel_rfl) ?_) | refine WL.skp rfl rfl ?_ | refine WL.sku rfl ?_ | (refine rgs_nil ?_; intro vs wk hE; replace H := H.ext hE; clear hE) | refine RGs.skp (fun _ => rfl) rfl ?_ | (refine RGs.bq (fun _ => rfl) rfl (by intro vs w hE hP; have H := H.ext hE; first | exact dbQ | fail) (fun hc => ?_) (fun hc => ?_) <;> ((try simp only [cmpP, decide_eq_true_eq, decide_eq_false_iff_not, dcd_iff, dcd_no] at hc); try exact prDQ)) | refine RGs.pq (fun _ => rfl) rfl (by intro vs w hE hP; have H := H.ext hE; first | (refine opk 1 rfl ?_; first | (exact ost_V0d rfl (x1 _) rfl) | (exact ost_V0d rfl (x2 _) rfl)) | exact dvQ | fail) ?_)
    all_goals ((first | refine fn_ret1 (v := .bool _) rfl rfl ⟨?_, H.fr⟩ | refine fn_ret1 (v := .int _ _) rfl rfl ⟨?_, H.fr⟩ | refine fn_ret1 (v := .string _) rfl rfl ⟨?_, H.fr⟩); rfl)
  · have q2 := (ll b a).2 hab
    have q1 : lessK a b = false := by cases e : lessK a b with | false => rfl | true => exact absurd ((ll a b).1 e) (by omega)
    have hne : ¬ cKey a = cKey b := fun e => by have := i0.1 e; omega
    have x1 := lq a b _ q1; have x2 := lq b a _ q2
    clear ll
    repeat' (first | ((first | refine WL.p rfl ?_ | refine WL.u ?_ | refine WL.g rfl rfl ?_ | refine WL.gu rfl ?_); first | (refine opk 1 rfl ?_; first | (refine ost_V H rfl (x1 _) rfl ?_; clear H; intro wk H) | (refine ost_V H rfl (x2 _) rfl ?_; clear H; intro wk H)) | (refine opk 3 rfl ?_; (refine ost_boolNe rfl rfl rfl ?_)) | refine pvQ ?_ | (refine opk 3 rfl ?_; first | (refine ost_eqA rfl (by decide) rfl rfl tyQ tyQ (fun hc => ?_) (fun hc => ?_) <;> try exact prEQ) | (refine ost_neA rfl (by decide) rfl rfl tyQ tyQ (fun hc => ?_) (fun hc => ?_) <;> try exact prEQ)) | (refine opk 8 rfl ?_; (refine ost_storeW H rfl rfl rfl rfl lQ ixQ lQ okQ ?_; clear H; intro wk H; simp only [List.set_cons_zero, List.set_cons_succ, Nat.reduceAdd] at H)) | (refine opk 9 rfl ?_; first | (refine ost_boxq H rfl ?_; clear H; intro bk wk H) | (refine ost_allocA H rfl ?_; clear H; intro bk wk H))) | refine Wc.seq ?_ | refine then_n ?_ | refine WL.nil ?_ | refine Wc.region ?_ | refine Wc.block ?_ | refine then_r ?_ | refine then_e ?_ | refine inb_e rfl ?_ | refine inb_o rfl ?_ | refine inb_n ?_ | refine inb_r ?_ | refine Wc.skip ?_ | refine Wc.exit ?_ | refine Wc.ret ?_ | refine Wc.cond_true rfl ?_ | refine Wc.cond_false rfl ?_ | (refine Wc.drawn (id := 3) 8 (by kernel_rfl) ?_) | (refine Wc.drawn (id := 4) 5 (by kernel_rfl) ?_) | refine WL.skp rfl rfl ?_ | refine WL.sku rfl ?_ | (refine rgs_nil ?_; intro vs wk hE; replace H := H.ext hE; clear hE) | refine RGs.skp (fun _ => rfl) rfl ?_ | (refine RGs.bq (fun _ => rfl) rfl (by intro vs w hE hP; have H := H.ext hE; first | exact dbQ | fail) (fun hc => ?_) (fun hc => ?_) <;> ((try simp only [cmpP, decide_eq_true_eq, decide_eq_false_iff_not, dcd_iff, dcd_no] at hc); try exact prDQ)) | refine RGs.pq (fun _ => rfl) rfl (by intro vs w hE hP; have H := H.ext hE; first | (refine opk 1 rfl ?_; first | (exact ost_V0d rfl (x1 _) rfl) | (exact ost_V0d rfl (x2 _) rfl)) | exact dvQ | fail) ?_)
    all_goals ((first | refine fn_ret1 (v := .bool _) rfl rfl ⟨?_, H.fr⟩ | refine fn_ret1 (v := .int _ _) rfl rfl ⟨?_, H.fr⟩ | refine fn_ret1 (v := .string _) rfl rfl ⟨?_, H.fr⟩); rfl)
end Go.Tg
namespace Go.Proofs.YtajfhoeejeadkaaDoor
open Go.ChangeShapes Go.WideShapes Go.ChangeAt Go.RowKit Go.Tg
theorem pageOrder_lifted (os : Os) (started : os.Started) (H : Type) (enc : TypeId × Value → H) :
    ReturnsInHanded {} Tryd.checked os 6 .any (fun w args => (Rows.pageOrderSpec.pre enc Tryd.prog Tryd.f6 Rows.pageOrderRow.domain false w args ∧ laidMetH Tryd.prog Rows.pageOrderRow.laid w) ∧ sizedMet enc Tryd.prog Tryd.f6 (OpenSpec.ofChange Rows.pageOrderSpec) false w args) (Rows.pageOrderSpec.post enc Tryd.prog Tryd.f6 false true false false) := by
  refine returnsInHanded_of_change_and (C := Tryd.checked) (X := fun w _ => laidMetH Tryd.prog Rows.pageOrderRow.laid w) (fun _ _ _ hh h => h.of_heap hh) own_ started (by kernel_rfl) Tryd.func6
    (ChangeSpec.witness_shaped (enc := enc) (C := Tryd.checked) (os := os) (X := fun w _ => laidMetH Tryd.prog Rows.pageOrderRow.laid w) false (World.laidAll Tryd.prog os Rows.pageOrderRow.laid) #[.agg #[.int .u16 0, .int .u8 0, .int .u32 0], .agg #[.int .u16 0, .int .u8 0, .int .u32 0], .agg #[.int .u16 0, .int .u8 0, .int .u32 0]] 8 (World.laidAll_os _ _ _)
      (World.shaped_of_ZipB (by kernel_rfl) (by kernel_rfl)) (by kernel_rfl) (by kernel_rfl) (by kernel_rfl)
      (by rw [MakeChecks.laidMetH_plain _ _ _ (by kernel_rfl)]; exact laidMet_laidAll _ (by kernel_rfl) (by kernel_rfl))) ?_
  intro W base args ds gs before hval0 hW hcnd _ hLd _
  have hval : ∀ (j : Nat) t v, Tryd.f6.params[j]? = some t → args[j]? = some v → Value.okWide Tryd.prog W .any base t v := hval0
  have hT : Half (full W) := half_of (by rfl) hLd
  have hW' := hW
  obtain ⟨p, q, hA0, -, -, -, -⟩ := hW'
  have hA : DataW.TrodAll enc Tryd.prog W 0 (fun _ => true) true Tryd.f6.params.toList args.toList ds p := hA0
  rw [Tryd.params6] at hA hval
  obtain ⟨v0, v1, v2, d0, d1, d2, p0, p1, p2, rfl, rfl, rfl, h0, h1, h2⟩ := trodAll_three hA
  obtain ⟨ka, rfl⟩ := key_ok (hval 0 _ v0 rfl rfl)
  obtain ⟨kb, rfl⟩ := key_ok (hval 1 _ v1 rfl rfl)
  obtain ⟨kc, rfl⟩ := key_ok (hval 2 _ v2 rfl rfl)
  refine (law_PageOrder ka kb kc W hT).mono fun e W' ⟨v, he, hv, hE⟩ => ⟨v, he, ?_⟩
  subst hv
  exact law_post rfl hW hE rfl (by kernel_rfl) Tryd.underlying4 laid_ (by kernel_rfl)
theorem pageOrder_said : Rows.PageOrderSaid :=
  OpenClaim.holds_of_wide 6 Tryd.f6 rfl rfl rfl rfl rfl rfl rfl ⟨rfl, rfl, rfl, rfl, rfl⟩ rfl rfl rfl rfl rfl (by kernel_rfl) Tryd.func6 (by kernel_rfl)
    (of_decide_eq_true (by kernel_rfl)) (by unfold Func.isWrapper; first | (rw [if_pos (by decide +kernel)]; kernel_rfl) | (rw [if_neg (by decide +kernel)]; exact ⟨rfl, rfl⟩))
    (fun os started H enc _ => pageOrder_lifted os started H enc)
theorem pageOrder_holds : Rows.PageOrderCardSaid :=
  Claim7.holds_tied_plain_at .later [] [.data] true (true, "9bdefd4ab56ad6846b860e456533c8c9234d832d0db0c11e5e7191fbced85786") false pageOrder_said (fun _ h => by cases h) (by kernel_rfl) (fun _ h => by cases h) pageOrder_row_tie rfl ⟨rfl, rfl⟩ (by kernel_rfl) rfl
    (fun f fn hf hfn => by
      obtain rfl : f = 6 := Option.some.inj ((show Tryd.prog.funcNamed "trug/truglaw13.PageOrder" = some 6 by kernel_rfl).symm.trans hf) |>.symm
      obtain rfl : fn = Tryd.f6 := (Option.some.inj (Tryd.func6.symm.trans hfn)).symm
      exact ⟨by kernel_rfl, fun j t ht => by
        have hm : t ∈ Tryd.f6.params.toList := by simpa using Array.mem_of_getElem? ht
        have hall : (Tryd.f6.params.toList.all fun u => !Tryd.prog.wantsStandIn u) = true := by kernel_rfl
        exact (show Tryd.prog.wantsStandIn t = false by simpa using List.all_eq_true.1 hall t hm)⟩)
    (by kernel_rfl)
end Go.Proofs.YtajfhoeejeadkaaDoor

