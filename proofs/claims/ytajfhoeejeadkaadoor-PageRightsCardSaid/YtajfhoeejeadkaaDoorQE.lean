/- Proved: the given statement PageRightsCardSaid: the Go law PageRights returns true for every input that it is asked of. No conditions. -/
import Derived.Test.YtajfhoeejeadkaaDoorInst
import Derived.Test.YtajfhoeejeadkaaDoorAuto
import Derived.Test.YtajfhoeejeadkaaDoorQC
import Derived.Test.YtajfhoeejeadkaaDoorL3
import Derived.Test.YtajfhoeejeadkaaDoorCards
import Derived.Test.YtajfhoeejeadkaaDoorTie
import Derived.SevenTiedAt
set_option linter.unusedVariables false
set_option linter.unusedSimpArgs false
set_option maxRecDepth 100000
set_option maxHeartbeats 4000000
namespace Go.Tg
open Go Go.Proofs
def PGv (h : FH) (v : Value) (p : PageT) : Prop := ∃ A, v = .agg (pgV p A).toArray ∧ PgR h p A
theorem PGv.mono {h h' : FH} {v : Value} {p : PageT} (hle : FLe h h') (r : PGv h v p) : PGv h' v p := by
  obtain ⟨A, e, r⟩ := r; exact ⟨A, e, r.mono hle⟩
def GP (l : List (Nat × PageT)) : GF := fun i => match l.lookup i with | some xs => some fun v w => PGv (full w) v xs | none => none
theorem pf_P {ops : Array Oper} {l : List (Nat × PageT)} {i : Nat} {vs : Nat → Value} {w : World} {xs : PageT} (hP : PFs ops (GP l) i vs w) (p : Nat) (hd : direct ops i p = true) (hl : l.lookup p = some xs) (hs : (dstOf ops p).isSome = true) : PGv (full w) (vs p) xs :=
  hP p (fun v w => PGv (full w) v xs) hd (by unfold GP; rw [hl]) hs
theorem Wc.drawnP {P : Program} {w0 : World} {n : Nat} {Q : Exit → Env → World → Prop} {s0 : Env} (kb : Nat) (g : List (Nat × PageT)) {id : Nat} {l : List Oper} [hm : Mix P] (hok : drawOk n kb l.toArray = true)
    (h : RGs P l.toArray (GP g) w0 (fun sk => ∀ vs w, Ext w0 w → WL P n l.toArray Q (l.drop kb) (sk vs) w) 0 (l.take kb) (fun _ => s0)) :
    Wc P n (.region id l.toArray true) Q s0 w0 := by
  refine Wc.draw (G := GP g) kb hok hm.m (fun i q hq v w w' hv hE => ?_) ?_
  · unfold GP at hq
    cases hl : g.lookup i with
    | none => rw [hl] at hq; cases hq
    | some xs => rw [hl] at hq; cases hq; exact hv.mono (full_ext hE)
  · have key : ∀ (i : Nat) (rest : List Oper) (sk : (Nat → Value) → Env), RGs P l.toArray (GP g) w0 (fun sk => ∀ vs w, Ext w0 w → WL P n l.toArray Q (l.drop kb) (sk vs) w) i rest sk →
        RGs P l.toArray (GP g) w0 (fun sk => ∀ vs w, Ext w0 w → (∀ p q, p < kb → GP g p = some q → (dstOf l.toArray p).isSome = true → q (vs p) w) → WL P n l.toArray Q (l.drop kb) (sk vs) w) i rest sk := by
      intro i rest
      induction rest generalizing i with
      | nil => intro sk h; unfold RGs at h ⊢; exact fun vs w hE _ => h vs w hE
      | cons o rest ih =>
        intro sk h
        unfold RGs at h ⊢
        cases hg : GP g i with
        | some q => simp only [hg] at h ⊢; exact ⟨h.1, ih _ _ h.2⟩
        | none => simp only [hg] at h ⊢; obtain ⟨X, h1, h2⟩ := h; exact ⟨X, h1, ih _ _ h2⟩
    exact key _ _ _ h
section
variable {P : Program} {o : Oper} {s : Env} {w : World} {K : Value → World → Prop}
theorem ost_P {f : Nat} {args : List Operand} {at_ : Array TypeId} {vs : List Value} {p : PageT} [Fun P f] (ho : o.op = .call { callee := .value (.func f), args := args.toArray, argTypes := at_ })
    (hC : Spec P f vs.toArray w [] (full w) (fun v h' L' => ∃ A', v = .agg (pgV p A').toArray ∧ L' = [] ∧ PgR h' p A')) (hv : mapEv s args = vs) (hk : ∀ v w', Ext w w' → PGv (full w') v p → K v w') : Ost P o s w K :=
  ost_call ho hC hv fun v w' ⟨h', L', hs, hr⟩ => by
    obtain ⟨A', e, hl, hp⟩ := hr
    exact hk v w' hs.fr ⟨A', e, hp.mono hs.sat.le⟩
end
theorem few_le {p : PageT} (h : fewP p = true) : p.keys.length ≤ 1000000 ∧ p.locs.length ≤ 1000000 := by
  unfold fewP at h
  simp only [Bool.and_eq_true, decide_eq_true_eq] at h
  omega
theorem law_PageRights (p : PageT) (A : PAd) (a b : KeyT) (w : World) (hT0 : Half (full w)) (hP0 : PgR (full w) p A) : SpecV Tryd.prog 3 #[.agg (pgV p A).toArray, .agg (cKey a).toArray, .agg (cKey b).toArray] w (.bool true) := by
  have H := St.start (sat_full w)
  generalize hh : full w = h0 at H hT0 hP0
  unfold SpecV
  have l1 := cKey_len a; have l2 := cKey_len b; have lp := pgV_len p A
  have hR : ∀ (A : PAd) (w : World), PgR (full w) p A → SpecV Tryd.prog 23 #[.agg (pgV p A).toArray] w (.bool (rightP p)) := fun A w h => page_Right p A _ w (sat_full _) h
  have hR3 : ∀ (A : PAd) (w : World), PgR (full w) p A → SpecV Tryd.prog 24 #[.agg (pgV p A).toArray] w (.bool (rightP p)) := fun A w h => r13_Right p A _ w (sat_full _) h
  have hF : ∀ (A : PAd) (w : World), PgR (full w) p A → SpecV Tryd.prog 20 #[.agg (pgV p A).toArray, .agg (cKey a).toArray] w (.tuple #[.int .i64 (findP p a).1, .bool (findP p a).2]) := fun A w h => page_Find p A a _ w (sat_full _) h
  have hF3 : ∀ (A : PAd) (w : World), PgR (full w) p A → SpecV Tryd.prog 22 #[.agg (pgV p A).toArray, .agg (cKey a).toArray] w (.tuple #[.int .i64 (findP p a).1, .bool (findP p a).2]) := fun A w h => r13_Find p A a _ w (sat_full _) h
  have hL : ∀ w, SpecV Tryd.prog 25 #[.agg (cKey a).toArray, .agg (cKey b).toArray] w (.bool (lessK a b)) := fun w => page_Less a b w
  have hL3 : ∀ w, SpecV Tryd.prog 26 #[.agg (cKey a).toArray, .agg (cKey b).toArray] w (.bool (lessK a b)) := fun w => r13_Less a b w
  have hW := fun (hf : fewP p = true) (h0 : FH) (w : World) (hs : Sat h0 w) (h : PgR h0 p A) => law13_theirs p A h0 w hs h (few_le hf).1 (few_le hf).2
  have hfw := law13_few p A
  generalize rightP p = rp at hR hR3
  generalize (findP p a).1 = fn at hF hF3
  generalize (findP p a).2 = fq at hF hF3
  generalize lessK a b = lk at hL hL3
  refine calls_of Tryd.func3 rfl Tryd.ntmps3 (by simp) ?_
  cases hq : fewP p with
  | false =>
    rw [hq] at hfw
    repeat' (first | ((first | refine WL.p rfl ?_ | refine WL.u ?_ | refine WL.g rfl rfl ?_ | refine WL.gu rfl ?_); first | (refine opk 1 rfl ?_; first | (refine ost_V H rfl (alive13 _ _ (sat_full _) (hT0.full H)) rfl ?_; clear H; intro wk H) | (refine ost_V H rfl (hfw _) rfl ?_; clear H; intro wk H)) | refine pvQ ?_ | (refine opk 3 rfl ?_; (refine ost_cmp rfl rfl rfl rfl (fun hc => ?_) (fun hc => ?_) <;> (simp only [cmpP] at hc; try exact prIQ))) | (refine opk 4 rfl ?_; (refine ost_cmp rfl rfl rfl rfl (fun hc => ?_) (fun hc => ?_) <;> (simp only [cmpP] at hc; try exact prIQ))) | (refine opk 9 rfl ?_; (refine ost_boxq H rfl ?_; clear H; intro bk wk H))) | refine Wc.seq ?_ | refine then_n ?_ | refine WL.nil ?_ | refine Wc.region ?_ | refine Wc.block ?_ | refine then_r ?_ | refine then_e ?_ | refine inb_e rfl ?_ | refine inb_o rfl ?_ | refine inb_n ?_ | refine inb_r ?_ | refine Wc.skip ?_ | refine Wc.exit ?_ | refine Wc.ret ?_ | refine Wc.cond_true rfl ?_ | refine Wc.cond_false rfl ?_ | (refine Wc.drawn (id := 5) 8 (by kernel_rfl) ?_) | (refine Wc.drawn (id := 7) 23 (by kernel_rfl) ?_) | refine WL.skp rfl rfl ?_ | refine WL.sku rfl ?_ | (refine rgs_nil ?_; intro vs wk hE; replace H := H.ext hE; clear hE) | refine RGs.skp (fun _ => rfl) rfl ?_ | (refine RGs.bq (fun _ => rfl) rfl (by intro vs w hE hP; have H := H.ext hE; first | exact dbQ | fail) (fun hc => ?_) (fun hc => ?_) <;> ((try simp only [cmpP, decide_eq_true_eq, decide_eq_false_iff_not, dcd_iff, dcd_no] at hc); try exact prDQ)) | refine RGs.pq (fun _ => rfl) rfl (by intro vs w hE hP; have H := H.ext hE; first | exact dvQ | fail) ?_)
    (first | refine fn_ret1 (v := .bool _) rfl rfl ⟨?_, H.fr⟩ | refine fn_ret1 (v := .int _ _) rfl rfl ⟨?_, H.fr⟩ | refine fn_ret1 (v := .string _) rfl rfl ⟨?_, H.fr⟩); rfl
  | true =>
    rw [hq] at hfw
    have hW := hW hq
    repeat' (first | ((first | refine WL.p rfl ?_ | refine WL.u ?_ | refine WL.g rfl rfl ?_ | refine WL.gu rfl ?_); first | (refine opk 1 rfl ?_; first | (refine ost_V H rfl (alive13 _ _ (sat_full _) (hT0.full H)) rfl ?_; clear H; intro wk H) | (refine ost_V H rfl (hfw _) rfl ?_; clear H; intro wk H) | (refine ost_V H rfl (hF3 _ _ (hP0.full H)) rfl ?_; clear H; intro wk H)) | refine pvQ ?_ | (refine opk 3 rfl ?_; (refine ost_cmp rfl rfl rfl rfl (fun hc => ?_) (fun hc => ?_) <;> (simp only [cmpP] at hc; try exact prIQ))) | (refine opk 4 rfl ?_; (refine ost_cmp rfl rfl rfl rfl (fun hc => ?_) (fun hc => ?_) <;> (simp only [cmpP] at hc; try exact prIQ))) | (refine opk 9 rfl ?_; (refine ost_boxq H rfl ?_; clear H; intro bk wk H))) | refine Wc.seq ?_ | refine then_n ?_ | refine WL.nil ?_ | refine Wc.region ?_ | refine Wc.block ?_ | refine then_r ?_ | refine then_e ?_ | refine inb_e rfl ?_ | refine inb_o rfl ?_ | refine inb_n ?_ | refine inb_r ?_ | refine Wc.skip ?_ | refine Wc.exit ?_ | refine Wc.ret ?_ | refine Wc.cond_true rfl ?_ | refine Wc.cond_false rfl ?_ | (refine Wc.drawnP (id := 5) 8 [(1, p)] (by kernel_rfl) ?_) | (refine Wc.drawnP (id := 7) 23 [(1, p)] (by kernel_rfl) ?_) | refine WL.skp rfl rfl ?_ | refine WL.sku rfl ?_ | (refine rgs_nil ?_; intro vs wk hE; replace H := H.ext hE; clear hE) | refine RGs.skp (fun _ => rfl) rfl ?_ | (refine RGs.bq (fun _ => rfl) rfl (by intro vs w hE hP; have H := H.ext hE; first | (refine opk 1 rfl ?_; first | (exact ost_V0d rfl (hL _) rfl) | (exact ost_V0d rfl (hL3 _) rfl) | (exact ost_V0d rfl (hR3 _ _ (hP0.full H)) rfl) | (obtain ⟨A9, e9, r9⟩ := pf_P hP 1 (by kernel_rfl) rfl rfl; have c9 := hR A9 _ r9; rw [← e9] at c9; exact ost_V0d rfl c9 rfl)) | exact dbQ | fail) (fun hc => ?_) (fun hc => ?_) <;> ((try simp only [cmpP, decide_eq_true_eq, decide_eq_false_iff_not, dcd_iff, dcd_no] at hc); try exact prDQ)) | refine RGs.pq (fun _ => rfl) rfl (by intro vs w hE hP; have H := H.ext hE; first | (refine opk 1 rfl ?_; first | (obtain ⟨A9, e9, r9⟩ := pf_P hP 1 (by kernel_rfl) rfl rfl; have c9 := hF A9 _ r9; rw [← e9] at c9; exact ost_V0d rfl c9 rfl) | (exact ost_V0d rfl (hL _) rfl) | (exact ost_V0d rfl (hL3 _) rfl) | (exact ost_V0d rfl (hR3 _ _ (hP0.full H)) rfl) | (obtain ⟨A9, e9, r9⟩ := pf_P hP 1 (by kernel_rfl) rfl rfl; have c9 := hR A9 _ r9; rw [← e9] at c9; exact ost_V0d rfl c9 rfl)) | exact dvQ | fail) ?_ | refine RGs.sq (fun _ => rfl) rfl (by intro vs w hE hP; have H := H.ext hE; first | (refine ost_P rfl (hW _ _ (sat_full _) (hP0.full H)) rfl ?_; intro vk wk hX hB; exact ⟨hX, hB⟩) | fail) ?_)
    all_goals ((first | refine fn_ret1 (v := .bool _) rfl rfl ⟨?_, H.fr⟩ | refine fn_ret1 (v := .int _ _) rfl rfl ⟨?_, H.fr⟩ | refine fn_ret1 (v := .string _) rfl rfl ⟨?_, H.fr⟩); rfl)
end Go.Tg
namespace Go.Proofs.YtajfhoeejeadkaaDoor
open Go.ChangeShapes Go.WideShapes Go.ChangeAt Go.RowKit Go.Tg
theorem pageRights_lifted (os : Os) (started : os.Started) (H : Type) (enc : TypeId × Value → H) :
    ReturnsInHanded {} Tryd.checked os 3 .any (fun w args => (Rows.pageRightsSpec.pre enc Tryd.prog Tryd.f3 Rows.pageRightsRow.domain false w args ∧ laidMetH Tryd.prog Rows.pageRightsRow.laid w) ∧ sizedMet enc Tryd.prog Tryd.f3 (OpenSpec.ofChange Rows.pageRightsSpec) false w args) (Rows.pageRightsSpec.post enc Tryd.prog Tryd.f3 false true false false) := by
  refine returnsInHanded_of_change_and (C := Tryd.checked) (X := fun w _ => laidMetH Tryd.prog Rows.pageRightsRow.laid w) (fun _ _ _ hh h => h.of_heap hh) own_ started (by kernel_rfl) Tryd.func3
    (ChangeSpec.witness_shaped (enc := enc) (C := Tryd.checked) (os := os) (X := fun w _ => laidMetH Tryd.prog Rows.pageRightsRow.laid w) false (World.laidAll Tryd.prog os Rows.pageRightsRow.laid) #[.agg #[.bool false, .slice none 0 0, .slice none 0 0, .slice none 0 0], .agg #[.int .u16 0, .int .u8 0, .int .u32 0], .agg #[.int .u16 0, .int .u8 0, .int .u32 0]] 8 (World.laidAll_os _ _ _)
      (World.shaped_of_ZipB (by kernel_rfl) (by kernel_rfl)) (by kernel_rfl) (by kernel_rfl) (by kernel_rfl)
      (by rw [MakeChecks.laidMetH_plain _ _ _ (by kernel_rfl)]; exact laidMet_laidAll _ (by kernel_rfl) (by kernel_rfl))) ?_
  intro W base args ds gs before hval0 hW hcnd _ hLd _
  have hval : ∀ (j : Nat) t v, Tryd.f3.params[j]? = some t → args[j]? = some v → Value.okWide Tryd.prog W .any base t v := hval0
  have hT : Half (full W) := half_of (by rfl) hLd
  have hW' := hW
  obtain ⟨p, q, hA0, -, -, -, -⟩ := hW'
  have hA : DataW.TrodAll enc Tryd.prog W 0 (fun _ => true) true Tryd.f3.params.toList args.toList ds p := hA0
  rw [Tryd.params3] at hA hval
  obtain ⟨v0, v1, v2, d0, d1, d2, p0, p1, p2, rfl, rfl, rfl, h0, h1, h2⟩ := trodAll_three hA
  obtain ⟨ka, rfl⟩ := key_ok (hval 1 _ v1 rfl rfl)
  obtain ⟨kb, rfl⟩ := key_ok (hval 2 _ v2 rfl rfl)
  obtain ⟨pg, pga, e0, pgr⟩ := page_of (Td.of h0)
  obtain rfl := val_ofA e0 (okWide_struct Tryd.underlying26 (hval 0 _ v0 rfl rfl))
  refine (law_PageRights pg pga ka kb W hT pgr).mono fun e W' ⟨v, he, hv, hE⟩ => ⟨v, he, ?_⟩
  subst hv
  exact law_post rfl hW hE rfl (by kernel_rfl) Tryd.underlying4 laid_ (by kernel_rfl)
theorem pageRights_said : Rows.PageRightsSaid :=
  OpenClaim.holds_of_wide 3 Tryd.f3 rfl rfl rfl rfl rfl rfl rfl ⟨rfl, rfl, rfl, rfl, rfl⟩ rfl rfl rfl rfl rfl (by kernel_rfl) Tryd.func3 (by kernel_rfl)
    (of_decide_eq_true (by kernel_rfl)) (by unfold Func.isWrapper; first | (rw [if_pos (by decide +kernel)]; kernel_rfl) | (rw [if_neg (by decide +kernel)]; exact ⟨rfl, rfl⟩))
    (fun os started H enc _ => pageRights_lifted os started H enc)
theorem pageRights_holds : Rows.PageRightsCardSaid :=
  Claim7.holds_tied_plain_at .later [] [.data] true (true, "9bdefd4ab56ad6846b860e456533c8c9234d832d0db0c11e5e7191fbced85786") false pageRights_said (fun _ h => by cases h) (by kernel_rfl) (fun _ h => by cases h) pageRights_row_tie rfl ⟨rfl, rfl⟩ (by kernel_rfl) rfl
    (fun f fn hf hfn => by
      obtain rfl : f = 3 := Option.some.inj ((show Tryd.prog.funcNamed "trug/truglaw13.PageRights" = some 3 by kernel_rfl).symm.trans hf) |>.symm
      obtain rfl : fn = Tryd.f3 := (Option.some.inj (Tryd.func3.symm.trans hfn)).symm
      exact ⟨by kernel_rfl, fun j t ht => by
        have hm : t ∈ Tryd.f3.params.toList := by simpa using Array.mem_of_getElem? ht
        have hall : (Tryd.f3.params.toList.all fun u => !Tryd.prog.wantsStandIn u) = true := by kernel_rfl
        exact (show Tryd.prog.wantsStandIn t = false by simpa using List.all_eq_true.1 hall t hm)⟩)
    (by kernel_rfl)
end Go.Proofs.YtajfhoeejeadkaaDoor

