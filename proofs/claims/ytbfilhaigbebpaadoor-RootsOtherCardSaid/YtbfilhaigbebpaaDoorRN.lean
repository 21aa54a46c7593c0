/- Proved: the given statement RootsOtherCardSaid: the Go law RootsOther returns true for every input that it is asked of. No conditions. -/
import Derived.Test.YtbfilhaigbebpaaDoorInst
import Derived.Test.YtbfilhaigbebpaaDoorAuto
import Derived.Test.YtbfilhaigbebpaaDoorRM
set_option linter.unusedVariables false
set_option linter.unusedSimpArgs false
set_option maxRecDepth 100000
set_option maxHeartbeats 4000000
namespace Go.Tg
open Go Go.Proofs
theorem encS_cut (s x : SlotT) {k : Nat} (hk : k < (encS s).length) : encS x ≠ (encS s).take k := fun h => by
  have h1 := firstF_encS s
  have h2 := numsS_len x
  have h3 := firstF_wrap (xs := numsB (natsS x)) (by omega) ((encS s).drop k)
  have h4 : encS s = encS x ++ (encS s).drop k := by rw [h, List.take_append_drop]
  have h5 : wrapB (numsB (natsS x)) = encS x := rfl
  rw [h5, ← h4, h1] at h3
  have h6 := congrArg (fun p : List UInt8 × Nat × Nat => p.2.1) h3
  dsimp only at h6
  rw [h, List.length_take] at h6
  omega
theorem ro_PickD (a b : List UInt8) (r : SlotT) (e : Int) (hp : PickS a b r e) (h0 : FH) (a1 a2 : Option Addr) (c1 c2 n1 n2 : Nat) (w : World) (hs : Sat h0 w) (hT : Half h0) (h1 : n1 = a.length) (h2 : n2 = b.length) (hr1 : BS h0 a1 c1 a) (hr2 : BS h0 a2 c2 b) (ha : a.length ≤ 1000000) (hb : b.length ≤ 1000000) :
    Spec Tryd.prog 16 #[.slice a1 n1 c1, .slice a2 n2 c2] w [] h0 (fun v h' L' => h' = h0 ∧ L' = [] ∧ v = .tuple #[.agg (cSlot r).toArray, .int .i64 e]) := by
  subst h1; subst h2
  refine (ro_Pick h0 a1 a2 c1 c2 a b w hs hT hr1 hr2 ha hb).mono fun v h' L' ⟨h1, h2, r', e', h3, hp'⟩ => ⟨h1, h2, ?_⟩
  obtain ⟨rfl, rfl⟩ := hp'.unique hp
  exact h3
theorem law_RootsOther (s t : SlotT) (n : Int) (hn1 : IntKind.u8.min ≤ n) (hn2 : n ≤ IntKind.u8.max) (w : World) (hT0 : Half (full w)) :
    SpecV Tryd.prog 7 #[.agg (cSlot s).toArray, .agg (cSlot t).toArray, .int .u8 n] w (.bool true) := by
  have H := St.start (sat_full w)
  generalize hh : full w = h0 at H hT0
  have hT := hT0
  have hn0 : 0 ≤ n := hn1
  have hn9 : n ≤ 255 := hn2
  clear hn1 hn2
  have lS := cSlot_len s
  have lT := cSlot_len t
  unfold SpecV
  refine calls_of Tryd.func7 rfl Tryd.ntmps7 (by simp) ?_
  have hS4 := encS_len4 s
  have hS6 := encS_len6 s
  have hT4 := encS_len4 t
  have hT6 := encS_len6 t
  repeat' (first | ((first | refine WL.p rfl ?_ | refine WL.u ?_ | refine WL.g rfl rfl ?_ | refine WL.gu rfl ?_); first | (refine opk 1 rfl ?_; first | (refine ost_V H rfl (alive15 _ _ (sat_full _) (hT.full H)) rfl ?_; clear H; intro wk H) | (refine ost_C H rfl (ro_Encode _ _ _ (sat_full _) (hT.full H)) rfl ?_; clear H; rintro vk wk hfk Lk ⟨a8, c8, rfl, -, rfl⟩ H; simp only [List.cons_append, List.nil_append] at H)) | refine pvQ ?_ | (refine opk 3 rfl ?_; first | (refine ost_eqA rfl (by decide) rfl rfl tyQ tyQ (fun hc => ?_) (fun hc => ?_) <;> try exact prEQ) | (refine ost_neA rfl (by decide) rfl rfl tyQ tyQ (fun hc => ?_) (fun hc => ?_) <;> try exact prEQ) | (refine ost_cmp rfl rfl rfl rfl (fun hc => ?_) (fun hc => ?_) <;> (simp only [cmpP] at hc; try exact prIQ))) | (refine opk 4 rfl ?_; (refine ost_cmp rfl rfl rfl rfl (fun hc => ?_) (fun hc => ?_) <;> (simp only [cmpP] at hc; try exact prIQ))) | (refine opk 8 rfl ?_; (refine ost_storeW H rfl rfl rfl rfl lQ ixQ lQ okQ ?_; clear H; intro wk H; simp only [List.set_cons_zero, List.set_cons_succ, Nat.reduceAdd] at H)) | (refine opk 9 rfl ?_; first | (refine ost_boxq H rfl ?_; clear H; intro bk wk H) | (refine ost_allocA H rfl ?_; clear H; intro bk wk H))) | refine Wc.seq ?_ | refine then_n ?_ | refine WL.nil ?_ | refine Wc.region ?_ | refine Wc.block ?_ | refine then_r ?_ | refine then_e ?_ | refine inb_e rfl ?_ | refine inb_o rfl ?_ | refine inb_n ?_ | refine inb_r ?_ | refine Wc.skip ?_ | refine Wc.exit ?_ | refine Wc.ret ?_ | refine Wc.cond_true rfl ?_ | refine Wc.cond_false rfl ?_ | refine WL.skp rfl rfl ?_ | refine WL.sku rfl ?_ | (refine Wc.drawM (id := 3) 3 [(1, [], fun v L' => ∃ a c, v = .slice a (encS s).length c ∧ L' = [own8 (.slice a (encS s).length c) 5 (encS s)])] [.blk _ _, .blk _ _] [1] H (by kernel_rfl) rfl (by kernel_rfl) (by simp only [inpL, List.nil_append, List.cons_append, List.append_nil]; first | exact List.Perm.refl _ | exact List.Perm.swap _ _ _ | exact (List.Perm.swap _ _ _).trans ((List.Perm.swap _ _ _).cons _) | exact ((List.Perm.swap _ _ _).cons _) | exact ((List.Perm.swap _ _ _).cons _).trans (List.Perm.swap _ _ _)) ?_) | (refine rgm_nil ?_; intro vs wk outs HM hR; obtain ⟨v1, ⟨a1, c1, e1, o1⟩, h1⟩ := hR 1 _ rfl; have hv1 : vs (0 + 1) = _ := (h1 (by kernel_rfl)).trans e1; simp only [outsL, o1, List.cons_append, List.nil_append, List.append_nil] at HM; (try dsimp only); rw [hv1]; replace H := HM; clear HM hR) | refine RGm.skp (fun _ => rfl) rfl ?_ | (refine RGm.bq (fun _ => rfl) rfl (by intro vs w TT hP H; simp only [List.cons_append, List.nil_append] at H; first | exact dbQ | fail) (fun hc => ?_) (fun hc => ?_) <;> ((try simp only [cmpP, decide_eq_true_eq, decide_eq_false_iff_not, dcd_iff, dcd_no] at hc); try exact prDQ)) | refine RGm.pq (fun _ => rfl) rfl (by intro vs w TT hP H; simp only [List.cons_append, List.nil_append] at H; first | exact dvQ | fail) ?_ | refine RGm.mq (fun _ => rfl) rfl (by intro vs w TT hP H; simp only [List.cons_append, List.nil_append] at H; first | (refine ost_C H rfl (ro_Encode _ _ _ (sat_full _) (hT.full H)) rfl ?_; rintro vk wk hfk Lk ⟨a9, c9, rfl, -, rfl⟩ H2; exact ⟨[_], ⟨a9, c9, rfl, rfl⟩, H2⟩) | fail) ?_ | refine RGm.mu rfl (by intro vs w TT hP H; simp only [List.cons_append, List.nil_append] at H; first | (refine ost_C H rfl (ro_Encode _ _ _ (sat_full _) (hT.full H)) rfl ?_; rintro vk wk hfk Lk ⟨a9, c9, rfl, -, rfl⟩ H2; exact ⟨[_], ⟨a9, c9, rfl, rfl⟩, H2⟩) | fail) ?_)
  all_goals first | (exfalso; omega) | skip
  obtain ⟨a2, c2, h6, e2, hle6, hrt, H7⟩ := H.freeze8
  clear H
  cases e2
  obtain ⟨a3, c3, h7, e3, hle7, hrs, H⟩ := (H7.front 2 rfl).freeze8
  clear H7
  cases e3
  simp only [List.eraseIdx_cons_succ, List.eraseIdx_cons_zero] at H
  replace hrt := hrt.mono hle7
  have hT7 := hT.mono (hle6.trans hle7)
  obtain ⟨k, hk1, hk2⟩ : ∃ k : Nat, n % ((encS s).length : Int) = k ∧ k < (encS s).length := by
    have h1 := Int.emod_nonneg n (show ((encS s).length : Int) ≠ 0 by omega)
    have h2 := Int.emod_lt_of_pos n (show (0 : Int) < ((encS s).length : Int) by omega)
    exact ⟨(n % ((encS s).length : Int)).toNat, by omega, by omega⟩
  rw [hk1]
  have hcs := hrs.le
  have hrc := hrs.take k
  have hrn := nilBS h7
  have hlc : ((encS s).take k).length = k := by rw [List.length_take]; omega
  have p1 : PickS ((encS s).take k) (encS t) t 0 := .inr (.inl ⟨t, rfl, fun x hx => absurd hx (encS_cut s x hk2), rfl, rfl⟩)
  have p2 : PickS (encS t) ((encS s).take k) t 0 := .inl ⟨t, rfl, fun x hx => absurd hx (encS_cut s x hk2), rfl, rfl⟩
  have p4 : PickS ((encS s).take k) [] zeroS 7 := .inr (.inr ⟨fun x => encS_cut s x hk2, fun x hx => by
    have := encS_len4 x
    rw [hx] at this; exact absurd this (by decide), rfl, rfl⟩)
  obtain ⟨r3, p3, hv3⟩ : ∃ r3, PickS (encS s) (encS t) r3 0 ∧ (r3.ver.toNat : Int) = max (s.ver.toNat : Int) (t.ver.toNat : Int) := by
    by_cases h : t.ver.toNat ≤ s.ver.toNat
    · exact ⟨s, .inl ⟨s, rfl, fun y hy => by rw [encS_inj hy]; exact h, rfl, rfl⟩, by omega⟩
    · exact ⟨t, .inr (.inl ⟨t, rfl, fun y hy => by rw [encS_inj hy]; omega, rfl, rfl⟩), by omega⟩
  have l3 := cSlot_len r3
  have g3 : (cSlot r3)[0 + 0]? = some (.int .u64 (r3.ver.toNat : Nat)) := rfl
  have gs : (cSlot s)[0 + 0]? = some (.int .u64 (s.ver.toNat : Nat)) := rfl
  have gt : (cSlot t)[0 + 0]? = some (.int .u64 (t.ver.toNat : Nat)) := rfl
  repeat' (first | ((first | refine WL.p rfl ?_ | refine WL.u ?_ | refine WL.g rfl rfl ?_ | refine WL.gu rfl ?_); first | (refine opk 1 rfl ?_; first | (refine ost_C H rfl (ro_PickD _ _ _ _ p1 _ _ _ _ _ _ _ _ (sat_full _) (hT7.full H) (by rw [hlc]; rfl) rfl (hrc.full H) (hrt.full H) (by omega) (by omega)) rfl ?_; clear H; rintro vk wk hfk Lk ⟨rfl, rfl, rfl⟩ H; simp only [List.cons_append, List.nil_append] at H) | (refine ost_C H rfl (ro_PickD _ _ _ _ p2 _ _ _ _ _ _ _ _ (sat_full _) (hT7.full H) rfl (by rw [hlc]; rfl) (hrt.full H) (hrc.full H) (by omega) (by omega)) rfl ?_; clear H; rintro vk wk hfk Lk ⟨rfl, rfl, rfl⟩ H; simp only [List.cons_append, List.nil_append] at H) | (refine ost_C H rfl (ro_PickD _ _ _ _ p3 _ _ _ _ _ _ _ _ (sat_full _) (hT7.full H) rfl rfl (hrs.full H) (hrt.full H) (by omega) (by omega)) rfl ?_; clear H; rintro vk wk hfk Lk ⟨rfl, rfl, rfl⟩ H; simp only [List.cons_append, List.nil_append] at H) | (refine ost_C H rfl (ro_PickD _ _ _ _ p4 _ _ _ _ _ _ _ _ (sat_full _) (hT7.full H) (by rw [hlc]; rfl) rfl (hrc.full H) (hrn.full H) (by omega) (by decide)) rfl ?_; clear H; rintro vk wk hfk Lk ⟨rfl, rfl, rfl⟩ H; simp only [List.cons_append, List.nil_append] at H)) | refine pvQ ?_ | (refine opk 3 rfl ?_; first | (refine ost_eqA rfl (by decide) rfl rfl tyQ tyQ (fun hc => ?_) (fun hc => ?_) <;> try exact prEQ) | (refine ost_neA rfl (by decide) rfl rfl tyQ tyQ (fun hc => ?_) (fun hc => ?_) <;> try exact prEQ) | (refine ost_cmp rfl rfl rfl rfl (fun hc => ?_) (fun hc => ?_) <;> (simp only [cmpP] at hc; try exact prIQ))) | (refine opk 4 rfl ?_; (refine ost_cmp rfl rfl rfl rfl (fun hc => ?_) (fun hc => ?_) <;> (simp only [cmpP] at hc; try exact prIQ))) | (refine opk 8 rfl ?_; (refine ost_storeW H rfl rfl rfl rfl lQ ixQ lQ okQ ?_; clear H; intro wk H; simp only [List.set_cons_zero, List.set_cons_succ, Nat.reduceAdd] at H)) | (refine opk 9 rfl ?_; first | (refine ost_boxq H rfl ?_; clear H; intro bk wk H) | (refine ost_allocA H rfl ?_; clear H; intro bk wk H))) | refine Wc.seq ?_ | refine then_n ?_ | refine WL.nil ?_ | refine Wc.region ?_ | refine Wc.block ?_ | refine then_r ?_ | refine then_e ?_ | refine inb_e rfl ?_ | refine inb_o rfl ?_ | refine inb_n ?_ | refine inb_r ?_ | refine Wc.skip ?_ | refine Wc.exit ?_ | refine Wc.ret ?_ | refine Wc.cond_true rfl ?_ | refine Wc.cond_false rfl ?_ | (refine Wc.drawn (id := 3) 3 (by kernel_rfl) ?_) | refine WL.skp rfl rfl ?_ | refine WL.sku rfl ?_ | (refine rgs_nil ?_; intro vs wk hE; replace H := H.ext hE; clear hE) | refine RGs.skp (fun _ => rfl) rfl ?_ | (refine RGs.bq (fun _ => rfl) rfl (by intro vs w hE hP; have H := H.ext hE; first | exact dbQ | fail) (fun hc => ?_) (fun hc => ?_) <;> ((try simp only [cmpP, decide_eq_true_eq, decide_eq_false_iff_not, dcd_iff, dcd_no] at hc); try exact prDQ)) | refine RGs.pq (fun _ => rfl) rfl (by intro vs w hE hP; have H := H.ext hE; first | exact dvQ | fail) ?_)
  all_goals first | ((first | refine fn_ret1 (v := .bool _) rfl rfl ⟨?_, H.fr⟩ | refine fn_ret1 (v := .int _ _) rfl rfl ⟨?_, H.fr⟩ | refine fn_ret1 (v := .string _) rfl rfl ⟨?_, H.fr⟩); rfl) | (exfalso; omega) | exact absurd rfl ‹¬ _ = _›
end Go.Tg
namespace Go.Proofs.YtbfilhaigbebpaaDoor
open Go.ChangeShapes Go.WideShapes Go.ChangeAt Go.RowKit Go.Tg
theorem rootsOther_lifted (os : Os) (started : os.Started) (H : Type) (enc : TypeId × Value → H) :
    ReturnsInHanded {} Tryd.checked os 7 .any (fun w args => (Rows.rootsOtherSpec.pre enc Tryd.prog Tryd.f7 Rows.rootsOtherRow.domain false w args ∧ laidMetH Tryd.prog Rows.rootsOtherRow.laid w) ∧ sizedMet enc Tryd.prog Tryd.f7 (OpenSpec.ofChange Rows.rootsOtherSpec) false w args) (Rows.rootsOtherSpec.post enc Tryd.prog Tryd.f7 false true false false) := by
  refine returnsInHanded_of_change_and (C := Tryd.checked) (X := fun w _ => laidMetH Tryd.prog Rows.rootsOtherRow.laid w) (fun _ _ _ hh h => h.of_heap hh) own_ started (by kernel_rfl) Tryd.func7
    (ChangeSpec.witness_shaped (enc := enc) (C := Tryd.checked) (os := os) (X := fun w _ => laidMetH Tryd.prog Rows.rootsOtherRow.laid w) false (World.laidAll Tryd.prog os Rows.rootsOtherRow.laid) #[.agg #[.int .u64 0, .int .u32 0, .int .u32 0, .int .u32 0], .agg #[.int .u64 0, .int .u32 0, .int .u32 0, .int .u32 0], .int .u8 0] 8 (World.laidAll_os _ _ _)
      (World.shaped_of_ZipB (by kernel_rfl) (by kernel_rfl)) (by kernel_rfl) (by kernel_rfl) (by kernel_rfl)
      (by rw [MakeChecks.laidMetH_plain _ _ _ (by kernel_rfl)]; exact laidMet_laidAll _ (by kernel_rfl) (by kernel_rfl))) ?_
  intro W base args ds gs before hval0 hW hcnd _ hLd _
  have hval : ∀ (j : Nat) t v, Tryd.f7.params[j]? = some t → args[j]? = some v → Value.okWide Tryd.prog W .any base t v := hval0
  have hT : Half (full W) := half_of (by rfl) hLd
  have hW' := hW
  obtain ⟨p, q, hA0, -, -, -, -⟩ := hW'
  have hA : DataW.TrodAll enc Tryd.prog W 0 (fun _ => true) true Tryd.f7.params.toList args.toList ds p := hA0
  rw [Tryd.params7] at hA hval
  obtain ⟨v0, v1, v2, d0, d1, d2, p0, p1, p2, rfl, rfl, rfl, h0, h1, h2⟩ := trodAll_three hA
  obtain ⟨s, rfl⟩ := slot_ok (hval 0 _ v0 rfl rfl)
  obtain ⟨t, rfl⟩ := slot_ok (hval 1 _ v1 rfl rfl)
  obtain ⟨n, rfl, n1, n2⟩ := int_of_okV Tryd.underlying5 (hval 2 _ v2 rfl rfl)
  refine (law_RootsOther s t n n1 n2 W hT).mono fun e W' ⟨v, he, hv, hE⟩ => ⟨v, he, ?_⟩
  subst hv
  exact law_post rfl hW hE rfl (by kernel_rfl) Tryd.underlying4 laid_ (by kernel_rfl)
theorem rootsOther_said : Rows.RootsOtherSaid :=
  OpenClaim.holds_of_wide 7 Tryd.f7 rfl rfl rfl rfl rfl rfl rfl ⟨rfl, rfl, rfl, rfl, rfl⟩ rfl rfl rfl rfl rfl (by kernel_rfl) Tryd.func7 (by kernel_rfl)
    (of_decide_eq_true (by kernel_rfl)) (by unfold Func.isWrapper; first | (rw [if_pos (by decide +kernel)]; kernel_rfl) | (rw [if_neg (by decide +kernel)]; exact ⟨rfl, rfl⟩))
    (fun os started H enc _ => rootsOther_lifted os started H enc)
theorem rootsOther_holds : Rows.RootsOtherCardSaid :=
  Claim7.holds_tied_plain_at .later [] [.data] true (true, "6266663437662ea72edc6a47c7bafabcd50b56fe735f93247bb89da89eddd568") false rootsOther_said (fun _ h => by cases h) (by kernel_rfl) (fun _ h => by cases h) rootsOther_row_tie rfl ⟨rfl, rfl⟩ (by kernel_rfl) rfl
    (fun f fn hf hfn => by
      obtain rfl : f = 7 := Option.some.inj ((show Tryd.prog.funcNamed "trug/truglaw15.RootsOther" = some 7 by kernel_rfl).symm.trans hf) |>.symm
      obtain rfl : fn = Tryd.f7 := (Option.some.inj (Tryd.func7.symm.trans hfn)).symm
      exact ⟨by kernel_rfl, fun j t ht => by
        have hm : t ∈ Tryd.f7.params.toList := by simpa using Array.mem_of_getElem? ht
        have hall : (Tryd.f7.params.toList.all fun u => !Tryd.prog.wantsStandIn u) = true := by kernel_rfl
        exact (show Tryd.prog.wantsStandIn t = false by simpa using List.all_eq_true.1 hall t hm)⟩)
    (by kernel_rfl)
end Go.Proofs.YtbfilhaigbebpaaDoor

