/- Proved: the given statement RootsLoadsCardSaid: the Go law RootsLoads returns true for every input that it is asked of. No conditions. -/
import Derived.Test.YtbfilhaigbebpaaDoorInst
import Derived.Test.YtbfilhaigbebpaaDoorAuto
import Derived.Test.YtbfilhaigbebpaaDoorL7
import Derived.Test.YtbfilhaigbebpaaDoorRU
set_option linter.unusedVariables false
set_option linter.unusedSimpArgs false
set_option maxRecDepth 100000
set_option maxHeartbeats 4000000
namespace Go.Tg
open Go Go.Proofs
theorem sameI_refl2 (l : List ItemT) : sameI l l = true := by
  unfold sameI
  first | exact dcd_iff.2 rfl | simp
theorem law_RootsLoads (ba : Option Addr) (bc : Nat) (b : List UInt8) (s : SlotT) (w : World) (hT0 : Half (full w)) (hr0 : BS (full w) ba bc b) :
    SpecV Tryd.prog 4 #[.slice ba b.length bc, .agg (cSlot s).toArray] w (.bool true) := by
  have H := St.start (sat_full w)
  generalize hh : full w = h0 at H hT0 hr0
  have hT := hT0
  have hr := hr0
  have lS := cSlot_len s
  unfold SpecV
  refine calls_of Tryd.func4 rfl Tryd.ntmps4 (by simp) ?_
  by_cases h1 : 1500 < b.length
  · repeat' (first | ((first | refine WL.p rfl ?_ | refine WL.u ?_ | refine WL.g rfl rfl ?_ | refine WL.gu rfl ?_); first | (refine opk 1 rfl ?_; (refine ost_V H rfl (alive15 _ _ (sat_full _) (hT.full H)) rfl ?_; clear H; intro wk H)) | refine pvQ ?_ | (refine opk 3 rfl ?_; (refine ost_cmp rfl rfl rfl rfl (fun hc => ?_) (fun hc => ?_) <;> (simp only [cmpP] at hc; try exact prIQ))) | (refine opk 4 rfl ?_; (refine ost_cmp rfl rfl rfl rfl (fun hc => ?_) (fun hc => ?_) <;> (simp only [cmpP] at hc; try exact prIQ))) | (refine opk 9 rfl ?_; (refine ost_boxq H rfl ?_; clear H; intro bk wk H))) | refine Wc.seq ?_ | refine then_n ?_ | refine WL.nil ?_ | refine Wc.region ?_ | refine Wc.block ?_ | refine then_r ?_ | refine then_e ?_ | refine inb_e rfl ?_ | refine inb_o rfl ?_ | refine inb_n ?_ | refine inb_r ?_ | refine Wc.skip ?_ | refine Wc.exit ?_ | refine Wc.ret ?_ | refine Wc.cond_true rfl ?_ | refine Wc.cond_false rfl ?_ | refine WL.skp rfl rfl ?_ | refine WL.sku rfl ?_)
    all_goals first | (exfalso; omega) | ((first | refine fn_ret1 (v := .bool _) rfl rfl ⟨?_, H.fr⟩ | refine fn_ret1 (v := .int _ _) rfl rfl ⟨?_, H.fr⟩ | refine fn_ret1 (v := .string _) rfl rfl ⟨?_, H.fr⟩); rfl)
  · have hL1 := fun w hs => ro_Load h0 ba bc b s w hs hT hr (by omega)
    have hL2 := fun g w hs (hr : BS g ba bc b) => r15_Load g ba bc b s w hs hr (by omega)
    generalize loadL b s = D at hL1 hL2
    obtain ⟨l, e⟩ := D
    dsimp only at hL1 hL2
    have hsm : ∀ (g : FH) (w : World) (hs : Sat g w) a1 c1 (hN1 : Sl g 5 a1 c1 (l.map cItem)) a2 c2 (hN2 : Sl g 5 a2 c2 (l.map cItem)), SpecV Tryd.prog 15 #[.slice a1 l.length c1, .slice a2 l.length c2] w (.bool true) := fun g w hs a1 c1 hN1 a2 c2 hN2 => by
      have := law15_same g w hs a1 c1 l hN1 a2 c2 l hN2
      rw [sameI_refl2] at this; exact this
    repeat' (first | ((first | refine WL.p rfl ?_ | refine WL.u ?_ | refine WL.g rfl rfl ?_ | refine WL.gu rfl ?_); first | (refine opk 1 rfl ?_; first | (refine ost_V H rfl (alive15 _ _ (sat_full _) (hT.full H)) rfl ?_; clear H; intro wk H) | (refine ost_Sk H rfl (hL1 _ H.sat) rfl ?_; clear H; rintro vk wk hfk Lk ⟨a1, c1, rfl, rfl, hI1⟩ hle H; simp only [List.cons_append, List.nil_append] at H) | (refine ost_Sk H rfl (hL2 _ _ H.sat (hr.mono hle)) rfl ?_; clear H; rintro vk wk hfk Lk ⟨a2, c2, rfl, rfl, hI2⟩ hle H; simp only [List.cons_append, List.nil_append] at H) | (refine ost_V H rfl (hsm _ _ (sat_full _) _ _ ((hI1.mono hle).mono H.sat.le) _ _ (hI2.mono H.sat.le)) rfl ?_; clear H; intro wk H)) | refine pvQ ?_ | (refine opk 3 rfl ?_; (refine ost_cmp rfl rfl rfl rfl (fun hc => ?_) (fun hc => ?_) <;> (simp only [cmpP] at hc; try exact prIQ))) | (refine opk 4 rfl ?_; (refine ost_cmp rfl rfl rfl rfl (fun hc => ?_) (fun hc => ?_) <;> (simp only [cmpP] at hc; try exact prIQ))) | (refine opk 9 rfl ?_; (refine ost_boxq H rfl ?_; clear H; intro bk wk H))) | refine Wc.seq ?_ | refine then_n ?_ | refine WL.nil ?_ | refine Wc.region ?_ | refine Wc.block ?_ | refine then_r ?_ | refine then_e ?_ | refine inb_e rfl ?_ | refine inb_o rfl ?_ | refine inb_n ?_ | refine inb_r ?_ | refine Wc.skip ?_ | refine Wc.exit ?_ | refine Wc.ret ?_ | refine Wc.cond_true rfl ?_ | refine Wc.cond_false rfl ?_ | refine WL.skp rfl rfl ?_ | refine WL.sku rfl ?_)
    all_goals first | (exfalso; omega) | ((first | refine fn_ret1 (v := .bool _) rfl rfl ⟨?_, H.fr⟩ | refine fn_ret1 (v := .int _ _) rfl rfl ⟨?_, H.fr⟩ | refine fn_ret1 (v := .string _) rfl rfl ⟨?_, H.fr⟩); rfl) | exact absurd rfl ‹¬ _ = _›
end Go.Tg
namespace Go.Proofs.YtbfilhaigbebpaaDoor
open Go.ChangeShapes Go.WideShapes Go.ChangeAt Go.RowKit Go.Tg
theorem rootsLoads_lifted (os : Os) (started : os.Started) (H : Type) (enc : TypeId × Value → H) :
    ReturnsInHanded {} Tryd.checked os 4 .any (fun w args => (Rows.rootsLoadsSpec.pre enc Tryd.prog Tryd.f4 Rows.rootsLoadsRow.domain false w args ∧ laidMetH Tryd.prog Rows.rootsLoadsRow.laid w) ∧ sizedMet enc Tryd.prog Tryd.f4 (OpenSpec.ofChange Rows.rootsLoadsSpec) false w args) (Rows.rootsLoadsSpec.post enc Tryd.prog Tryd.f4 false true false false) := by
  refine returnsInHanded_of_change_and (C := Tryd.checked) (X := fun w _ => laidMetH Tryd.prog Rows.rootsLoadsRow.laid w) (fun _ _ _ hh h => h.of_heap hh) own_ started (by kernel_rfl) Tryd.func4
    (ChangeSpec.witness_shaped (enc := enc) (C := Tryd.checked) (os := os) (X := fun w _ => laidMetH Tryd.prog Rows.rootsLoadsRow.laid w) false (World.laidAll Tryd.prog os Rows.rootsLoadsRow.laid) #[.slice none 0 0, .agg #[.int .u64 0, .int .u32 0, .int .u32 0, .int .u32 0]] 8 (World.laidAll_os _ _ _)
      (World.shaped_of_ZipB (by kernel_rfl) (by kernel_rfl)) (by kernel_rfl) (by kernel_rfl) (by kernel_rfl)
      (by rw [MakeChecks.laidMetH_plain _ _ _ (by kernel_rfl)]; exact laidMet_laidAll _ (by kernel_rfl) (by kernel_rfl))) ?_
  intro W base args ds gs before hval0 hW hcnd _ hLd _
  have hval : ∀ (j : Nat) t v, Tryd.f4.params[j]? = some t → args[j]? = some v → Value.okWide Tryd.prog W .any base t v := hval0
  have hT : Half (full W) := half_of (by rfl) hLd
  have hW' := hW
  obtain ⟨p, q, hA0, -, -, -, -⟩ := hW'
  have hA : DataW.TrodAll enc Tryd.prog W 0 (fun _ => true) true Tryd.f4.params.toList args.toList ds p := hA0
  rw [Tryd.params4] at hA hval
  obtain ⟨v0, v1, d0, d1, p0, p1, rfl, rfl, rfl, h0, h1⟩ := trodAll_two hA
  obtain ⟨s, rfl⟩ := slot_ok (hval 1 _ v1 rfl rfl)
  obtain ⟨ba, bc, b, e0, br⟩ := (Td.of h0).bytes Tryd.underlying25 Tryd.underlying5 (by kernel_rfl)
  obtain rfl := val_of1 e0 (okWide_slice Tryd.underlying25 (hval 0 _ v0 rfl rfl))
  refine (law_RootsLoads ba bc b s W hT br).mono fun e W' ⟨v, he, hv, hE⟩ => ⟨v, he, ?_⟩
  subst hv
  exact law_post rfl hW hE rfl (by kernel_rfl) Tryd.underlying4 laid_ (by kernel_rfl)
theorem rootsLoads_said : Rows.RootsLoadsSaid :=
  OpenClaim.holds_of_wide 4 Tryd.f4 rfl rfl rfl rfl rfl rfl rfl ⟨rfl, rfl, rfl, rfl, rfl⟩ rfl rfl rfl rfl rfl (by kernel_rfl) Tryd.func4 (by kernel_rfl)
    (of_decide_eq_true (by kernel_rfl)) (by unfold Func.isWrapper; first | (rw [if_pos (by decide +kernel)]; kernel_rfl) | (rw [if_neg (by decide +kernel)]; exact ⟨rfl, rfl⟩))
    (fun os started H enc _ => rootsLoads_lifted os started H enc)
theorem rootsLoads_holds : Rows.RootsLoadsCardSaid :=
  Claim7.holds_tied_plain_at .later [] [.data] true (true, "6266663437662ea72edc6a47c7bafabcd50b56fe735f93247bb89da89eddd568") false rootsLoads_said (fun _ h => by cases h) (by kernel_rfl) (fun _ h => by cases h) rootsLoads_row_tie rfl ⟨rfl, rfl⟩ (by kernel_rfl) rfl
    (fun f fn hf hfn => by
      obtain rfl : f = 4 := Option.some.inj ((show Tryd.prog.funcNamed "trug/truglaw15.RootsLoads" = some 4 by kernel_rfl).symm.trans hf) |>.symm
      obtain rfl : fn = Tryd.f4 := (Option.some.inj (Tryd.func4.symm.trans hfn)).symm
      exact ⟨by kernel_rfl, fun j t ht => by
        have hm : t ∈ Tryd.f4.params.toList := by simpa using Array.mem_of_getElem? ht
        have hall : (Tryd.f4.params.toList.all fun u => !Tryd.prog.wantsStandIn u) = true := by kernel_rfl
        exact (show Tryd.prog.wantsStandIn t = false by simpa using List.all_eq_true.1 hall t hm)⟩)
    (by kernel_rfl)
end Go.Proofs.YtbfilhaigbebpaaDoor

