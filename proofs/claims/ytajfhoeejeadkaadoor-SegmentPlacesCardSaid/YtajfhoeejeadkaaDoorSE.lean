/- Proved: the given statement SegmentPlacesCardSaid: the Go law SegmentPlaces returns true for every input that it is asked of. No conditions. -/
import Derived.Test.YtajfhoeejeadkaaDoorInst
import Derived.Test.YtajfhoeejeadkaaDoorAuto
import Derived.Test.YtajfhoeejeadkaaDoorSD
set_option linter.unusedVariables false
set_option linter.unusedSimpArgs false
set_option maxRecDepth 100000
set_option maxHeartbeats 8000000
namespace Go.Tg
open Go Go.Proofs
theorem atsR_get (k : Nat) (g : List OpT) : ∀ (i : Nat) (h : i < (atsR k g).length), (atsR k g)[i] = k + (recsB (g.take i)).length := by
  induction g generalizing k with
  | nil => intro i h; exact absurd h (by simp [atsR])
  | cons o g ih =>
    intro i h
    cases i with
    | zero => simp [atsR, recsB]
    | succ i =>
      simp only [atsR, List.getElem_cons_succ, List.take_succ_cons, recsB_cons, List.length_append]
      rw [ih]; omega
theorem recsB_cut (g : List OpT) {i : Nat} (h : i < g.length) : recsB g = recsB (g.take i) ++ (recB g[i] ++ recsB (g.drop (i + 1))) := by
  have e : g = g.take i ++ (g[i] :: g.drop (i + 1)) := by rw [← List.drop_eq_getElem_cons h, List.take_append_drop]
  rw [← recsB_cons, ← recsB_app, ← e]
theorem law_SegmentPlaces (id : UInt32) (a : Option Addr) (c : Nat) (l : List OpT) (w : World) (hT0 : Half (full w)) (hr0 : Sl (full w) 23 a c (l.map cOp)) : SpecV Tryd.prog 12 #[.int .u32 id.toNat, .slice a l.length c] w (.bool true) := by
  have H := St.start (sat_full w)
  generalize hh : full w = h0 at H hT0 hr0
  have hhl := headB_len id
  have cW := fun h w hs hT hr => law12_written id h a c l w hs hT hr
  unfold SpecV
  refine calls_of Tryd.func12 rfl Tryd.ntmps12 (by simp) ?_
  repeat' (first | ((first | refine WL.p rfl ?_ | refine WL.u ?_ | refine WL.g rfl rfl ?_ | refine WL.gu rfl ?_); first | (refine opk 1 rfl ?_; first | (refine ost_V H rfl (alive12 _ _ (sat_full _) (hT0.full H)) rfl ?_; clear H; intro wk H) | (refine ost_Sk H rfl (cW _ _ H.sat hT0 hr0) rfl ?_; clear H; rintro vk wk hfk Lk ⟨g, ab, cb, ag, cg, ae, ce, hga, hgl, rfl, rfl, hB, hO, hA⟩ hle H; simp only [List.cons_append, List.nil_append] at H)) | refine pvQ ?_ | (refine opk 3 rfl ?_; first | (refine ost_cmp rfl rfl rfl rfl (fun hc => ?_) (fun hc => ?_) <;> (simp only [cmpP] at hc; try exact prIQ)) | (refine ost_streqB rfl rfl rfl (fun hc => ?_) (fun hc => ?_) <;> try exact prEQ) | (refine ost_strneB rfl rfl rfl (fun hc => ?_) (fun hc => ?_) <;> try exact prEQ) | (refine ost_streq rfl rfl rfl (fun hc => ?_) (fun hc => ?_) <;> try exact absurd rfl hc) | (refine ost_strne rfl rfl rfl (fun hc => ?_) (fun hc => ?_))) | (refine opk 4 rfl ?_; (refine ost_cmp rfl rfl rfl rfl (fun hc => ?_) (fun hc => ?_) <;> (simp only [cmpP] at hc; try exact prIQ))) | (refine opk 8 rfl ?_; (refine ost_storeW H rfl rfl rfl rfl lQ ixQ lQ okQ ?_; clear H; intro wk H; simp only [List.set_cons_zero, List.set_cons_succ, Nat.reduceAdd] at H)) | (refine opk 9 rfl ?_; (refine ost_allocA H rfl ?_; clear H; intro bk wk H))) | refine Wc.seq ?_ | refine then_n ?_ | refine WL.nil ?_ | refine Wc.region ?_ | refine Wc.block ?_ | refine then_r ?_ | refine then_e ?_ | refine inb_e rfl ?_ | refine inb_o rfl ?_ | refine inb_n ?_ | refine inb_r ?_ | refine Wc.skip ?_ | refine Wc.exit ?_ | refine Wc.ret ?_ | refine Wc.cond_true rfl ?_ | refine Wc.cond_false rfl ?_ | (refine Wc.drawn (id := 13) 26 (by kernel_rfl) ?_) | refine WL.skp rfl rfl ?_ | refine WL.sku rfl ?_ | (refine rgs_nil ?_; intro vs wk hE; replace H := H.ext hE; clear hE) | refine RGs.skp (fun _ => rfl) rfl ?_ | (refine RGs.bq (fun _ => rfl) rfl (by intro vs w hE hP; have H := H.ext hE; first | exact dbQ | fail) (fun hc => ?_) (fun hc => ?_) <;> ((try simp only [cmpP, decide_eq_true_eq, decide_eq_false_iff_not, dcd_iff, dcd_no] at hc); try exact prDQ)) | refine RGs.pq (fun _ => rfl) rfl (by intro vs w hE hP; have H := H.ext hE; first | exact dvQ | fail) ?_)
  have hT1 := hT0.mono hle
  rename FH => h1
  clear hle cW
  have hrl := recsB_len g
  have hbl : (headB id ++ recsB g).length ≤ 10000 := by rw [List.length_append]; omega
  have hsc : scanS (headB id ++ recsB g) = (⟨id, g, atsR (headB id).length g, false, (headB id).length + (recsB g).length⟩, 0) := by
    have := scan_open id g hga (r := []) frames_nil
    rw [List.append_nil] at this; exact this
  have hcb := hB.le
  have hcg := hO.lenM
  have S1 : ∀ (w : World), Sat h1 w → Spec Tryd.prog 40 #[.slice ab (headB id ++ recsB g).length cb] w [] h1 (fun v h' L' => ∃ ao co at_ ct, v = .tuple #[.agg [Value.int .u32 id.toNat, .slice ao g.length co, .slice at_ g.length ct, .bool false, .int .i64 ((headB id).length + (recsB g).length : Nat)].toArray, .int .i64 0] ∧ L' = [] ∧ Sl h' 1 at_ ct ((atsR (headB id).length g).map cI)) := fun w hs =>
    (seg_ScanK (headB id ++ recsB g) hsc _ rfl h1 ab cb w hs hT1 hB (by omega)).mono fun v h' L' ⟨ao, co, at_, ct, e1, e2, e3, e4⟩ => ⟨ao, co, at_, ct, by rw [e1]; unfold ifL; rw [atsR_len], e2, e4⟩
  repeat' (first | ((first | refine WL.p rfl ?_ | refine WL.u ?_ | refine WL.g rfl rfl ?_ | refine WL.gu rfl ?_); first | (refine opk 1 rfl ?_; (refine ost_Sk H rfl (S1 _ H.sat) rfl ?_; clear H; rintro vk wk hfk Lk ⟨ao, co, at1, ct, rfl, rfl, hX⟩ hle H; simp only [List.cons_append, List.nil_append] at H)) | refine pvQ ?_ | (refine opk 3 rfl ?_; first | (refine ost_cmp rfl rfl rfl rfl (fun hc => ?_) (fun hc => ?_) <;> (simp only [cmpP] at hc; try exact prIQ)) | (refine ost_streqB rfl rfl rfl (fun hc => ?_) (fun hc => ?_) <;> try exact prEQ) | (refine ost_strneB rfl rfl rfl (fun hc => ?_) (fun hc => ?_) <;> try exact prEQ) | (refine ost_streq rfl rfl rfl (fun hc => ?_) (fun hc => ?_) <;> try exact absurd rfl hc) | (refine ost_strne rfl rfl rfl (fun hc => ?_) (fun hc => ?_))) | (refine opk 4 rfl ?_; (refine ost_cmp rfl rfl rfl rfl (fun hc => ?_) (fun hc => ?_) <;> (simp only [cmpP] at hc; try exact prIQ))) | (refine opk 8 rfl ?_; (refine ost_storeW H rfl rfl rfl rfl lQ ixQ lQ okQ ?_; clear H; intro wk H; simp only [List.set_cons_zero, List.set_cons_succ, Nat.reduceAdd] at H)) | (refine opk 9 rfl ?_; (refine ost_allocA H rfl ?_; clear H; intro bk wk H))) | refine Wc.seq ?_ | refine then_n ?_ | refine WL.nil ?_ | refine Wc.region ?_ | refine Wc.block ?_ | refine then_r ?_ | refine then_e ?_ | refine inb_e rfl ?_ | refine inb_o rfl ?_ | refine inb_n ?_ | refine inb_r ?_ | refine Wc.skip ?_ | refine Wc.exit ?_ | refine Wc.ret ?_ | refine Wc.cond_true rfl ?_ | refine Wc.cond_false rfl ?_ | (refine Wc.drawn (id := 13) 26 (by kernel_rfl) ?_) | refine WL.skp rfl rfl ?_ | refine WL.sku rfl ?_ | (refine rgs_nil ?_; intro vs wk hE; replace H := H.ext hE; clear hE) | refine RGs.skp (fun _ => rfl) rfl ?_ | (refine RGs.bq (fun _ => rfl) rfl (by intro vs w hE hP; have H := H.ext hE; first | exact dbQ | fail) (fun hc => ?_) (fun hc => ?_) <;> ((try simp only [cmpP, decide_eq_true_eq, decide_eq_false_iff_not, dcd_iff, dcd_no] at hc); try exact prDQ)) | refine RGs.pq (fun _ => rfl) rfl (by intro vs w hE hP; have H := H.ext hE; first | exact dvQ | fail) ?_)
  have hT2 := hT1.mono hle
  have hB2 := hB.mono hle
  have hO2 := hO.mono hle
  rename FH => h2
  clear hle S1 hsc
  have hat := atsR_get (headB id).length g
  have hatl := atsR_len (headB id).length g
  have hcut := @recsB_cut g
  generalize atsR (headB id).length g = ats at hX hat hatl
  refine Wc.loopE (fun s0 m s w' => ∃ (i : Nat), m = g.length - i ∧ i ≤ g.length ∧ Agree [4, 11, 12, 13, 14, 45, 46, 47, 48, 49, 50, 51, 52, 53, 54, 55, 56, 57, 58, 59, 60, 61, 62, 63, 64, 65, 66, 67, 68, 69, 70, 71, 72, 73, 74, 75, 76, 77, 78, 79, 80, 81, 82, 83, 84, 85, 86] s s0 ∧ s 45 = .int .i64 i ∧ St w [] h0 h2 [] w') g.length ⟨0, rfl, by omega, Agree.refl _ _, rfl, H.pick0⟩ ?_
  clear H
  rintro m s w' ⟨i, rfl, hi, hA9, e1, H⟩
  obtain ⟨j, rfl⟩ := hA9.env1 e1
  clear hA9 e1
  by_cases hlt : i < g.length
  · obtain ⟨b, off, ll, T, fr, e1, eb, eg⟩ := hO2.getM (by decide) (Nat.lt_of_le_of_lt (Nat.zero_le _) hlt)
    subst e1
    have g1 := eg (i : Int).toNat i hlt (by omega)
    obtain ⟨b', off', ll', T', fr', e1, eb', eg'⟩ := hX.getM (by decide) (by omega)
    subst e1
    have hia : i < ats.length := by omega
    have g2 : ll'[off' + (i : Int).toNat * 1]? = some (.int .i64 (ats[i] : Nat)) := row_cell (eg' (i : Int).toNat i hia (by omega)) (q := 0) (by simp [cI])
    have hati := hat i hia
    have lo := cOp_len g[i]
    have hro := hga _ (List.getElem_mem hlt)
    have hci := hcut hlt
    clear eg eg'
    generalize ats[i] = k at g2 hati
    generalize g[i] = o at g1 lo hro hci
    have cR := seg_Record o
    rw [outC_r hro] at cR
    dsimp only at cR
    have hlen := congrArg List.length hci
    rw [List.length_append, List.length_append] at hlen
    have hkl : k + (recB o).length ≤ (headB id ++ recsB g).length := by rw [List.length_append]; omega
    have hsl : ((headB id ++ recsB g).take (k + (recB o).length)).drop k = recB o := by
      rw [hci, hati, ← List.append_assoc, ← List.append_assoc, List.append_assoc (headB id ++ _), show (headB id).length + (recsB (g.take i)).length = (headB id ++ recsB (g.take i)).length by rw [List.length_append], ← List.length_append, ← List.append_assoc, List.take_left' rfl, List.drop_left' rfl]
    have hBk : ∀ {h : FH}, BS h ab cb (headB id ++ recsB g) → BS h (if cb = k then ab else ab.map (·.add (k * 1))) (cb - k) (recB o) := fun hb => by
      have := (hb.take (k + (recB o).length)).drop (n := k) (by rw [List.length_take]; omega)
      rw [hsl] at this; exact this
    clear hsl hci hlen
    repeat' (first | ((first | refine WL.p rfl ?_ | refine WL.u ?_ | refine WL.g rfl rfl ?_ | refine WL.gu rfl ?_); first | (refine opk 1 rfl ?_; (refine ost_C H rfl (cR _ _ (sat_full _) (hT2.full H)) rfl ?_; clear H; rintro vk wk hfk Lk ⟨a5, c5, rfl, rfl⟩ H; simp only [List.cons_append, List.nil_append] at H)) | refine pvQ ?_ | (refine opk 3 rfl ?_; first | (refine ost_cmp rfl rfl rfl rfl (fun hc => ?_) (fun hc => ?_) <;> (simp only [cmpP] at hc; try exact prIQ)) | (refine ost_streqB rfl rfl rfl (fun hc => ?_) (fun hc => ?_) <;> try exact prEQ) | (refine ost_strneB rfl rfl rfl (fun hc => ?_) (fun hc => ?_) <;> try exact prEQ) | (refine ost_streq rfl rfl rfl (fun hc => ?_) (fun hc => ?_) <;> try exact absurd rfl hc) | (refine ost_strne rfl rfl rfl (fun hc => ?_) (fun hc => ?_))) | (refine opk 4 rfl ?_; (refine ost_cmp rfl rfl rfl rfl (fun hc => ?_) (fun hc => ?_) <;> (simp only [cmpP] at hc; try exact prIQ))) | (refine opk 8 rfl ?_; (refine ost_storeW H rfl rfl rfl rfl lQ ixQ lQ okQ ?_; clear H; intro wk H; simp only [List.set_cons_zero, List.set_cons_succ, Nat.reduceAdd] at H)) | (refine opk 9 rfl ?_; (refine ost_allocA H rfl ?_; clear H; intro bk wk H))) | refine Wc.seq ?_ | refine then_n ?_ | refine WL.nil ?_ | refine Wc.region ?_ | refine Wc.block ?_ | refine then_r ?_ | refine then_e ?_ | refine inb_e rfl ?_ | refine inb_o rfl ?_ | refine inb_n ?_ | refine inb_r ?_ | refine Wc.skip ?_ | refine Wc.exit ?_ | refine Wc.ret ?_ | refine Wc.cond_true rfl ?_ | refine Wc.cond_false rfl ?_ | (refine Wc.drawn (id := 13) 26 (by kernel_rfl) ?_) | refine WL.skp rfl rfl ?_ | refine WL.sku rfl ?_ | (refine rgs_nil ?_; intro vs wk hE; replace H := H.ext hE; clear hE) | refine RGs.skp (fun _ => rfl) rfl ?_ | (refine RGs.bq (fun _ => rfl) rfl (by intro vs w hE hP; have H := H.ext hE; first | exact dbQ | fail) (fun hc => ?_) (fun hc => ?_) <;> ((try simp only [cmpP, decide_eq_true_eq, decide_eq_false_iff_not, dcd_iff, dcd_no] at hc); try exact prDQ)) | refine RGs.pq (fun _ => rfl) rfl (by intro vs w hE hP; have H := H.ext hE; first | (refine opk 6 rfl ?_; first | (refine ost_toStrN (xs := recB o) rfl rfl (by omega) (hBk (hB2.full H)) ?_; exact ⟨Fr.refl _ _, rfl⟩) | (refine ost_toStrN (xs := recB o) rfl rfl (by first | rfl | (simp; omega)) (H.own8rd (by (exact ixQ))) ?_; exact ⟨Fr.refl _ _, rfl⟩)) | exact dvQ | fail) ?_)
    all_goals exact ⟨g.length - (i + 1), by omega, i + 1, rfl, by omega, by (repeat' (first | exact Agree.refl _ _ | exact Agree.havoc | refine Agree.upd rfl ?_ | refine Agree.hav2 rfl ?_)), rfl, H.pick0⟩
  · obtain rfl : i = g.length := by omega
    repeat' (first | ((first | refine WL.p rfl ?_ | refine WL.u ?_ | refine WL.g rfl rfl ?_ | refine WL.gu rfl ?_); first | refine pvQ ?_ | (refine opk 3 rfl ?_; first | (refine ost_cmp rfl rfl rfl rfl (fun hc => ?_) (fun hc => ?_) <;> (simp only [cmpP] at hc; try exact prIQ)) | (refine ost_streqB rfl rfl rfl (fun hc => ?_) (fun hc => ?_) <;> try exact prEQ) | (refine ost_strneB rfl rfl rfl (fun hc => ?_) (fun hc => ?_) <;> try exact prEQ) | (refine ost_streq rfl rfl rfl (fun hc => ?_) (fun hc => ?_) <;> try exact absurd rfl hc) | (refine ost_strne rfl rfl rfl (fun hc => ?_) (fun hc => ?_))) | (refine opk 4 rfl ?_; (refine ost_cmp rfl rfl rfl rfl (fun hc => ?_) (fun hc => ?_) <;> (simp only [cmpP] at hc; try exact prIQ))) | (refine opk 8 rfl ?_; (refine ost_storeW H rfl rfl rfl rfl lQ ixQ lQ okQ ?_; clear H; intro wk H; simp only [List.set_cons_zero, List.set_cons_succ, Nat.reduceAdd] at H)) | (refine opk 9 rfl ?_; (refine ost_allocA H rfl ?_; clear H; intro bk wk H))) | refine Wc.seq ?_ | refine then_n ?_ | refine WL.nil ?_ | refine Wc.region ?_ | refine Wc.block ?_ | refine then_r ?_ | refine then_e ?_ | refine inb_e rfl ?_ | refine inb_o rfl ?_ | refine inb_n ?_ | refine inb_r ?_ | refine Wc.skip ?_ | refine Wc.exit ?_ | refine Wc.ret ?_ | refine Wc.cond_true rfl ?_ | refine Wc.cond_false rfl ?_ | (refine Wc.drawn (id := 13) 26 (by kernel_rfl) ?_) | refine WL.skp rfl rfl ?_ | refine WL.sku rfl ?_ | (refine rgs_nil ?_; intro vs wk hE; replace H := H.ext hE; clear hE) | refine RGs.skp (fun _ => rfl) rfl ?_ | (refine RGs.bq (fun _ => rfl) rfl (by intro vs w hE hP; have H := H.ext hE; first | exact dbQ | fail) (fun hc => ?_) (fun hc => ?_) <;> ((try simp only [cmpP, decide_eq_true_eq, decide_eq_false_iff_not, dcd_iff, dcd_no] at hc); try exact prDQ)) | refine RGs.pq (fun _ => rfl) rfl (by intro vs w hE hP; have H := H.ext hE; first | exact dvQ | fail) ?_)
    (first | refine fn_ret1 (v := .bool _) rfl rfl ⟨?_, H.fr⟩ | refine fn_ret1 (v := .int _ _) rfl rfl ⟨?_, H.fr⟩ | refine fn_ret1 (v := .string _) rfl rfl ⟨?_, H.fr⟩); rfl
end Go.Tg
namespace Go.Proofs.YtajfhoeejeadkaaDoor
open Go.ChangeShapes Go.WideShapes Go.ChangeAt Go.RowKit Go.Tg
theorem segmentPlaces_lifted (os : Os) (started : os.Started) (H : Type) (enc : TypeId × Value → H) :
    ReturnsInHanded {} Tryd.checked os 12 .any (fun w args => (Rows.segmentPlacesSpec.pre enc Tryd.prog Tryd.f12 Rows.segmentPlacesRow.domain false w args ∧ laidMetH Tryd.prog Rows.segmentPlacesRow.laid w) ∧ sizedMet enc Tryd.prog Tryd.f12 (OpenSpec.ofChange Rows.segmentPlacesSpec) false w args) (Rows.segmentPlacesSpec.post enc Tryd.prog Tryd.f12 false true false false) := by
  refine returnsInHanded_of_change_and (C := Tryd.checked) (X := fun w _ => laidMetH Tryd.prog Rows.segmentPlacesRow.laid w) (fun _ _ _ hh h => h.of_heap hh) own_ started (by kernel_rfl) Tryd.func12
    (ChangeSpec.witness_shaped (enc := enc) (C := Tryd.checked) (os := os) (X := fun w _ => laidMetH Tryd.prog Rows.segmentPlacesRow.laid w) false (World.laidAll Tryd.prog os Rows.segmentPlacesRow.laid) #[.int .u32 0, .slice none 0 0] 8 (World.laidAll_os _ _ _)
      (World.shaped_of_ZipB (by kernel_rfl) (by kernel_rfl)) (by kernel_rfl) (by kernel_rfl) (by kernel_rfl)
      (by rw [MakeChecks.laidMetH_plain _ _ _ (by kernel_rfl)]; exact laidMet_laidAll _ (by kernel_rfl) (by kernel_rfl))) ?_
  intro W base args ds gs before hval0 hW hcnd _ hLd _
  have hval : ∀ (j : Nat) t v, Tryd.f12.params[j]? = some t → args[j]? = some v → Value.okWide Tryd.prog W .any base t v := hval0
  have hT : Half (full W) := half_of (by rfl) hLd
  have hW' := hW
  obtain ⟨p, q, hA0, -, -, -, -⟩ := hW'
  have hA : DataW.TrodAll enc Tryd.prog W 0 (fun _ => true) true Tryd.f12.params.toList args.toList ds p := hA0
  rw [Tryd.params12] at hA hval
  obtain ⟨v0, v1, d0, d1, p0, p1, rfl, rfl, rfl, h0, h1⟩ := trodAll_two hA
  obtain ⟨id, rfl⟩ := u32_ok (hval 0 _ v0 rfl rfl)
  obtain ⟨lla, llc, ll, e1, llr⟩ := ops_of (Td.of h1)
  obtain rfl := val_of1 e1 (okWide_slice Tryd.underlying74 (hval 1 _ v1 rfl rfl))
  refine (law_SegmentPlaces id lla llc ll W hT llr).mono fun e W' ⟨v, he, hv, hE⟩ => ⟨v, he, ?_⟩
  subst hv
  exact law_post rfl hW hE rfl (by kernel_rfl) Tryd.underlying4 laid_ (by kernel_rfl)
theorem segmentPlaces_said : Rows.SegmentPlacesSaid :=
  OpenClaim.holds_of_wide 12 Tryd.f12 rfl rfl rfl rfl rfl rfl rfl ⟨rfl, rfl, rfl, rfl, rfl⟩ rfl rfl rfl rfl rfl (by kernel_rfl) Tryd.func12 (by kernel_rfl)
    (of_decide_eq_true (by kernel_rfl)) (by unfold Func.isWrapper; first | (rw [if_pos (by decide +kernel)]; kernel_rfl) | (rw [if_neg (by decide +kernel)]; exact ⟨rfl, rfl⟩))
    (fun os started H enc _ => segmentPlaces_lifted os started H enc)
theorem segmentPlaces_holds : Rows.SegmentPlacesCardSaid :=
  Claim7.holds_tied_plain_at .later [] [.data] true (true, "9bdefd4ab56ad6846b860e456533c8c9234d832d0db0c11e5e7191fbced85786") false segmentPlaces_said (fun _ h => by cases h) (by kernel_rfl) (fun _ h => by cases h) segmentPlaces_row_tie rfl ⟨rfl, rfl⟩ (by kernel_rfl) rfl
    (fun f fn hf hfn => by
      obtain rfl : f = 12 := Option.some.inj ((show Tryd.prog.funcNamed "trug/truglaw12.SegmentPlaces" = some 12 by kernel_rfl).symm.trans hf) |>.symm
      obtain rfl : fn = Tryd.f12 := (Option.some.inj (Tryd.func12.symm.trans hfn)).symm
      exact ⟨by kernel_rfl, fun j t ht => by
        have hm : t ∈ Tryd.f12.params.toList := by simpa using Array.mem_of_getElem? ht
        have hall : (Tryd.f12.params.toList.all fun u => !Tryd.prog.wantsStandIn u) = true := by kernel_rfl
        exact (show Tryd.prog.wantsStandIn t = false by simpa using List.all_eq_true.1 hall t hm)⟩)
    (by kernel_rfl)
end Go.Proofs.YtajfhoeejeadkaaDoor

