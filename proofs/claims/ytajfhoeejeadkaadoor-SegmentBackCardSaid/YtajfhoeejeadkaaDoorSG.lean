/- Proved: the given statement SegmentBackCardSaid: the Go law SegmentBack returns true for every input that it is asked of. No conditions. -/
import Derived.Test.YtajfhoeejeadkaaDoorInst
import Derived.Test.YtajfhoeejeadkaaDoorAuto
import Derived.Test.YtajfhoeejeadkaaDoorSF
set_option linter.unusedVariables false
set_option linter.unusedSimpArgs false
set_option maxRecDepth 100000
set_option maxHeartbeats 8000000
namespace Go.Tg
open Go Go.Proofs
theorem cI_flat (l : List Nat) : (l.map cI).flatten = l.map fun (n : Nat) => Value.int .i64 (n : Int) := by
  induction l with
  | nil => rfl
  | cons n l ih => simp [cI, ih]
theorem law_SegmentBack (id : UInt32) (a : Option Addr) (c : Nat) (l : List OpT) (n : Int) (n1 : 0 ≤ n) (n2 : n ≤ 65535) (w : World) (hT0 : Half (full w)) (hr0 : Sl (full w) 23 a c (l.map cOp)) : SpecV Tryd.prog 11 #[.int .u32 id.toNat, .slice a l.length c, .int .u16 n] w (.bool true) := by
  have H := St.start (sat_full w)
  generalize hh : full w = h0 at H hT0 hr0
  have hhl := headB_len id
  have cW := fun h w hs hT hr => law12_written id h a c l w hs hT hr
  have cH := seg_Head id
  unfold SpecV
  refine calls_of Tryd.func11 rfl Tryd.ntmps11 (by simp) ?_
  repeat' (first | ((first | refine WL.p rfl ?_ | refine WL.u ?_ | refine WL.g rfl rfl ?_ | refine WL.gu rfl ?_); first | (refine opk 1 rfl ?_; first | (refine ost_V H rfl (alive12 _ _ (sat_full _) (hT0.full H)) rfl ?_; clear H; intro wk H) | (refine ost_Sk H rfl (cW _ _ H.sat hT0 hr0) rfl ?_; clear H; rintro vk wk hfk Lk ⟨g, ab, cb, ag, cg, ae, ce, hga, hgl, rfl, rfl, hB, hO, hA⟩ hle H; simp only [List.cons_append, List.nil_append] at H)) | refine pvQ ?_ | (refine opk 3 rfl ?_; first | (refine ost_eqA rfl (by decide) rfl rfl tyQ tyQ (fun hc => ?_) (fun hc => ?_) <;> try exact prEQ) | (refine ost_neA rfl (by decide) rfl rfl tyQ tyQ (fun hc => ?_) (fun hc => ?_) <;> try exact prEQ) | (refine ost_cmp rfl rfl rfl rfl (fun hc => ?_) (fun hc => ?_) <;> (simp only [cmpP] at hc; try exact prIQ))) | (refine opk 4 rfl ?_; (refine ost_cmp rfl rfl rfl rfl (fun hc => ?_) (fun hc => ?_) <;> (simp only [cmpP] at hc; try exact prIQ))) | (refine opk 8 rfl ?_; (refine ost_storeW H rfl rfl rfl rfl lQ ixQ lQ okQ ?_; clear H; intro wk H; simp only [List.set_cons_zero, List.set_cons_succ, Nat.reduceAdd] at H)) | (refine opk 9 rfl ?_; first | (refine ost_allocA H rfl ?_; clear H; intro bk wk H) | (refine ost_build1 H rfl rfl rfl evQ lsQ rfl ?_; clear H; intro bk wk H))) | refine Wc.seq ?_ | refine then_n ?_ | refine WL.nil ?_ | refine Wc.region ?_ | refine Wc.block ?_ | refine then_r ?_ | refine then_e ?_ | refine inb_e rfl ?_ | refine inb_o rfl ?_ | refine inb_n ?_ | refine inb_r ?_ | refine Wc.skip ?_ | refine Wc.exit ?_ | refine Wc.ret ?_ | refine Wc.cond_true rfl ?_ | refine Wc.cond_false rfl ?_ | (refine Wc.drawn (id := 21) 23 (by kernel_rfl) ?_) | refine WL.skp rfl rfl ?_ | refine WL.sku rfl ?_ | (refine rgs_nil ?_; intro vs wk hE; replace H := H.ext hE; clear hE) | refine RGs.skp (fun _ => rfl) rfl ?_ | (refine RGs.bq (fun _ => rfl) rfl (by intro vs w hE hP; have H := H.ext hE; first | exact dbQ | fail) (fun hc => ?_) (fun hc => ?_) <;> ((try simp only [cmpP, decide_eq_true_eq, decide_eq_false_iff_not, dcd_iff, dcd_no] at hc); try exact prDQ)) | refine RGs.pq (fun _ => rfl) rfl (by intro vs w hE hP; have H := H.ext hE; first | exact dvQ | fail) ?_)
  have hT1 := hT0.mono hle
  rename FH => h1
  clear hle cW
  have hrl := recsB_len g
  have hlb : (headB id ++ recsB g).length = (headB id).length + (recsB g).length := List.length_append
  have hcb := hB.le
  have m0 : 0 ≤ n % (((headB id ++ recsB g).length : Int) - ((headB id).length : Int) + 1) := Int.emod_nonneg _ (by omega)
  have m1 : n % (((headB id ++ recsB g).length : Int) - ((headB id).length : Int) + 1) < ((headB id ++ recsB g).length : Int) - ((headB id).length : Int) + 1 := Int.emod_lt_of_pos _ (by omega)
  repeat' (first | ((first | refine WL.p rfl ?_ | refine WL.u ?_ | refine WL.g rfl rfl ?_ | refine WL.gu rfl ?_); first | (refine opk 1 rfl ?_; (refine ost_C H rfl (cH _ _ (sat_full _) (hT1.full H)) rfl ?_; clear H; rintro vk wk hfk Lk ⟨a5, c5, rfl, rfl⟩ H; simp only [List.cons_append, List.nil_append] at H)) | refine pvQ ?_ | (refine opk 3 rfl ?_; first | (refine ost_eqA rfl (by decide) rfl rfl tyQ tyQ (fun hc => ?_) (fun hc => ?_) <;> try exact prEQ) | (refine ost_neA rfl (by decide) rfl rfl tyQ tyQ (fun hc => ?_) (fun hc => ?_) <;> try exact prEQ) | (refine ost_cmp rfl rfl rfl rfl (fun hc => ?_) (fun hc => ?_) <;> (simp only [cmpP] at hc; try exact prIQ))) | (refine opk 4 rfl ?_; (refine ost_cmp rfl rfl rfl rfl (fun hc => ?_) (fun hc => ?_) <;> (simp only [cmpP] at hc; try exact prIQ))) | (refine opk 8 rfl ?_; (refine ost_storeW H rfl rfl rfl rfl lQ ixQ lQ okQ ?_; clear H; intro wk H; simp only [List.set_cons_zero, List.set_cons_succ, Nat.reduceAdd] at H)) | (refine opk 9 rfl ?_; first | (refine ost_allocA H rfl ?_; clear H; intro bk wk H) | (refine ost_build1 H rfl rfl rfl evQ lsQ rfl ?_; clear H; intro bk wk H))) | refine Wc.seq ?_ | refine then_n ?_ | refine WL.nil ?_ | refine Wc.region ?_ | refine Wc.block ?_ | refine then_r ?_ | refine then_e ?_ | refine inb_e rfl ?_ | refine inb_o rfl ?_ | refine inb_n ?_ | refine inb_r ?_ | refine Wc.skip ?_ | refine Wc.exit ?_ | refine Wc.ret ?_ | refine Wc.cond_true rfl ?_ | refine Wc.cond_false rfl ?_ | (refine Wc.drawn (id := 21) 23 (by kernel_rfl) ?_) | refine WL.skp rfl rfl ?_ | refine WL.sku rfl ?_ | (refine rgs_nil ?_; intro vs wk hE; replace H := H.ext hE; clear hE) | refine RGs.skp (fun _ => rfl) rfl ?_ | (refine RGs.bq (fun _ => rfl) rfl (by intro vs w hE hP; have H := H.ext hE; first | exact dbQ | fail) (fun hc => ?_) (fun hc => ?_) <;> ((try simp only [cmpP, decide_eq_true_eq, decide_eq_false_iff_not, dcd_iff, dcd_no] at hc); try exact prDQ)) | refine RGs.pq (fun _ => rfl) rfl (by intro vs w hE hP; have H := H.ext hE; first | exact dvQ | fail) ?_)
  generalize n % (((headB id ++ recsB g).length : Int) - ((headB id).length : Int) + 1) = y at m0 m1 ⊢
  obtain ⟨j, rfl⟩ := Int.eq_ofNat_of_zero_le m0
  obtain ⟨nn, r, hn1, hn2, hn3, hn4, hn5⟩ := recs_cut g j (by omega)
  have hcnt := hn4 (headB id).length
  have hel := endsR_len (headB id).length g
  have hea := fun i (h : i < g.length) => ends_ats (headB id).length g h
  have hgn : allR (g.take nn) := fun o h => hga o (List.mem_of_mem_take h)
  have hnl : (g.take nn).length = nn := by rw [List.length_take]; omega
  have hsc : scanS ((headB id ++ recsB g).take ((headB id).length + j)) = (⟨id, g.take nn, atsR (headB id).length (g.take nn), false, (headB id).length + (recsB (g.take nn)).length⟩, 0) := by
    rw [List.take_length_add_append, hn2]
    exact scan_open id (g.take nn) hgn hn3
  have S1 : ∀ (h : FH) (w : World), Sat h w → Half h → BS h ab cb (headB id ++ recsB g) → Spec Tryd.prog 40 #[.slice ab (((headB id).length : Int) + (j : Int)).toNat cb] w [] h (fun v h' L' => ∃ ao co at_ ct, v = .tuple #[.agg [Value.int .u32 id.toNat, .slice ao nn co, .slice at_ nn ct, .bool false, .int .i64 ((headB id).length + (recsB (g.take nn)).length : Nat)].toArray, .int .i64 0] ∧ L' = [] ∧ Sl h' 23 ao co ((g.take nn).map cOp) ∧ Sl h' 1 at_ ct ((atsR (headB id).length (g.take nn)).map cI)) := fun h w hs hT hB =>
    (seg_ScanK ((headB id ++ recsB g).take ((headB id).length + j)) hsc (((headB id).length : Int) + (j : Int)).toNat (by rw [List.length_take]; omega) h ab cb w hs hT (hB.take _) (by rw [List.length_take]; omega)).mono fun v h' L' ⟨ao, co, at_, ct, e1, e2, e3, e4⟩ => ⟨ao, co, at_, ct, by rw [e1]; unfold ifL; dsimp only; rw [atsR_len, hnl], e2, e3, e4⟩
  have hsd := scan_done id g hga (by omega)
  rw [← List.append_assoc] at hsd
  have hfl := footB_len g.length
  have S2 : ∀ (h : FH) (a : Option Addr) (c : Nat) (w : World), Sat h w → Half h → BS h a c (headB id ++ recsB g ++ footB g.length) → Spec Tryd.prog 40 #[.slice a (headB id ++ recsB g ++ footB g.length).length c] w [] h (fun v h' L' => ∃ ao co at_ ct, v = .tuple #[.agg [Value.int .u32 id.toNat, .slice ao g.length co, .slice at_ g.length ct, .bool true, .int .i64 ((headB id).length + (recsB g).length + (footB g.length).length : Nat)].toArray, .int .i64 0] ∧ L' = []) := fun h a c w hs hT hB =>
    (seg_ScanK (headB id ++ recsB g ++ footB g.length) hsd _ rfl h a c w hs hT hB (by rw [List.length_append]; omega)).mono fun v h' L' ⟨ao, co, at_, ct, e1, e2, e3, e4⟩ => ⟨ao, co, at_, ct, by rw [e1]; unfold ifL; dsimp only; rw [atsR_len], e2⟩
  have cF := seg_Foot (g.length : Int) (by omega) (by omega)
  rw [outK_r (n := g.length) (by omega)] at cF
  dsimp only at cF
  clear hsc hsd hn2 hn3 hn4 cH
  have hcO := hO.lenM
  have hcA := hA.lenM
  have hat := atsR_get (headB id).length (g.take nn)
  have hatl := atsR_len (headB id).length (g.take nn)
  generalize atsR (headB id).length (g.take nn) = ats at S1 hat hatl
  generalize endsR (headB id).length g = ends at H hA hcnt hel hea hcA ⊢
  generalize hXX : headB id ++ recsB g = XX at *
  generalize (headB id).length = hl at *
  refine Wc.loopE (fun s0 m s w' => ∃ (i : Nat), m = ends.length - i ∧ i ≤ ends.length ∧ Agree [13, 15, 50, 51, 52, 53, 54, 55, 56, 57, 58, 59] s s0 ∧ s 50 = .int .i64 i ∧ s 13 = .int .i64 (cntE (ends.take i) (hl + j) : Nat) ∧ St w [] h0 h1 [] w') ends.length ⟨0, rfl, by omega, Agree.refl _ _, rfl, rfl, H.pick0⟩ ?_
  clear H
  rintro m s w' ⟨i, rfl, hi, hA9, e1, e2, H⟩
  obtain ⟨j9, rfl⟩ := hA9.env2 e1 e2
  clear hA9 e1 e2
  have hce : cntE (ends.take i) (hl + j) ≤ i := by
    have := List.length_filter_le (fun x => decide (x ≤ hl + j)) (ends.take i)
    have h2 := List.length_take_le i ends
    unfold cntE; omega
  by_cases hlt : i < ends.length
  · obtain ⟨b, off, ll, T, fr, e1, eb, eg⟩ := hA.getM (by decide) (Nat.lt_of_le_of_lt (Nat.zero_le _) hlt)
    subst e1
    have g1 : ll[off + (i : Int).toNat * 1]? = some (.int .i64 (ends[i] : Nat)) := row_cell (eg (i : Int).toNat i hlt (by omega)) (q := 0) (by simp [cI])
    have hy := @cntE_yes ends (hl + j) i hlt
    have hn := @cntE_no ends (hl + j) i hlt
    clear eg
    generalize ends[i] = x at g1 hy hn
    generalize cntE (ends.take i) (hl + j) = C at hy hn hce ⊢
    by_cases hx : x ≤ hl + j
    · have hy := hy hx
      repeat' (first | ((first | refine WL.p rfl ?_ | refine WL.u ?_ | refine WL.g rfl rfl ?_ | refine WL.gu rfl ?_); first | refine pvQ ?_ | (refine opk 3 rfl ?_; first | (refine ost_eqA rfl (by decide) rfl rfl tyQ tyQ (fun hc => ?_) (fun hc => ?_) <;> try exact prEQ) | (refine ost_neA rfl (by decide) rfl rfl tyQ tyQ (fun hc => ?_) (fun hc => ?_) <;> try exact prEQ) | (refine ost_cmp rfl rfl rfl rfl (fun hc => ?_) (fun hc => ?_) <;> (simp only [cmpP] at hc; try exact prIQ))) | (refine opk 4 rfl ?_; (refine ost_cmp rfl rfl rfl rfl (fun hc => ?_) (fun hc => ?_) <;> (simp only [cmpP] at hc; try exact prIQ))) | (refine opk 8 rfl ?_; (refine ost_storeW H rfl rfl rfl rfl lQ ixQ lQ okQ ?_; clear H; intro wk H; simp only [List.set_cons_zero, List.set_cons_succ, Nat.reduceAdd] at H)) | (refine opk 9 rfl ?_; first | (refine ost_allocA H rfl ?_; clear H; intro bk wk H) | (refine ost_build1 H rfl rfl rfl evQ lsQ rfl ?_; clear H; intro bk wk H))) | refine Wc.seq ?_ | refine then_n ?_ | refine WL.nil ?_ | refine Wc.region ?_ | refine Wc.block ?_ | refine then_r ?_ | refine then_e ?_ | refine inb_e rfl ?_ | refine inb_o rfl ?_ | refine inb_n ?_ | refine inb_r ?_ | refine Wc.skip ?_ | refine Wc.exit ?_ | refine Wc.ret ?_ | refine Wc.cond_true rfl ?_ | refine Wc.cond_false rfl ?_ | (refine Wc.drawn (id := 21) 23 (by kernel_rfl) ?_) | refine WL.skp rfl rfl ?_ | refine WL.sku rfl ?_ | (refine rgs_nil ?_; intro vs wk hE; replace H := H.ext hE; clear hE) | refine RGs.skp (fun _ => rfl) rfl ?_ | (refine RGs.bq (fun _ => rfl) rfl (by intro vs w hE hP; have H := H.ext hE; first | exact dbQ | fail) (fun hc => ?_) (fun hc => ?_) <;> ((try simp only [cmpP, decide_eq_true_eq, decide_eq_false_iff_not, dcd_iff, dcd_no] at hc); try exact prDQ)) | refine RGs.pq (fun _ => rfl) rfl (by intro vs w hE hP; have H := H.ext hE; first | exact dvQ | fail) ?_)
      all_goals exact ⟨ends.length - (i + 1), by omega, i + 1, rfl, by omega, by (repeat' (first | exact Agree.refl _ _ | exact Agree.havoc | refine Agree.upd rfl ?_ | refine Agree.hav2 rfl ?_)), rfl, by rw [hy]; rfl, H⟩
    · have hn := hn hx
      repeat' (first | ((first | refine WL.p rfl ?_ | refine WL.u ?_ | refine WL.g rfl rfl ?_ | refine WL.gu rfl ?_); first | refine pvQ ?_ | (refine opk 3 rfl ?_; first | (refine ost_eqA rfl (by decide) rfl rfl tyQ tyQ (fun hc => ?_) (fun hc => ?_) <;> try exact prEQ) | (refine ost_neA rfl (by decide) rfl rfl tyQ tyQ (fun hc => ?_) (fun hc => ?_) <;> try exact prEQ) | (refine ost_cmp rfl rfl rfl rfl (fun hc => ?_) (fun hc => ?_) <;> (simp only [cmpP] at hc; try exact prIQ))) | (refine opk 4 rfl ?_; (refine ost_cmp rfl rfl rfl rfl (fun hc => ?_) (fun hc => ?_) <;> (simp only [cmpP] at hc; try exact prIQ))) | (refine opk 8 rfl ?_; (refine ost_storeW H rfl rfl rfl rfl lQ ixQ lQ okQ ?_; clear H; intro wk H; simp only [List.set_cons_zero, List.set_cons_succ, Nat.reduceAdd] at H)) | (refine opk 9 rfl ?_; first | (refine ost_allocA H rfl ?_; clear H; intro bk wk H) | (refine ost_build1 H rfl rfl rfl evQ lsQ rfl ?_; clear H; intro bk wk H))) | refine Wc.seq ?_ | refine then_n ?_ | refine WL.nil ?_ | refine Wc.region ?_ | refine Wc.block ?_ | refine then_r ?_ | refine then_e ?_ | refine inb_e rfl ?_ | refine inb_o rfl ?_ | refine inb_n ?_ | refine inb_r ?_ | refine Wc.skip ?_ | refine Wc.exit ?_ | refine Wc.ret ?_ | refine Wc.cond_true rfl ?_ | refine Wc.cond_false rfl ?_ | (refine Wc.drawn (id := 21) 23 (by kernel_rfl) ?_) | refine WL.skp rfl rfl ?_ | refine WL.sku rfl ?_ | (refine rgs_nil ?_; intro vs wk hE; replace H := H.ext hE; clear hE) | refine RGs.skp (fun _ => rfl) rfl ?_ | (refine RGs.bq (fun _ => rfl) rfl (by intro vs w hE hP; have H := H.ext hE; first | exact dbQ | fail) (fun hc => ?_) (fun hc => ?_) <;> ((try simp only [cmpP, decide_eq_true_eq, decide_eq_false_iff_not, dcd_iff, dcd_no] at hc); try exact prDQ)) | refine RGs.pq (fun _ => rfl) rfl (by intro vs w hE hP; have H := H.ext hE; first | exact dvQ | fail) ?_)
      all_goals exact ⟨ends.length - (i + 1), by omega, i + 1, rfl, by omega, by (repeat' (first | exact Agree.refl _ _ | exact Agree.havoc | refine Agree.upd rfl ?_ | refine Agree.hav2 rfl ?_)), rfl, by rw [hn]; rfl, H⟩
  · obtain rfl : i = ends.length := by omega
    rw [List.take_length, hcnt]
    repeat' (first | ((first | refine WL.p rfl ?_ | refine WL.u ?_ | refine WL.g rfl rfl ?_ | refine WL.gu rfl ?_); first | (refine opk 1 rfl ?_; (refine ost_Sk H rfl (S1 _ _ H.sat hT1 hB) rfl ?_; clear H; rintro vk wk hfk Lk ⟨ao, co, at1, ct, rfl, rfl, hOx, hAx⟩ hle H; simp only [List.cons_append, List.nil_append] at H)) | refine pvQ ?_ | (refine opk 3 rfl ?_; first | (refine ost_eqA rfl (by decide) rfl rfl tyQ tyQ (fun hc => ?_) (fun hc => ?_) <;> try exact prEQ) | (refine ost_neA rfl (by decide) rfl rfl tyQ tyQ (fun hc => ?_) (fun hc => ?_) <;> try exact prEQ) | (refine ost_cmp rfl rfl rfl rfl (fun hc => ?_) (fun hc => ?_) <;> (simp only [cmpP] at hc; try exact prIQ))) | (refine opk 4 rfl ?_; (refine ost_cmp rfl rfl rfl rfl (fun hc => ?_) (fun hc => ?_) <;> (simp only [cmpP] at hc; try exact prIQ))) | (refine opk 8 rfl ?_; (refine ost_storeW H rfl rfl rfl rfl lQ ixQ lQ okQ ?_; clear H; intro wk H; simp only [List.set_cons_zero, List.set_cons_succ, Nat.reduceAdd] at H)) | (refine opk 9 rfl ?_; first | (refine ost_allocA H rfl ?_; clear H; intro bk wk H) | (refine ost_build1 H rfl rfl rfl evQ lsQ rfl ?_; clear H; intro bk wk H))) | refine Wc.seq ?_ | refine then_n ?_ | refine WL.nil ?_ | refine Wc.region ?_ | refine Wc.block ?_ | refine then_r ?_ | refine then_e ?_ | refine inb_e rfl ?_ | refine inb_o rfl ?_ | refine inb_n ?_ | refine inb_r ?_ | refine Wc.skip ?_ | refine Wc.exit ?_ | refine Wc.ret ?_ | refine Wc.cond_true rfl ?_ | refine Wc.cond_false rfl ?_ | (refine Wc.drawn (id := 21) 23 (by kernel_rfl) ?_) | refine WL.skp rfl rfl ?_ | refine WL.sku rfl ?_ | (refine rgs_nil ?_; intro vs wk hE; replace H := H.ext hE; clear hE) | refine RGs.skp (fun _ => rfl) rfl ?_ | (refine RGs.bq (fun _ => rfl) rfl (by intro vs w hE hP; have H := H.ext hE; first | exact dbQ | fail) (fun hc => ?_) (fun hc => ?_) <;> ((try simp only [cmpP, decide_eq_true_eq, decide_eq_false_iff_not, dcd_iff, dcd_no] at hc); try exact prDQ)) | refine RGs.pq (fun _ => rfl) rfl (by intro vs w hE hP; have H := H.ext hE; first | exact dvQ | fail) ?_)
    have hT2 := hT1.mono hle
    have hB2 := hB.mono hle
    have hO2 := hO.mono hle
    have hA2 := hA.mono hle
    rename FH => h2
    clear hle S1 hcnt hce
    obtain ⟨bx, ebx⟩ := H.nameB idx0
    subst ebx
    have hfl2 := cI_flat ends
    refine Wc.loopE (fun s0 m s w' => ∃ (i : Nat), m = nn - i ∧ i ≤ nn ∧ Agree [6, 18, 102, 103, 104, 105, 106, 107, 108, 109, 110, 111, 112, 113, 114, 115, 116, 117, 118, 119, 120, 121, 122, 123, 124, 125, 126, 127, 128, 129, 130] s s0 ∧ s 102 = .int .i64 i ∧ St w [] h0 h2 [.blk bx (.cells [Value.int .u32 id.toNat, .slice ao nn co, .slice at1 nn ct, .bool false, .int .i64 (hl + (recsB (g.take nn)).length : Nat)].toArray 77 (0, 0))] w') nn ⟨0, rfl, by omega, Agree.refl _ _, rfl, H⟩ ?_
    clear H
    rintro m s w' ⟨i, rfl, hi, hA9, e1, H⟩
    obtain ⟨j9, rfl⟩ := hA9.env1 e1
    clear hA9 e1
    by_cases hlt : i < nn
    · have hlg : i < g.length := by omega
      obtain ⟨b, off, ll, T, fr, e1, eb, eg⟩ := hOx.getM (by decide) (by omega)
      subst e1
      have g1 := eg (i : Int).toNat i (by omega) (by omega)
      rw [List.getElem_take] at g1
      obtain ⟨b', off', ll', T', fr', e1, eb', eg'⟩ := hO2.getM (by decide) (by omega)
      subst e1
      have g2 := eg' (i : Int).toNat i hlg (by omega)
      obtain ⟨b'', off'', ll'', T'', fr'', e1, eb'', eg''⟩ := hAx.getM (by decide) (by omega)
      subst e1
      have hia : i < ats.length := by omega
      have g3 : ll''[off'' + (i : Int).toNat * 1]? = some (.int .i64 (ats[i] : Nat)) := row_cell (eg'' (i : Int).toNat i hia (by omega)) (q := 0) (by simp [cI])
      have hx := hat i hia
      rw [List.take_take, Nat.min_eq_left (by omega)] at hx
      have hy := hea i hlg
      rw [← hx] at hy
      have lo := cOp_len g[i]
      have to := typed_cOp g[i]
      clear eg eg' eg''
      generalize ats[i] = x at g3 hy
      generalize g[i] = o at g1 g2 lo to
      have hget : ([Value.int .i64 (hl : Int)] ++ (ends.map cI).flatten)[(i : Int).toNat]? = some (.int .i64 (x : Nat)) := by
        rw [hfl2, show [Value.int .i64 (hl : Int)] ++ ends.map (fun (n : Nat) => Value.int .i64 (n : Int)) = (hl :: ends).map (fun (n : Nat) => Value.int .i64 (n : Int)) from rfl, List.getElem?_map, show (i : Int).toNat = i from rfl, hy]; rfl
      have hfl3 : (ends.map cI).flatten.length = ends.length := by rw [hfl2, List.length_map]
      have hrd := hA2.rd
      generalize (ends.map cI).flatten = news at hget hfl3 hfl2 hrd
      repeat' (first | ((first | refine WL.p rfl ?_ | refine WL.u ?_ | refine WL.g rfl rfl ?_ | refine WL.gu rfl ?_); first | refine pvQ ?_ | (refine opk 3 rfl ?_; first | (refine ost_eqA rfl (by decide) rfl rfl tyQ tyQ (fun hc => ?_) (fun hc => ?_) <;> try exact prEQ) | (refine ost_neA rfl (by decide) rfl rfl tyQ tyQ (fun hc => ?_) (fun hc => ?_) <;> try exact prEQ) | (refine ost_cmp rfl rfl rfl rfl (fun hc => ?_) (fun hc => ?_) <;> (simp only [cmpP] at hc; try exact prIQ))) | (refine opk 4 rfl ?_; (refine ost_cmp rfl rfl rfl rfl (fun hc => ?_) (fun hc => ?_) <;> (simp only [cmpP] at hc; try exact prIQ))) | (refine opk 8 rfl ?_; (refine ost_storeW H rfl rfl rfl rfl lQ ixQ lQ okQ ?_; clear H; intro wk H; simp only [List.set_cons_zero, List.set_cons_succ, Nat.reduceAdd] at H)) | (refine opk 9 rfl ?_; first | (refine ost_allocA H rfl ?_; clear H; intro bk wk H) | (refine ost_build1 H rfl rfl rfl evQ lsQ rfl ?_; clear H; intro bk wk H))) | refine Wc.seq ?_ | refine then_n ?_ | refine WL.nil ?_ | refine Wc.region ?_ | refine Wc.block ?_ | refine then_r ?_ | refine then_e ?_ | refine inb_e rfl ?_ | refine inb_o rfl ?_ | refine inb_n ?_ | refine inb_r ?_ | refine Wc.skip ?_ | refine Wc.exit ?_ | refine Wc.ret ?_ | refine Wc.cond_true rfl ?_ | refine Wc.cond_false rfl ?_ | (refine Wc.drawnR (id := 21) 23 [(17, .row 1 1 [.int .i64 (hl : Int)]), (19, .grown (1 + ends.length) ([.int .i64 (hl : Int)] ++ news)), (21, .ptr (.int .i64 (x : Nat)))] (by kernel_rfl) ?_) | refine WL.skp rfl rfl ?_ | refine WL.sku rfl ?_ | (refine rgs_nil ?_; intro vs wk hE; replace H := H.ext hE; clear hE) | refine RGs.skp (fun _ => rfl) rfl ?_ | (refine RGs.bq (fun _ => rfl) rfl (by intro vs w hE hP; have H := H.ext hE; first | exact dbQ | fail) (fun hc => ?_) (fun hc => ?_) <;> ((try simp only [cmpP, decide_eq_true_eq, decide_eq_false_iff_not, dcd_iff, dcd_no] at hc); try exact prDQ)) | refine RGs.pq (fun _ => rfl) rfl (by intro vs w hE hP; have H := H.ext hE; first | (refine opk 2 rfl ?_; (refine ost_loadG rfl rfl (pf_G hP 21 (by kernel_rfl) rfl rfl) ?_; exact ⟨Fr.refl _ _, rfl⟩)) | exact dvQ | fail) ?_ | refine RGs.sq (fun _ => rfl) rfl (by intro vs w hE hP; have H := H.ext hE; first | (refine ost_buildG rfl rfl rfl rfl ?_; intro v w' hX hg; exact ⟨hX, hg⟩) | (refine ost_appG rfl (pf_G hP 17 (by kernel_rfl) rfl rfl) rfl rfl (hrd.mono H.sat.le) hfl3 (by omega) (by omega) (by omega) ?_; intro v w' hX hg; exact ⟨hX, hg⟩) | (refine ost_idxG rfl (pf_G hP 19 (by kernel_rfl) rfl rfl) rfl (by omega) (by omega) hget ?_; intro v hg; exact ⟨Fr.refl _ _, hg⟩) | fail) ?_)
      all_goals exact ⟨nn - (i + 1), by omega, i + 1, rfl, by omega, by (repeat' (first | exact Agree.refl _ _ | exact Agree.havoc | refine Agree.upd rfl ?_ | refine Agree.hav2 rfl ?_)), rfl, H⟩
    · obtain rfl : i = nn := by omega
      repeat' (first | ((first | refine WL.p rfl ?_ | refine WL.u ?_ | refine WL.g rfl rfl ?_ | refine WL.gu rfl ?_); first | (refine opk 1 rfl ?_; (refine ost_Sk H rfl (cF _ _ H.sat hT2) rfl ?_; clear H; rintro vk wk hfk Lk ⟨a7, c7, rfl, rfl⟩ hle H; simp only [List.cons_append, List.nil_append] at H)) | refine pvQ ?_ | (refine opk 3 rfl ?_; first | (refine ost_eqA rfl (by decide) rfl rfl tyQ tyQ (fun hc => ?_) (fun hc => ?_) <;> try exact prEQ) | (refine ost_neA rfl (by decide) rfl rfl tyQ tyQ (fun hc => ?_) (fun hc => ?_) <;> try exact prEQ) | (refine ost_cmp rfl rfl rfl rfl (fun hc => ?_) (fun hc => ?_) <;> (simp only [cmpP] at hc; try exact prIQ))) | (refine opk 4 rfl ?_; (refine ost_cmp rfl rfl rfl rfl (fun hc => ?_) (fun hc => ?_) <;> (simp only [cmpP] at hc; try exact prIQ))) | (refine opk 8 rfl ?_; (refine ost_storeW H rfl rfl rfl rfl lQ ixQ lQ okQ ?_; clear H; intro wk H; simp only [List.set_cons_zero, List.set_cons_succ, Nat.reduceAdd] at H)) | (refine opk 9 rfl ?_; first | (refine ost_allocA H rfl ?_; clear H; intro bk wk H) | (refine ost_build1 H rfl rfl rfl evQ lsQ rfl ?_; clear H; intro bk wk H))) | refine Wc.seq ?_ | refine then_n ?_ | refine WL.nil ?_ | refine Wc.region ?_ | refine Wc.block ?_ | refine then_r ?_ | refine then_e ?_ | refine inb_e rfl ?_ | refine inb_o rfl ?_ | refine inb_n ?_ | refine inb_r ?_ | refine Wc.skip ?_ | refine Wc.exit ?_ | refine Wc.ret ?_ | refine Wc.cond_true rfl ?_ | refine Wc.cond_false rfl ?_ | (refine Wc.drawn (id := 21) 23 (by kernel_rfl) ?_) | refine WL.skp rfl rfl ?_ | refine WL.sku rfl ?_ | (refine rgs_nil ?_; intro vs wk hE; replace H := H.ext hE; clear hE) | refine RGs.skp (fun _ => rfl) rfl ?_ | (refine RGs.bq (fun _ => rfl) rfl (by intro vs w hE hP; have H := H.ext hE; first | exact dbQ | fail) (fun hc => ?_) (fun hc => ?_) <;> ((try simp only [cmpP, decide_eq_true_eq, decide_eq_false_iff_not, dcd_iff, dcd_no] at hc); try exact prDQ)) | refine RGs.pq (fun _ => rfl) rfl (by intro vs w hE hP; have H := H.ext hE; first | exact dvQ | fail) ?_)
      obtain ⟨a8, c8, h8, e8, hle8, hf8, H9⟩ := H.freeze8
      clear H; have H := H9; clear H9
      injection e8 with e81 e82 e83
      subst e81; subst e83
      have hT8 := (hT2.mono hle).mono hle8
      have hB8 := (hB2.mono hle).mono hle8
      clear hle cF
      replace H := H.nil8 5
      repeat' (first | ((first | refine WL.p rfl ?_ | refine WL.u ?_ | refine WL.g rfl rfl ?_ | refine WL.gu rfl ?_); first | (refine opk 1 rfl ?_; first | (refine ost_app8 (xs := []) H rfl rfl rfl (by (exact ixQ)) (hB8.full H) (by (try simp only [List.length_nil, List.length_append, List.length_cons, List.length_singleton]); omega) ?_; clear H; intro aa ca wk H; simp only [List.set_cons_zero, List.set_cons_succ, List.nil_append] at H) | (refine ost_app8 (xs := XX) H rfl rfl rfl (by (exact ixQ)) (hf8.full H) (by (try simp only [List.length_nil, List.length_append, List.length_cons, List.length_singleton]); omega) ?_; clear H; intro aa ca wk H; simp only [List.set_cons_zero, List.set_cons_succ, List.nil_append] at H)) | refine pvQ ?_ | (refine opk 3 rfl ?_; first | (refine ost_eqA rfl (by decide) rfl rfl tyQ tyQ (fun hc => ?_) (fun hc => ?_) <;> try exact prEQ) | (refine ost_neA rfl (by decide) rfl rfl tyQ tyQ (fun hc => ?_) (fun hc => ?_) <;> try exact prEQ) | (refine ost_cmp rfl rfl rfl rfl (fun hc => ?_) (fun hc => ?_) <;> (simp only [cmpP] at hc; try exact prIQ))) | (refine opk 4 rfl ?_; (refine ost_cmp rfl rfl rfl rfl (fun hc => ?_) (fun hc => ?_) <;> (simp only [cmpP] at hc; try exact prIQ))) | (refine opk 8 rfl ?_; (refine ost_storeW H rfl rfl rfl rfl lQ ixQ lQ okQ ?_; clear H; intro wk H; simp only [List.set_cons_zero, List.set_cons_succ, Nat.reduceAdd] at H)) | (refine opk 9 rfl ?_; first | (refine ost_allocA H rfl ?_; clear H; intro bk wk H) | (refine ost_build1 H rfl rfl rfl evQ lsQ rfl ?_; clear H; intro bk wk H))) | refine Wc.seq ?_ | refine then_n ?_ | refine WL.nil ?_ | refine Wc.region ?_ | refine Wc.block ?_ | refine then_r ?_ | refine then_e ?_ | refine inb_e rfl ?_ | refine inb_o rfl ?_ | refine inb_n ?_ | refine inb_r ?_ | refine Wc.skip ?_ | refine Wc.exit ?_ | refine Wc.ret ?_ | refine Wc.cond_true rfl ?_ | refine Wc.cond_false rfl ?_ | (refine Wc.drawn (id := 21) 23 (by kernel_rfl) ?_) | refine WL.skp rfl rfl ?_ | refine WL.sku rfl ?_ | (refine rgs_nil ?_; intro vs wk hE; replace H := H.ext hE; clear hE) | refine RGs.skp (fun _ => rfl) rfl ?_ | (refine RGs.bq (fun _ => rfl) rfl (by intro vs w hE hP; have H := H.ext hE; first | exact dbQ | fail) (fun hc => ?_) (fun hc => ?_) <;> ((try simp only [cmpP, decide_eq_true_eq, decide_eq_false_iff_not, dcd_iff, dcd_no] at hc); try exact prDQ)) | refine RGs.pq (fun _ => rfl) rfl (by intro vs w hE hP; have H := H.ext hE; first | exact dvQ | fail) ?_)
      obtain ⟨a9, c9, h9, e9, hle9, hb9, H⟩ := H.freeze8
      injection e9 with e91 e92 e93
      subst e91; subst e93
      repeat' (first | ((first | refine WL.p rfl ?_ | refine WL.u ?_ | refine WL.g rfl rfl ?_ | refine WL.gu rfl ?_); first | (refine opk 1 rfl ?_; (refine ost_Sk H rfl (S2 _ _ _ _ H.sat (hT8.mono hle9) hb9) rfl ?_; clear H; rintro vk wk hfk Lk ⟨ao2, co2, at2, ct2, rfl, rfl⟩ hle H; simp only [List.cons_append, List.nil_append] at H)) | refine pvQ ?_ | (refine opk 3 rfl ?_; first | (refine ost_eqA rfl (by decide) rfl rfl tyQ tyQ (fun hc => ?_) (fun hc => ?_) <;> try exact prEQ) | (refine ost_neA rfl (by decide) rfl rfl tyQ tyQ (fun hc => ?_) (fun hc => ?_) <;> try exact prEQ) | (refine ost_cmp rfl rfl rfl rfl (fun hc => ?_) (fun hc => ?_) <;> (simp only [cmpP] at hc; try exact prIQ))) | (refine opk 4 rfl ?_; (refine ost_cmp rfl rfl rfl rfl (fun hc => ?_) (fun hc => ?_) <;> (simp only [cmpP] at hc; try exact prIQ))) | (refine opk 8 rfl ?_; (refine ost_storeW H rfl rfl rfl rfl lQ ixQ lQ okQ ?_; clear H; intro wk H; simp only [List.set_cons_zero, List.set_cons_succ, Nat.reduceAdd] at H)) | (refine opk 9 rfl ?_; first | (refine ost_allocA H rfl ?_; clear H; intro bk wk H) | (refine ost_build1 H rfl rfl rfl evQ lsQ rfl ?_; clear H; intro bk wk H))) | refine Wc.seq ?_ | refine then_n ?_ | refine WL.nil ?_ | refine Wc.region ?_ | refine Wc.block ?_ | refine then_r ?_ | refine then_e ?_ | refine inb_e rfl ?_ | refine inb_o rfl ?_ | refine inb_n ?_ | refine inb_r ?_ | refine Wc.skip ?_ | refine Wc.exit ?_ | refine Wc.ret ?_ | refine Wc.cond_true rfl ?_ | refine Wc.cond_false rfl ?_ | (refine Wc.drawn (id := 21) 23 (by kernel_rfl) ?_) | refine WL.skp rfl rfl ?_ | refine WL.sku rfl ?_ | (refine rgs_nil ?_; intro vs wk hE; replace H := H.ext hE; clear hE) | refine RGs.skp (fun _ => rfl) rfl ?_ | (refine RGs.bq (fun _ => rfl) rfl (by intro vs w hE hP; have H := H.ext hE; first | exact dbQ | fail) (fun hc => ?_) (fun hc => ?_) <;> ((try simp only [cmpP, decide_eq_true_eq, decide_eq_false_iff_not, dcd_iff, dcd_no] at hc); try exact prDQ)) | refine RGs.pq (fun _ => rfl) rfl (by intro vs w hE hP; have H := H.ext hE; first | exact dvQ | fail) ?_)
      (first | refine fn_ret1 (v := .bool _) rfl rfl ⟨?_, H.fr⟩ | refine fn_ret1 (v := .int _ _) rfl rfl ⟨?_, H.fr⟩ | refine fn_ret1 (v := .string _) rfl rfl ⟨?_, H.fr⟩); rfl
end Go.Tg
namespace Go.Proofs.YtajfhoeejeadkaaDoor
open Go.ChangeShapes Go.WideShapes Go.ChangeAt Go.RowKit Go.Tg
theorem segmentBack_lifted (os : Os) (started : os.Started) (H : Type) (enc : TypeId × Value → H) :
    ReturnsInHanded {} Tryd.checked os 11 .any (fun w args => (Rows.segmentBackSpec.pre enc Tryd.prog Tryd.f11 Rows.segmentBackRow.domain false w args ∧ laidMetH Tryd.prog Rows.segmentBackRow.laid w) ∧ sizedMet enc Tryd.prog Tryd.f11 (OpenSpec.ofChange Rows.segmentBackSpec) false w args) (Rows.segmentBackSpec.post enc Tryd.prog Tryd.f11 false true false false) := by
  refine returnsInHanded_of_change_and (C := Tryd.checked) (X := fun w _ => laidMetH Tryd.prog Rows.segmentBackRow.laid w) (fun _ _ _ hh h => h.of_heap hh) own_ started (by kernel_rfl) Tryd.func11
    (ChangeSpec.witness_shaped (enc := enc) (C := Tryd.checked) (os := os) (X := fun w _ => laidMetH Tryd.prog Rows.segmentBackRow.laid w) false (World.laidAll Tryd.prog os Rows.segmentBackRow.laid) #[.int .u32 0, .slice none 0 0, .int .u16 0] 8 (World.laidAll_os _ _ _)
      (World.shaped_of_ZipB (by kernel_rfl) (by kernel_rfl)) (by kernel_rfl) (by kernel_rfl) (by kernel_rfl)
      (by rw [MakeChecks.laidMetH_plain _ _ _ (by kernel_rfl)]; exact laidMet_laidAll _ (by kernel_rfl) (by kernel_rfl))) ?_
  intro W base args ds gs before hval0 hW hcnd _ hLd _
  have hval : ∀ (j : Nat) t v, Tryd.f11.params[j]? = some t → args[j]? = some v → Value.okWide Tryd.prog W .any base t v := hval0
  have hT : Half (full W) := half_of (by rfl) hLd
  have hW' := hW
  obtain ⟨p, q, hA0, -, -, -, -⟩ := hW'
  have hA : DataW.TrodAll enc Tryd.prog W 0 (fun _ => true) true Tryd.f11.params.toList args.toList ds p := hA0
  rw [Tryd.params11] at hA hval
  obtain ⟨v0, v1, v2, d0, d1, d2, p0, p1, p2, rfl, rfl, rfl, h0, h1, h2⟩ := trodAll_three hA
  obtain ⟨id, rfl⟩ := u32_ok (hval 0 _ v0 rfl rfl)
  obtain ⟨n, rfl, n1, n2⟩ := int_of_okV Tryd.underlying27 (hval 2 _ v2 rfl rfl)
  obtain ⟨lla, llc, ll, e1, llr⟩ := ops_of (Td.of h1)
  obtain rfl := val_of1 e1 (okWide_slice Tryd.underlying74 (hval 1 _ v1 rfl rfl))
  refine (law_SegmentBack id lla llc ll n n1 n2 W hT llr).mono fun e W' ⟨v, he, hv, hE⟩ => ⟨v, he, ?_⟩
  subst hv
  exact law_post rfl hW hE rfl (by kernel_rfl) Tryd.underlying4 laid_ (by kernel_rfl)
theorem segmentBack_said : Rows.SegmentBackSaid :=
  OpenClaim.holds_of_wide 11 Tryd.f11 rfl rfl rfl rfl rfl rfl rfl ⟨rfl, rfl, rfl, rfl, rfl⟩ rfl rfl rfl rfl rfl (by kernel_rfl) Tryd.func11 (by kernel_rfl)
    (of_decide_eq_true (by kernel_rfl)) (by unfold Func.isWrapper; first | (rw [if_pos (by decide +kernel)]; kernel_rfl) | (rw [if_neg (by decide +kernel)]; exact ⟨rfl, rfl⟩))
    (fun os started H enc _ => segmentBack_lifted os started H enc)
theorem segmentBack_holds : Rows.SegmentBackCardSaid :=
  Claim7.holds_tied_plain_at .later [] [.data] true (true, "9bdefd4ab56ad6846b860e456533c8c9234d832d0db0c11e5e7191fbced85786") false segmentBack_said (fun _ h => by cases h) (by kernel_rfl) (fun _ h => by cases h) segmentBack_row_tie rfl ⟨rfl, rfl⟩ (by kernel_rfl) rfl
    (fun f fn hf hfn => by
      obtain rfl : f = 11 := Option.some.inj ((show Tryd.prog.funcNamed "trug/truglaw12.SegmentBack" = some 11 by kernel_rfl).symm.trans hf) |>.symm
      obtain rfl : fn = Tryd.f11 := (Option.some.inj (Tryd.func11.symm.trans hfn)).symm
      exact ⟨by kernel_rfl, fun j t ht => by
        have hm : t ∈ Tryd.f11.params.toList := by simpa using Array.mem_of_getElem? ht
        have hall : (Tryd.f11.params.toList.all fun u => !Tryd.prog.wantsStandIn u) = true := by kernel_rfl
        exact (show Tryd.prog.wantsStandIn t = false by simpa using List.all_eq_true.1 hall t hm)⟩)
    (by kernel_rfl)
end Go.Proofs.YtajfhoeejeadkaaDoor

