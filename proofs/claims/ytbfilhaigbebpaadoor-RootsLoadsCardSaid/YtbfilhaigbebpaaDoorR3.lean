/- Contracts of Go functions that the laws reach: what each call answers and leaves in memory, for all arguments within the bounds that each theorem names. -/
import Derived.Test.YtbfilhaigbebpaaDoorInst
import Derived.Test.YtbfilhaigbebpaaDoorAuto
import Derived.Test.YtbfilhaigbebpaaDoorW7
import Derived.Test.YtbfilhaigbebpaaDoorQG
import Derived.Test.YtbfilhaigbebpaaDoorDrw
import Derived.Test.YtbfilhaigbebpaaDoorRng
set_option linter.unusedVariables false
set_option linter.unusedSimpArgs false
set_option maxRecDepth 100000
set_option maxHeartbeats 4000000
namespace Go.Tg
open Go Go.Proofs
noncomputable def riseL (l : List ItemT) : Bool := dcd (sortedK (l.map (·.key)))
theorem riseL_iff {l : List ItemT} : riseL l = true ↔ ∀ j (h : j + 1 < l.length), keyN (l[j]'(by omega)).key < keyN l[j + 1].key := by
  unfold riseL
  rw [dcd_iff]
  unfold sortedK
  constructor
  · intro h j hj
    have := h j (by simpa using hj)
    simpa using this
  · intro h j hj
    have := h j (by simpa using hj)
    simpa using this
theorem riseL_no {l : List ItemT} : riseL l = false ↔ ¬ ∀ j (h : j + 1 < l.length), keyN (l[j]'(by omega)).key < keyN l[j + 1].key := by
  rw [← riseL_iff]; simp
theorem ro_rise (h0 : FH) (w : World) (hs : Sat h0 w) (a : Option Addr) (c : Nat) (l : List ItemT) (hN : Sl h0 5 a c (l.map cItem)) : SpecV Tryd.prog 21 #[.slice a l.length c] w (.bool (riseL l)) := by
  have H := St.start hs
  have q1 := hN.lenM
  unfold SpecV
  refine calls_of Tryd.func21 rfl Tryd.ntmps21 (by simp) ?_
  repeat' (first | ((first | refine WL.p rfl ?_ | refine WL.u ?_); first | refine pvQ ?_ | (refine opk 3 rfl ?_; (refine ost_cmp rfl rfl rfl rfl (fun hc => ?_) (fun hc => ?_) <;> (simp only [cmpP] at hc; try exact prIQ))) | (refine opk 4 rfl ?_; (refine ost_cmp rfl rfl rfl rfl (fun hc => ?_) (fun hc => ?_) <;> (simp only [cmpP] at hc; try exact prIQ)))) | refine Wc.seq ?_ | refine then_n ?_ | refine WL.nil ?_ | refine Wc.region ?_ | refine Wc.block ?_ | refine then_r ?_ | refine then_e ?_ | refine inb_e rfl ?_ | refine inb_o rfl ?_ | refine inb_n ?_ | refine inb_r ?_ | refine Wc.skip ?_ | refine Wc.exit ?_ | refine Wc.ret ?_ | refine Wc.cond_true rfl ?_ | refine Wc.cond_false rfl ?_ | (refine Wc.drawn (id := 4) 11 (by kernel_rfl) ?_) | (refine rgs_nil ?_; intro vs wk hE; replace H := H.ext hE; clear hE) | (refine RGs.bq (fun _ => rfl) rfl (by intro vs w hE hP; have H := H.ext hE; first | exact dbQ | fail) (fun hc => ?_) (fun hc => ?_) <;> ((try simp only [cmpP, decide_eq_true_eq, decide_eq_false_iff_not, dcd_iff, dcd_no] at hc); try exact prDQ)) | refine RGs.pq (fun _ => rfl) rfl (by intro vs w hE hP; have H := H.ext hE; first | exact dvQ | fail) ?_)
  refine Wc.loopE (fun s0 m s w' => ∃ i : Nat, m = l.length + 1 - i ∧ 1 ≤ i ∧ i ≤ l.length + 1 ∧ Agree [2, 3, 4, 5, 6, 7, 8, 9, 10, 11, 12, 13, 14, 15, 16, 17, 18, 19, 20, 21, 22] s s0 ∧ s 3 = .int .i64 i ∧ (∀ j (h : j + 1 < l.length), j + 1 < i → keyN (l[j]'(by omega)).key < keyN l[j + 1].key) ∧
    St w [] h0 h0 [] w') l.length ⟨1, rfl, by omega, by omega, Agree.refl _ _, rfl, fun j h hj => absurd hj (by omega), H⟩ ?_
  clear H
  rintro m s w' ⟨i, rfl, h1, h2, hA, e1, hsrt, H⟩
  obtain ⟨j, rfl⟩ := hA.env1 e1
  clear hA e1
  by_cases hlt : i < l.length
  · obtain ⟨b, off, L9, T, fr, e1, eb, eg⟩ := hN.getM (by decide) (Nat.lt_of_le_of_lt (Nat.zero_le _) hlt)
    subst e1
    have g1 : (L9.drop (off + ((i : Int) - 1).toNat * 5 + 0)).take 3 = cKey l[i - 1].key := row_part (eg ((i : Int) - 1).toNat (i - 1) (by omega) (by omega)) (q := 0) (n := 3) (by omega)
    have g2 : (L9.drop (off + (i : Int).toNat * 5 + 0)).take 3 = cKey l[i].key := row_part (eg (i : Int).toNat i hlt (by omega)) (q := 0) (n := 3) (by omega)
    have hq : lessK l[i - 1].key l[i].key = true ↔ keyN l[i - 1].key < keyN l[i].key := by simp [lessK]
    have l1 := cKey_len l[i - 1].key
    have l2 := cKey_len l[i].key
    have hyes : lessK l[i - 1].key l[i].key = true → ∀ j (h : j + 1 < l.length), j + 1 < i + 1 → keyN (l[j]'(by omega)).key < keyN l[j + 1].key := fun hlq j h hj => by
      by_cases hji : j + 1 < i
      · exact hsrt j h hji
      · obtain rfl : j + 1 = i := by omega
        exact hq.1 hlq
    have hnot : lessK l[i - 1].key l[i].key = false → riseL l = false := fun hlq => riseL_no.2 fun h => by
      have h3 := h (i - 1) (by omega)
      have e9 : (l[i - 1 + 1]'(by omega)) = l[i] := by congr 1; omega
      rw [e9] at h3
      rw [hq.2 h3] at hlq; cases hlq
    clear hq hsrt
    generalize l[i - 1].key = k1 at *
    generalize l[i].key = k2 at *
    cases hlq : lessK k1 k2 with
    | true =>
      have c1 : ∀ w, SpecV Tryd.prog 43 #[.agg (cKey k1).toArray, .agg (cKey k2).toArray] w (.bool true) := fun w => by
        have := page_Less k1 k2 w; rw [hlq] at this; exact this
      repeat' (first | ((first | refine WL.p rfl ?_ | refine WL.u ?_); first | (refine opk 1 rfl ?_; (refine ost_V H rfl (c1 _) rfl ?_; clear H; intro wk H)) | refine pvQ ?_ | (refine opk 3 rfl ?_; (refine ost_cmp rfl rfl rfl rfl (fun hc => ?_) (fun hc => ?_) <;> (simp only [cmpP] at hc; try exact prIQ))) | (refine opk 4 rfl ?_; (refine ost_cmp rfl rfl rfl rfl (fun hc => ?_) (fun hc => ?_) <;> (simp only [cmpP] at hc; try exact prIQ)))) | refine Wc.seq ?_ | refine then_n ?_ | refine WL.nil ?_ | refine Wc.region ?_ | refine Wc.block ?_ | refine then_r ?_ | refine then_e ?_ | refine inb_e rfl ?_ | refine inb_o rfl ?_ | refine inb_n ?_ | refine inb_r ?_ | refine Wc.skip ?_ | refine Wc.exit ?_ | refine Wc.ret ?_ | refine Wc.cond_true rfl ?_ | refine Wc.cond_false rfl ?_ | (refine Wc.drawn (id := 4) 11 (by kernel_rfl) ?_) | (refine rgs_nil ?_; intro vs wk hE; replace H := H.ext hE; clear hE) | (refine RGs.bq (fun _ => rfl) rfl (by intro vs w hE hP; have H := H.ext hE; first | exact dbQ | fail) (fun hc => ?_) (fun hc => ?_) <;> ((try simp only [cmpP, decide_eq_true_eq, decide_eq_false_iff_not, dcd_iff, dcd_no] at hc); try exact prDQ)) | refine RGs.pq (fun _ => rfl) rfl (by intro vs w hE hP; have H := H.ext hE; first | (refine opk 1 rfl ?_; (exact ost_V0d rfl (c1 _) rfl)) | exact dvQ | fail) ?_)
      exact ⟨l.length + 1 - (i + 1), by omega, i + 1, rfl, by omega, by omega, by (repeat' (first | exact Agree.refl _ _ | exact Agree.havoc | refine Agree.upd rfl ?_ | refine Agree.hav2 rfl ?_)), rfl, hyes hlq, H⟩
    | false =>
      have c1 : ∀ w, SpecV Tryd.prog 43 #[.agg (cKey k1).toArray, .agg (cKey k2).toArray] w (.bool false) := fun w => by
        have := page_Less k1 k2 w; rw [hlq] at this; exact this
      repeat' (first | ((first | refine WL.p rfl ?_ | refine WL.u ?_); first | (refine opk 1 rfl ?_; (refine ost_V H rfl (c1 _) rfl ?_; clear H; intro wk H)) | refine pvQ ?_ | (refine opk 3 rfl ?_; (refine ost_cmp rfl rfl rfl rfl (fun hc => ?_) (fun hc => ?_) <;> (simp only [cmpP] at hc; try exact prIQ))) | (refine opk 4 rfl ?_; (refine ost_cmp rfl rfl rfl rfl (fun hc => ?_) (fun hc => ?_) <;> (simp only [cmpP] at hc; try exact prIQ)))) | refine Wc.seq ?_ | refine then_n ?_ | refine WL.nil ?_ | refine Wc.region ?_ | refine Wc.block ?_ | refine then_r ?_ | refine then_e ?_ | refine inb_e rfl ?_ | refine inb_o rfl ?_ | refine inb_n ?_ | refine inb_r ?_ | refine Wc.skip ?_ | refine Wc.exit ?_ | refine Wc.ret ?_ | refine Wc.cond_true rfl ?_ | refine Wc.cond_false rfl ?_ | (refine Wc.drawn (id := 4) 11 (by kernel_rfl) ?_) | (refine rgs_nil ?_; intro vs wk hE; replace H := H.ext hE; clear hE) | (refine RGs.bq (fun _ => rfl) rfl (by intro vs w hE hP; have H := H.ext hE; first | exact dbQ | fail) (fun hc => ?_) (fun hc => ?_) <;> ((try simp only [cmpP, decide_eq_true_eq, decide_eq_false_iff_not, dcd_iff, dcd_no] at hc); try exact prDQ)) | refine RGs.pq (fun _ => rfl) rfl (by intro vs w hE hP; have H := H.ext hE; first | (refine opk 1 rfl ?_; (exact ost_V0d rfl (c1 _) rfl)) | exact dvQ | fail) ?_)
      (first | refine fn_ret1 (v := .bool _) rfl rfl ⟨?_, H.fr⟩ | refine fn_ret1 (v := .int _ _) rfl rfl ⟨?_, H.fr⟩ | refine fn_ret1 (v := .string _) rfl rfl ⟨?_, H.fr⟩); congr 1; exact (hnot hlq).symm
  · repeat' (first | ((first | refine WL.p rfl ?_ | refine WL.u ?_); first | refine pvQ ?_ | (refine opk 3 rfl ?_; (refine ost_cmp rfl rfl rfl rfl (fun hc => ?_) (fun hc => ?_) <;> (simp only [cmpP] at hc; try exact prIQ))) | (refine opk 4 rfl ?_; (refine ost_cmp rfl rfl rfl rfl (fun hc => ?_) (fun hc => ?_) <;> (simp only [cmpP] at hc; try exact prIQ)))) | refine Wc.seq ?_ | refine then_n ?_ | refine WL.nil ?_ | refine Wc.region ?_ | refine Wc.block ?_ | refine then_r ?_ | refine then_e ?_ | refine inb_e rfl ?_ | refine inb_o rfl ?_ | refine inb_n ?_ | refine inb_r ?_ | refine Wc.skip ?_ | refine Wc.exit ?_ | refine Wc.ret ?_ | refine Wc.cond_true rfl ?_ | refine Wc.cond_false rfl ?_ | (refine Wc.drawn (id := 4) 11 (by kernel_rfl) ?_) | (refine rgs_nil ?_; intro vs wk hE; replace H := H.ext hE; clear hE) | (refine RGs.bq (fun _ => rfl) rfl (by intro vs w hE hP; have H := H.ext hE; first | exact dbQ | fail) (fun hc => ?_) (fun hc => ?_) <;> ((try simp only [cmpP, decide_eq_true_eq, decide_eq_false_iff_not, dcd_iff, dcd_no] at hc); try exact prDQ)) | refine RGs.pq (fun _ => rfl) rfl (by intro vs w hE hP; have H := H.ext hE; first | exact dvQ | fail) ?_)
    (first | refine fn_ret1 (v := .bool _) rfl rfl ⟨?_, H.fr⟩ | refine fn_ret1 (v := .int _ _) rfl rfl ⟨?_, H.fr⟩ | refine fn_ret1 (v := .string _) rfl rfl ⟨?_, H.fr⟩); congr 1; exact (riseL_iff.2 fun j h => hsrt j h (by omega)).symm
theorem r15_rise (h0 : FH) (w : World) (hs : Sat h0 w) (a : Option Addr) (c : Nat) (l : List ItemT) (hN : Sl h0 5 a c (l.map cItem)) : SpecV Tryd.prog 24 #[.slice a l.length c] w (.bool (riseL l)) := by
  have H := St.start hs
  have q1 := hN.lenM
  unfold SpecV
  refine calls_of Tryd.func24 rfl Tryd.ntmps24 (by simp) ?_
  repeat' (first | ((first | refine WL.p rfl ?_ | refine WL.u ?_); first | refine pvQ ?_ | (refine opk 3 rfl ?_; (refine ost_cmp rfl rfl rfl rfl (fun hc => ?_) (fun hc => ?_) <;> (simp only [cmpP] at hc; try exact prIQ))) | (refine opk 4 rfl ?_; (refine ost_cmp rfl rfl rfl rfl (fun hc => ?_) (fun hc => ?_) <;> (simp only [cmpP] at hc; try exact prIQ)))) | refine Wc.seq ?_ | refine then_n ?_ | refine WL.nil ?_ | refine Wc.region ?_ | refine Wc.block ?_ | refine then_r ?_ | refine then_e ?_ | refine inb_e rfl ?_ | refine inb_o rfl ?_ | refine inb_n ?_ | refine inb_r ?_ | refine Wc.skip ?_ | refine Wc.exit ?_ | refine Wc.ret ?_ | refine Wc.cond_true rfl ?_ | refine Wc.cond_false rfl ?_ | (refine Wc.drawn (id := 4) 11 (by kernel_rfl) ?_) | (refine rgs_nil ?_; intro vs wk hE; replace H := H.ext hE; clear hE) | (refine RGs.bq (fun _ => rfl) rfl (by intro vs w hE hP; have H := H.ext hE; first | exact dbQ | fail) (fun hc => ?_) (fun hc => ?_) <;> ((try simp only [cmpP, decide_eq_true_eq, decide_eq_false_iff_not, dcd_iff, dcd_no] at hc); try exact prDQ)) | refine RGs.pq (fun _ => rfl) rfl (by intro vs w hE hP; have H := H.ext hE; first | exact dvQ | fail) ?_)
  refine Wc.loopE (fun s0 m s w' => ∃ i : Nat, m = l.length + 1 - i ∧ 1 ≤ i ∧ i ≤ l.length + 1 ∧ Agree [2, 3, 4, 5, 6, 7, 8, 9, 10, 11, 12, 13, 14, 15, 16, 17, 18, 19, 20, 21, 22] s s0 ∧ s 3 = .int .i64 i ∧ (∀ j (h : j + 1 < l.length), j + 1 < i → keyN (l[j]'(by omega)).key < keyN l[j + 1].key) ∧
    St w [] h0 h0 [] w') l.length ⟨1, rfl, by omega, by omega, Agree.refl _ _, rfl, fun j h hj => absurd hj (by omega), H⟩ ?_
  clear H
  rintro m s w' ⟨i, rfl, h1, h2, hA, e1, hsrt, H⟩
  obtain ⟨j, rfl⟩ := hA.env1 e1
  clear hA e1
  by_cases hlt : i < l.length
  · obtain ⟨b, off, L9, T, fr, e1, eb, eg⟩ := hN.getM (by decide) (Nat.lt_of_le_of_lt (Nat.zero_le _) hlt)
    subst e1
    have g1 : (L9.drop (off + ((i : Int) - 1).toNat * 5 + 0)).take 3 = cKey l[i - 1].key := row_part (eg ((i : Int) - 1).toNat (i - 1) (by omega) (by omega)) (q := 0) (n := 3) (by omega)
    have g2 : (L9.drop (off + (i : Int).toNat * 5 + 0)).take 3 = cKey l[i].key := row_part (eg (i : Int).toNat i hlt (by omega)) (q := 0) (n := 3) (by omega)
    have hq : lessK l[i - 1].key l[i].key = true ↔ keyN l[i - 1].key < keyN l[i].key := by simp [lessK]
    have l1 := cKey_len l[i - 1].key
    have l2 := cKey_len l[i].key
    have hyes : lessK l[i - 1].key l[i].key = true → ∀ j (h : j + 1 < l.length), j + 1 < i + 1 → keyN (l[j]'(by omega)).key < keyN l[j + 1].key := fun hlq j h hj => by
      by_cases hji : j + 1 < i
      · exact hsrt j h hji
      · obtain rfl : j + 1 = i := by omega
        exact hq.1 hlq
    have hnot : lessK l[i - 1].key l[i].key = false → riseL l = false := fun hlq => riseL_no.2 fun h => by
      have h3 := h (i - 1) (by omega)
      have e9 : (l[i - 1 + 1]'(by omega)) = l[i] := by congr 1; omega
      rw [e9] at h3
      rw [hq.2 h3] at hlq; cases hlq
    clear hq hsrt
    generalize l[i - 1].key = k1 at *
    generalize l[i].key = k2 at *
    cases hlq : lessK k1 k2 with
    | true =>
      have c1 : ∀ w, SpecV Tryd.prog 47 #[.agg (cKey k1).toArray, .agg (cKey k2).toArray] w (.bool true) := fun w => by
        have := r13_Less k1 k2 w; rw [hlq] at this; exact this
      repeat' (first | ((first | refine WL.p rfl ?_ | refine WL.u ?_); first | (refine opk 1 rfl ?_; (refine ost_V H rfl (c1 _) rfl ?_; clear H; intro wk H)) | refine pvQ ?_ | (refine opk 3 rfl ?_; (refine ost_cmp rfl rfl rfl rfl (fun hc => ?_) (fun hc => ?_) <;> (simp only [cmpP] at hc; try exact prIQ))) | (refine opk 4 rfl ?_; (refine ost_cmp rfl rfl rfl rfl (fun hc => ?_) (fun hc => ?_) <;> (simp only [cmpP] at hc; try exact prIQ)))) | refine Wc.seq ?_ | refine then_n ?_ | refine WL.nil ?_ | refine Wc.region ?_ | refine Wc.block ?_ | refine then_r ?_ | refine then_e ?_ | refine inb_e rfl ?_ | refine inb_o rfl ?_ | refine inb_n ?_ | refine inb_r ?_ | refine Wc.skip ?_ | refine Wc.exit ?_ | refine Wc.ret ?_ | refine Wc.cond_true rfl ?_ | refine Wc.cond_false rfl ?_ | (refine Wc.drawn (id := 4) 11 (by kernel_rfl) ?_) | (refine rgs_nil ?_; intro vs wk hE; replace H := H.ext hE; clear hE) | (refine RGs.bq (fun _ => rfl) rfl (by intro vs w hE hP; have H := H.ext hE; first | exact dbQ | fail) (fun hc => ?_) (fun hc => ?_) <;> ((try simp only [cmpP, decide_eq_true_eq, decide_eq_false_iff_not, dcd_iff, dcd_no] at hc); try exact prDQ)) | refine RGs.pq (fun _ => rfl) rfl (by intro vs w hE hP; have H := H.ext hE; first | (refine opk 1 rfl ?_; (exact ost_V0d rfl (c1 _) rfl)) | exact dvQ | fail) ?_)
      exact ⟨l.length + 1 - (i + 1), by omega, i + 1, rfl, by omega, by omega, by (repeat' (first | exact Agree.refl _ _ | exact Agree.havoc | refine Agree.upd rfl ?_ | refine Agree.hav2 rfl ?_)), rfl, hyes hlq, H⟩
    | false =>
      have c1 : ∀ w, SpecV Tryd.prog 47 #[.agg (cKey k1).toArray, .agg (cKey k2).toArray] w (.bool false) := fun w => by
        have := r13_Less k1 k2 w; rw [hlq] at this; exact this
      repeat' (first | ((first | refine WL.p rfl ?_ | refine WL.u ?_); first | (refine opk 1 rfl ?_; (refine ost_V H rfl (c1 _) rfl ?_; clear H; intro wk H)) | refine pvQ ?_ | (refine opk 3 rfl ?_; (refine ost_cmp rfl rfl rfl rfl (fun hc => ?_) (fun hc => ?_) <;> (simp only [cmpP] at hc; try exact prIQ))) | (refine opk 4 rfl ?_; (refine ost_cmp rfl rfl rfl rfl (fun hc => ?_) (fun hc => ?_) <;> (simp only [cmpP] at hc; try exact prIQ)))) | refine Wc.seq ?_ | refine then_n ?_ | refine WL.nil ?_ | refine Wc.region ?_ | refine Wc.block ?_ | refine then_r ?_ | refine then_e ?_ | refine inb_e rfl ?_ | refine inb_o rfl ?_ | refine inb_n ?_ | refine inb_r ?_ | refine Wc.skip ?_ | refine Wc.exit ?_ | refine Wc.ret ?_ | refine Wc.cond_true rfl ?_ | refine Wc.cond_false rfl ?_ | (refine Wc.drawn (id := 4) 11 (by kernel_rfl) ?_) | (refine rgs_nil ?_; intro vs wk hE; replace H := H.ext hE; clear hE) | (refine RGs.bq (fun _ => rfl) rfl (by intro vs w hE hP; have H := H.ext hE; first | exact dbQ | fail) (fun hc => ?_) (fun hc => ?_) <;> ((try simp only [cmpP, decide_eq_true_eq, decide_eq_false_iff_not, dcd_iff, dcd_no] at hc); try exact prDQ)) | refine RGs.pq (fun _ => rfl) rfl (by intro vs w hE hP; have H := H.ext hE; first | (refine opk 1 rfl ?_; (exact ost_V0d rfl (c1 _) rfl)) | exact dvQ | fail) ?_)
      (first | refine fn_ret1 (v := .bool _) rfl rfl ⟨?_, H.fr⟩ | refine fn_ret1 (v := .int _ _) rfl rfl ⟨?_, H.fr⟩ | refine fn_ret1 (v := .string _) rfl rfl ⟨?_, H.fr⟩); congr 1; exact (hnot hlq).symm
  · repeat' (first | ((first | refine WL.p rfl ?_ | refine WL.u ?_); first | refine pvQ ?_ | (refine opk 3 rfl ?_; (refine ost_cmp rfl rfl rfl rfl (fun hc => ?_) (fun hc => ?_) <;> (simp only [cmpP] at hc; try exact prIQ))) | (refine opk 4 rfl ?_; (refine ost_cmp rfl rfl rfl rfl (fun hc => ?_) (fun hc => ?_) <;> (simp only [cmpP] at hc; try exact prIQ)))) | refine Wc.seq ?_ | refine then_n ?_ | refine WL.nil ?_ | refine Wc.region ?_ | refine Wc.block ?_ | refine then_r ?_ | refine then_e ?_ | refine inb_e rfl ?_ | refine inb_o rfl ?_ | refine inb_n ?_ | refine inb_r ?_ | refine Wc.skip ?_ | refine Wc.exit ?_ | refine Wc.ret ?_ | refine Wc.cond_true rfl ?_ | refine Wc.cond_false rfl ?_ | (refine Wc.drawn (id := 4) 11 (by kernel_rfl) ?_) | (refine rgs_nil ?_; intro vs wk hE; replace H := H.ext hE; clear hE) | (refine RGs.bq (fun _ => rfl) rfl (by intro vs w hE hP; have H := H.ext hE; first | exact dbQ | fail) (fun hc => ?_) (fun hc => ?_) <;> ((try simp only [cmpP, decide_eq_true_eq, decide_eq_false_iff_not, dcd_iff, dcd_no] at hc); try exact prDQ)) | refine RGs.pq (fun _ => rfl) rfl (by intro vs w hE hP; have H := H.ext hE; first | exact dvQ | fail) ?_)
    (first | refine fn_ret1 (v := .bool _) rfl rfl ⟨?_, H.fr⟩ | refine fn_ret1 (v := .int _ _) rfl rfl ⟨?_, H.fr⟩ | refine fn_ret1 (v := .string _) rfl rfl ⟨?_, H.fr⟩); congr 1; exact (riseL_iff.2 fun j h => hsrt j h (by omega)).symm
noncomputable def sameI (l m : List ItemT) : Bool := dcd (l = m)
end Go.Tg

set_option linter.unusedVariables false
set_option linter.unusedSimpArgs false
set_option maxRecDepth 100000
set_option maxHeartbeats 4000000
namespace Go.Tg
open Go Go.Proofs
theorem law15_same (h0 : FH) (w : World) (hs : Sat h0 w) (a : Option Addr) (c : Nat) (l : List ItemT) (hN : Sl h0 5 a c (l.map cItem)) (a' : Option Addr) (c' : Nat) (l' : List ItemT) (hN' : Sl h0 5 a' c' (l'.map cItem)) :
    SpecV Tryd.prog 15 #[.slice a l.length c, .slice a' l'.length c'] w (.bool (sameI l l')) := by
  have H := St.start hs
  have q1 := hN.lenM
  have q2 := hN'.lenM
  unfold SpecV
  refine calls_of Tryd.func15 rfl Tryd.ntmps15 (by simp) ?_
  by_cases hlen : l.length = l'.length
  · repeat' (first | ((first | refine WL.p rfl ?_ | refine WL.u ?_ | refine WL.g rfl rfl ?_ | refine WL.gu rfl ?_); first | refine pvQ ?_ | (refine opk 3 rfl ?_; first | (refine ost_eqA rfl (by decide) rfl rfl tyQ tyQ (fun hc => ?_) (fun hc => ?_) <;> try exact prEQ) | (refine ost_neA rfl (by decide) rfl rfl tyQ tyQ (fun hc => ?_) (fun hc => ?_) <;> try exact prEQ) | (refine ost_cmp rfl rfl rfl rfl (fun hc => ?_) (fun hc => ?_) <;> (simp only [cmpP] at hc; try exact prIQ))) | (refine opk 4 rfl ?_; (refine ost_cmp rfl rfl rfl rfl (fun hc => ?_) (fun hc => ?_) <;> (simp only [cmpP] at hc; try exact prIQ))) | (refine opk 8 rfl ?_; (refine ost_storeW H rfl rfl rfl rfl lQ ixQ lQ okQ ?_; clear H; intro wk H; simp only [List.set_cons_zero, List.set_cons_succ, Nat.reduceAdd] at H)) | (refine opk 9 rfl ?_; (refine ost_allocA H rfl ?_; clear H; intro bk wk H))) | refine Wc.seq ?_ | refine then_n ?_ | refine WL.nil ?_ | refine Wc.region ?_ | refine Wc.block ?_ | refine then_r ?_ | refine then_e ?_ | refine inb_e rfl ?_ | refine inb_o rfl ?_ | refine inb_n ?_ | refine inb_r ?_ | refine Wc.skip ?_ | refine Wc.exit ?_ | refine Wc.ret ?_ | refine Wc.cond_true rfl ?_ | refine Wc.cond_false rfl ?_ | (refine Wc.drawn (id := 6) 16 (by kernel_rfl) ?_) | refine WL.skp rfl rfl ?_ | refine WL.sku rfl ?_ | (refine rgs_nil ?_; intro vs wk hE; replace H := H.ext hE; clear hE) | refine RGs.skp (fun _ => rfl) rfl ?_ | (refine RGs.bq (fun _ => rfl) rfl (by intro vs w hE hP; have H := H.ext hE; first | exact dbQ | fail) (fun hc => ?_) (fun hc => ?_) <;> ((try simp only [cmpP, decide_eq_true_eq, decide_eq_false_iff_not, dcd_iff, dcd_no] at hc); try exact prDQ)) | refine RGs.pq (fun _ => rfl) rfl (by intro vs w hE hP; have H := H.ext hE; first | exact dvQ | fail) ?_)
    have H : ∃ L, St w [] h0 h0 L w := ⟨_, H⟩
    obtain ⟨L0, H⟩ := H
    refine Wc.loopE (fun s0 m s w' => ∃ (i : Nat), m = l.length - i ∧ i ≤ l.length ∧ Agree [4, 5, 6, 14, 15, 16, 17, 18, 19, 20, 21, 22, 23, 24, 25, 26, 27, 28, 29, 30, 31, 32, 33, 34, 35, 36, 37] s s0 ∧ s 14 = .int .i64 i ∧ (∀ j (h1 : j < l.length) (h2 : j < l'.length), j < i → l[j] = l'[j]) ∧
      St w [] h0 h0 [] w') l.length ⟨0, rfl, by omega, Agree.refl _ _, rfl, fun j _ _ h => absurd h (by omega), St.start hs⟩ ?_
    clear H
    rintro m s w' ⟨i, rfl, hi, hA, e1, hsame0, H⟩
    obtain ⟨j, rfl⟩ := hA.env1 e1
    clear hA e1
    by_cases hlt : i < l.length
    · have hlt' : i < l'.length := by omega
      obtain ⟨b, off, L9, T, fr, e1, eb, eg⟩ := hN.getM (by decide) (Nat.lt_of_le_of_lt (Nat.zero_le _) hlt)
      subst e1
      have g1 := eg (i : Int).toNat i hlt (by omega)
      obtain ⟨b', off', L9', T', fr', e1, eb', eg'⟩ := hN'.getM (by decide) (Nat.lt_of_le_of_lt (Nat.zero_le _) hlt')
      subst e1
      have g2 : (L9'.drop (off' + (i : Int).toNat * 5 + 0)).take 3 = cKey l'[i].key := row_part (eg' (i : Int).toNat i hlt' (by omega)) (q := 0) (n := 3) (by omega)
      have g3 : (L9'.drop (off' + (i : Int).toNat * 5 + 3)).take 2 = cLoc l'[i].loc := row_part (eg' (i : Int).toNat i hlt' (by omega)) (q := 3) (n := 2) (by omega)
      have hall : l[i] = l'[i] → ∀ j (h1 : j < l.length) (h2 : j < l'.length), j < i + 1 → l[j] = l'[j] := fun hxy j h1 h2 h3 => by
        by_cases e : j = i
        · subst e; exact hxy
        · exact hsame0 j h1 h2 (by omega)
      have hnone : l[i] ≠ l'[i] → sameI l l' = false := fun hxy => dcd_no.2 fun e => hxy (by simp only [e])
      clear eg eg' hsame0
      obtain ⟨x, hx⟩ : ∃ x, x = l[i] := ⟨_, rfl⟩
      obtain ⟨y, hy⟩ : ∃ y, y = l'[i] := ⟨_, rfl⟩
      rw [← hx] at g1 hall hnone
      rw [← hy] at g2 g3 hall hnone
      clear hx hy
      have l0 := cItem_len x
      have k1 := cItem_key x
      have k2 := cItem_loc x
      have l1 := cKey_len x.key
      have l2 := cLoc_len x.loc
      have t1 := typed_cKey x.key
      have t2 := typed_cLoc x.loc
      have l3 := cKey_len y.key
      have l4 := cLoc_len y.loc
      have t3 := typed_cKey y.key
      have t4 := typed_cLoc y.loc
      by_cases hk : x.key = y.key
      · by_cases hl : x.loc = y.loc
        · have hk9 := cKey_inj.2 hk
          have hl9 := cLoc_inj.2 hl
          have hxy : x = y := by cases x; cases y; simp_all
          repeat' (first | ((first | refine WL.p rfl ?_ | refine WL.u ?_ | refine WL.g rfl rfl ?_ | refine WL.gu rfl ?_); first | refine pvQ ?_ | (refine opk 3 rfl ?_; first | (refine ost_eqA rfl (by decide) rfl rfl tyQ tyQ (fun hc => ?_) (fun hc => ?_) <;> try exact prEQ) | (refine ost_neA rfl (by decide) rfl rfl tyQ tyQ (fun hc => ?_) (fun hc => ?_) <;> try exact prEQ) | (refine ost_cmp rfl rfl rfl rfl (fun hc => ?_) (fun hc => ?_) <;> (simp only [cmpP] at hc; try exact prIQ))) | (refine opk 4 rfl ?_; (refine ost_cmp rfl rfl rfl rfl (fun hc => ?_) (fun hc => ?_) <;> (simp only [cmpP] at hc; try exact prIQ))) | (refine opk 8 rfl ?_; (refine ost_storeW H rfl rfl rfl rfl lQ ixQ lQ okQ ?_; clear H; intro wk H; simp only [List.set_cons_zero, List.set_cons_succ, Nat.reduceAdd] at H)) | (refine opk 9 rfl ?_; (refine ost_allocA H rfl ?_; clear H; intro bk wk H))) | refine Wc.seq ?_ | refine then_n ?_ | refine WL.nil ?_ | refine Wc.region ?_ | refine Wc.block ?_ | refine then_r ?_ | refine then_e ?_ | refine inb_e rfl ?_ | refine inb_o rfl ?_ | refine inb_n ?_ | refine inb_r ?_ | refine Wc.skip ?_ | refine Wc.exit ?_ | refine Wc.ret ?_ | refine Wc.cond_true rfl ?_ | refine Wc.cond_false rfl ?_ | (refine Wc.drawn (id := 6) 16 (by kernel_rfl) ?_) | refine WL.skp rfl rfl ?_ | refine WL.sku rfl ?_ | (refine rgs_nil ?_; intro vs wk hE; replace H := H.ext hE; clear hE) | refine RGs.skp (fun _ => rfl) rfl ?_ | (refine RGs.bq (fun _ => rfl) rfl (by intro vs w hE hP; have H := H.ext hE; first | exact dbQ | fail) (fun hc => ?_) (fun hc => ?_) <;> ((try simp only [cmpP, decide_eq_true_eq, decide_eq_false_iff_not, dcd_iff, dcd_no] at hc); try exact prDQ)) | refine RGs.pq (fun _ => rfl) rfl (by intro vs w hE hP; have H := H.ext hE; first | exact dvQ | fail) ?_)
          all_goals exact ⟨l.length - (i + 1), by omega, i + 1, rfl, by omega, by (repeat' (first | exact Agree.refl _ _ | exact Agree.havoc | refine Agree.upd rfl ?_ | refine Agree.hav2 rfl ?_)), rfl, hall hxy, H.picks [] rfl (by decide)⟩
        · have hk9 := cKey_inj.2 hk
          have hl9 : ¬ cLoc x.loc = cLoc y.loc := fun h => hl (cLoc_inj.1 h)
          have hxy := hnone fun e => hl (by rw [e])
          repeat' (first | ((first | refine WL.p rfl ?_ | refine WL.u ?_ | refine WL.g rfl rfl ?_ | refine WL.gu rfl ?_); first | refine pvQ ?_ | (refine opk 3 rfl ?_; first | (refine ost_eqA rfl (by decide) rfl rfl tyQ tyQ (fun hc => ?_) (fun hc => ?_) <;> try exact prEQ) | (refine ost_neA rfl (by decide) rfl rfl tyQ tyQ (fun hc => ?_) (fun hc => ?_) <;> try exact prEQ) | (refine ost_cmp rfl rfl rfl rfl (fun hc => ?_) (fun hc => ?_) <;> (simp only [cmpP] at hc; try exact prIQ))) | (refine opk 4 rfl ?_; (refine ost_cmp rfl rfl rfl rfl (fun hc => ?_) (fun hc => ?_) <;> (simp only [cmpP] at hc; try exact prIQ))) | (refine opk 8 rfl ?_; (refine ost_storeW H rfl rfl rfl rfl lQ ixQ lQ okQ ?_; clear H; intro wk H; simp only [List.set_cons_zero, List.set_cons_succ, Nat.reduceAdd] at H)) | (refine opk 9 rfl ?_; (refine ost_allocA H rfl ?_; clear H; intro bk wk H))) | refine Wc.seq ?_ | refine then_n ?_ | refine WL.nil ?_ | refine Wc.region ?_ | refine Wc.block ?_ | refine then_r ?_ | refine then_e ?_ | refine inb_e rfl ?_ | refine inb_o rfl ?_ | refine inb_n ?_ | refine inb_r ?_ | refine Wc.skip ?_ | refine Wc.exit ?_ | refine Wc.ret ?_ | refine Wc.cond_true rfl ?_ | refine Wc.cond_false rfl ?_ | (refine Wc.drawn (id := 6) 16 (by kernel_rfl) ?_) | refine WL.skp rfl rfl ?_ | refine WL.sku rfl ?_ | (refine rgs_nil ?_; intro vs wk hE; replace H := H.ext hE; clear hE) | refine RGs.skp (fun _ => rfl) rfl ?_ | (refine RGs.bq (fun _ => rfl) rfl (by intro vs w hE hP; have H := H.ext hE; first | exact dbQ | fail) (fun hc => ?_) (fun hc => ?_) <;> ((try simp only [cmpP, decide_eq_true_eq, decide_eq_false_iff_not, dcd_iff, dcd_no] at hc); try exact prDQ)) | refine RGs.pq (fun _ => rfl) rfl (by intro vs w hE hP; have H := H.ext hE; first | exact dvQ | fail) ?_)
          all_goals ((first | refine fn_ret1 (v := .bool _) rfl rfl ⟨?_, H.fr⟩ | refine fn_ret1 (v := .int _ _) rfl rfl ⟨?_, H.fr⟩ | refine fn_ret1 (v := .string _) rfl rfl ⟨?_, H.fr⟩); congr 1; exact hxy.symm)
      · have hk9 : ¬ cKey x.key = cKey y.key := fun h => hk (cKey_inj.1 h)
        have hxy := hnone fun e => hk (by rw [e])
        repeat' (first | ((first | refine WL.p rfl ?_ | refine WL.u ?_ | refine WL.g rfl rfl ?_ | refine WL.gu rfl ?_); first | refine pvQ ?_ | (refine opk 3 rfl ?_; first | (refine ost_eqA rfl (by decide) rfl rfl tyQ tyQ (fun hc => ?_) (fun hc => ?_) <;> try exact prEQ) | (refine ost_neA rfl (by decide) rfl rfl tyQ tyQ (fun hc => ?_) (fun hc => ?_) <;> try exact prEQ) | (refine ost_cmp rfl rfl rfl rfl (fun hc => ?_) (fun hc => ?_) <;> (simp only [cmpP] at hc; try exact prIQ))) | (refine opk 4 rfl ?_; (refine ost_cmp rfl rfl rfl rfl (fun hc => ?_) (fun hc => ?_) <;> (simp only [cmpP] at hc; try exact prIQ))) | (refine opk 8 rfl ?_; (refine ost_storeW H rfl rfl rfl rfl lQ ixQ lQ okQ ?_; clear H; intro wk H; simp only [List.set_cons_zero, List.set_cons_succ, Nat.reduceAdd] at H)) | (refine opk 9 rfl ?_; (refine ost_allocA H rfl ?_; clear H; intro bk wk H))) | refine Wc.seq ?_ | refine then_n ?_ | refine WL.nil ?_ | refine Wc.region ?_ | refine Wc.block ?_ | refine then_r ?_ | refine then_e ?_ | refine inb_e rfl ?_ | refine inb_o rfl ?_ | refine inb_n ?_ | refine inb_r ?_ | refine Wc.skip ?_ | refine Wc.exit ?_ | refine Wc.ret ?_ | refine Wc.cond_true rfl ?_ | refine Wc.cond_false rfl ?_ | (refine Wc.drawn (id := 6) 16 (by kernel_rfl) ?_) | refine WL.skp rfl rfl ?_ | refine WL.sku rfl ?_ | (refine rgs_nil ?_; intro vs wk hE; replace H := H.ext hE; clear hE) | refine RGs.skp (fun _ => rfl) rfl ?_ | (refine RGs.bq (fun _ => rfl) rfl (by intro vs w hE hP; have H := H.ext hE; first | exact dbQ | fail) (fun hc => ?_) (fun hc => ?_) <;> ((try simp only [cmpP, decide_eq_true_eq, decide_eq_false_iff_not, dcd_iff, dcd_no] at hc); try exact prDQ)) | refine RGs.pq (fun _ => rfl) rfl (by intro vs w hE hP; have H := H.ext hE; first | exact dvQ | fail) ?_)
        all_goals ((first | refine fn_ret1 (v := .bool _) rfl rfl ⟨?_, H.fr⟩ | refine fn_ret1 (v := .int _ _) rfl rfl ⟨?_, H.fr⟩ | refine fn_ret1 (v := .string _) rfl rfl ⟨?_, H.fr⟩); congr 1; exact hxy.symm)
    · repeat' (first | ((first | refine WL.p rfl ?_ | refine WL.u ?_ | refine WL.g rfl rfl ?_ | refine WL.gu rfl ?_); first | refine pvQ ?_ | (refine opk 3 rfl ?_; first | (refine ost_eqA rfl (by decide) rfl rfl tyQ tyQ (fun hc => ?_) (fun hc => ?_) <;> try exact prEQ) | (refine ost_neA rfl (by decide) rfl rfl tyQ tyQ (fun hc => ?_) (fun hc => ?_) <;> try exact prEQ) | (refine ost_cmp rfl rfl rfl rfl (fun hc => ?_) (fun hc => ?_) <;> (simp only [cmpP] at hc; try exact prIQ))) | (refine opk 4 rfl ?_; (refine ost_cmp rfl rfl rfl rfl (fun hc => ?_) (fun hc => ?_) <;> (simp only [cmpP] at hc; try exact prIQ))) | (refine opk 8 rfl ?_; (refine ost_storeW H rfl rfl rfl rfl lQ ixQ lQ okQ ?_; clear H; intro wk H; simp only [List.set_cons_zero, List.set_cons_succ, Nat.reduceAdd] at H)) | (refine opk 9 rfl ?_; (refine ost_allocA H rfl ?_; clear H; intro bk wk H))) | refine Wc.seq ?_ | refine then_n ?_ | refine WL.nil ?_ | refine Wc.region ?_ | refine Wc.block ?_ | refine then_r ?_ | refine then_e ?_ | refine inb_e rfl ?_ | refine inb_o rfl ?_ | refine inb_n ?_ | refine inb_r ?_ | refine Wc.skip ?_ | refine Wc.exit ?_ | refine Wc.ret ?_ | refine Wc.cond_true rfl ?_ | refine Wc.cond_false rfl ?_ | (refine Wc.drawn (id := 6) 16 (by kernel_rfl) ?_) | refine WL.skp rfl rfl ?_ | refine WL.sku rfl ?_ | (refine rgs_nil ?_; intro vs wk hE; replace H := H.ext hE; clear hE) | refine RGs.skp (fun _ => rfl) rfl ?_ | (refine RGs.bq (fun _ => rfl) rfl (by intro vs w hE hP; have H := H.ext hE; first | exact dbQ | fail) (fun hc => ?_) (fun hc => ?_) <;> ((try simp only [cmpP, decide_eq_true_eq, decide_eq_false_iff_not, dcd_iff, dcd_no] at hc); try exact prDQ)) | refine RGs.pq (fun _ => rfl) rfl (by intro vs w hE hP; have H := H.ext hE; first | exact dvQ | fail) ?_)
      (first | refine fn_ret1 (v := .bool _) rfl rfl ⟨?_, H.fr⟩ | refine fn_ret1 (v := .int _ _) rfl rfl ⟨?_, H.fr⟩ | refine fn_ret1 (v := .string _) rfl rfl ⟨?_, H.fr⟩); congr 1; symm
      exact dcd_iff.2 (list_eq_of hlen fun j h1 h2 => hsame0 j h1 h2 (by omega))
  · repeat' (first | ((first | refine WL.p rfl ?_ | refine WL.u ?_ | refine WL.g rfl rfl ?_ | refine WL.gu rfl ?_); first | refine pvQ ?_ | (refine opk 3 rfl ?_; first | (refine ost_eqA rfl (by decide) rfl rfl tyQ tyQ (fun hc => ?_) (fun hc => ?_) <;> try exact prEQ) | (refine ost_neA rfl (by decide) rfl rfl tyQ tyQ (fun hc => ?_) (fun hc => ?_) <;> try exact prEQ) | (refine ost_cmp rfl rfl rfl rfl (fun hc => ?_) (fun hc => ?_) <;> (simp only [cmpP] at hc; try exact prIQ))) | (refine opk 4 rfl ?_; (refine ost_cmp rfl rfl rfl rfl (fun hc => ?_) (fun hc => ?_) <;> (simp only [cmpP] at hc; try exact prIQ))) | (refine opk 8 rfl ?_; (refine ost_storeW H rfl rfl rfl rfl lQ ixQ lQ okQ ?_; clear H; intro wk H; simp only [List.set_cons_zero, List.set_cons_succ, Nat.reduceAdd] at H)) | (refine opk 9 rfl ?_; (refine ost_allocA H rfl ?_; clear H; intro bk wk H))) | refine Wc.seq ?_ | refine then_n ?_ | refine WL.nil ?_ | refine Wc.region ?_ | refine Wc.block ?_ | refine then_r ?_ | refine then_e ?_ | refine inb_e rfl ?_ | refine inb_o rfl ?_ | refine inb_n ?_ | refine inb_r ?_ | refine Wc.skip ?_ | refine Wc.exit ?_ | refine Wc.ret ?_ | refine Wc.cond_true rfl ?_ | refine Wc.cond_false rfl ?_ | (refine Wc.drawn (id := 6) 16 (by kernel_rfl) ?_) | refine WL.skp rfl rfl ?_ | refine WL.sku rfl ?_ | (refine rgs_nil ?_; intro vs wk hE; replace H := H.ext hE; clear hE) | refine RGs.skp (fun _ => rfl) rfl ?_ | (refine RGs.bq (fun _ => rfl) rfl (by intro vs w hE hP; have H := H.ext hE; first | exact dbQ | fail) (fun hc => ?_) (fun hc => ?_) <;> ((try simp only [cmpP, decide_eq_true_eq, decide_eq_false_iff_not, dcd_iff, dcd_no] at hc); try exact prDQ)) | refine RGs.pq (fun _ => rfl) rfl (by intro vs w hE hP; have H := H.ext hE; first | exact dvQ | fail) ?_)
    (first | refine fn_ret1 (v := .bool _) rfl rfl ⟨?_, H.fr⟩ | refine fn_ret1 (v := .int _ _) rfl rfl ⟨?_, H.fr⟩ | refine fn_ret1 (v := .string _) rfl rfl ⟨?_, H.fr⟩); congr 1; symm
    exact dcd_no.2 fun e => hlen (by rw [e])
end Go.Tg

set_option linter.unusedVariables false
set_option linter.unusedSimpArgs false
set_option maxRecDepth 100000
set_option maxHeartbeats 4000000
namespace Go.Tg
open Go Go.Proofs
abbrev PlT := KeyT × Nat
def cPl (x : PlT) : List Value := cKey x.1 ++ [.int .i64 x.2]
theorem cPl_len (x : PlT) : (cPl x).length = 4 := rfl
theorem cPl_one (x : PlT) : (cPl x).all Value.oneCell' = true := rfl
theorem cPl_key (x : PlT) : ((cPl x).drop (0 + 0)).take 3 = cKey x.1 := rfl
theorem rows_len4 (l : List PlT) : ∀ r, r ∈ l.map cPl → r.length = 4 := fun r hr => by obtain ⟨x, -, rfl⟩ := List.mem_map.1 hr; rfl
def zeroK : KeyT := ⟨0, ⟨0, 0⟩⟩
def key0 (p : PageT) : KeyT := p.keys.headD zeroK
abbrev wrt (wb : Nat) (a : Option Addr) (c : Nat) (xs : List UInt8) (base : Nat) : HA := .both (.blk wb (.cells [Value.slice a xs.length c, .int .i64 base].toArray 74 (0, 0))) (own8 (.slice a xs.length c) 5 xs)
theorem outP_len (p : PageT) : (outP p).1.length ≤ 500 := by
  unfold outP
  split
  · exact encP_len (by assumption)
  · simp
theorem ro_lay (wb : Nat) (a : Option Addr) (c : Nat) (xs : List UInt8) (base : Nat) (p : PageT) (A : PAd) (hx : xs.length ≤ 100000000) (hb : base ≤ 1073741824) (g : FH) (w : World) (hT : Half g) (hP : PgR g p A) (HO : St w (wrt wb a c xs base).fp g g [wrt wb a c xs base] w) :
    Spec Tryd.prog 44 #[pt wb, .agg (pgV p A).toArray] w (wrt wb a c xs base).fp g (fun v h' L' => h' = g ∧ v = .agg (cPl (key0 p, base + xs.length)).toArray ∧ ∃ a' c', L' = [wrt wb a' c' (xs ++ (outP p).1) base]) := by
  have H := HO.split
  generalize hF9 : (wrt wb a c xs base).fp = F9 at H ⊢
  have hE := fun h => page_Encode p A h
  have hol := outP_len p
  generalize outP p = O at hE hol ⊢
  have q1 := hP.k.lenM
  have hk0 : p.keys = [] ∨ ∃ x t, p.keys = x :: t := by cases p.keys <;> simp
  have lp := pgV_len p A
  have g1 : (pgV p A)[0 + 1]? = some (.slice A.ak p.keys.length A.ck) := rfl
  unfold Spec
  refine calls_of Tryd.func44 rfl Tryd.ntmps44 (by simp) ?_
  rcases hk0 with hk | ⟨x, t, hk⟩
  · have hkl : p.keys.length = 0 := by rw [hk]; rfl
    have hkey : key0 p = zeroK := by unfold key0; rw [hk]; rfl
    repeat' (first | ((first | refine WL.p rfl ?_ | refine WL.u ?_); first | (refine opk 1 rfl ?_; first | (refine ost_C H rfl (hE _ _ (sat_full _) (hT.full H) (hP.full H)) rfl ?_; clear H; rintro vk wk hfk Lk ⟨a1, c1, rfl, -, rfl⟩ H; simp only [List.cons_append, List.nil_append] at H) | (refine ost_app8 (xs := xs) H rfl rfl rfl (by (exact ixQ)) (H.own8rd (i := 0) rfl) (by (try simp only [List.length_nil, List.length_append, List.length_cons, List.length_singleton]); omega) ?_; clear H; intro aa ca wk H; simp only [List.set_cons_zero, List.set_cons_succ, List.nil_append] at H)) | refine pvQ ?_ | (refine opk 3 rfl ?_; (refine ost_cmp rfl rfl rfl rfl (fun hc => ?_) (fun hc => ?_) <;> (simp only [cmpP] at hc; try exact prIQ))) | (refine opk 4 rfl ?_; (refine ost_cmp rfl rfl rfl rfl (fun hc => ?_) (fun hc => ?_) <;> (simp only [cmpP] at hc; try exact prIQ))) | (refine opk 8 rfl ?_; first | (refine ost_store1 H rfl rfl vlQ gvQ ixQ (by first | decide | (simp; omega) | (simp; done) | omega) ?_; clear H; intro wk H; simp only [List.set_cons_zero, List.set_cons_succ, Nat.reduceAdd] at H) | (refine ost_storeW H rfl rfl rfl rfl lQ ixQ lQ okQ ?_; clear H; intro wk H; simp only [List.set_cons_zero, List.set_cons_succ, Nat.reduceAdd] at H)) | (refine opk 9 rfl ?_; first | (refine ost_boxq H rfl ?_; clear H; intro bk wk H) | (refine ost_allocA H rfl ?_; clear H; intro bk wk H))) | refine Wc.seq ?_ | refine then_n ?_ | refine WL.nil ?_ | refine Wc.region ?_ | refine Wc.block ?_ | refine then_r ?_ | refine then_e ?_ | refine inb_e rfl ?_ | refine inb_o rfl ?_ | refine inb_n ?_ | refine inb_r ?_ | refine Wc.skip ?_ | refine Wc.exit ?_ | refine Wc.ret ?_ | refine Wc.cond_true rfl ?_ | refine Wc.cond_false rfl ?_ | (refine Wc.drawM (id := 1) 12 [(11, [], fun v L' => ∃ b, v = pt b ∧ L' = [.blk b (.cells (cPl (zeroK, 0)).toArray 79 (0, 0))])] [.blk _ _, .blk _ _, .blk _ _, own8 _ _ _] [11] H (by kernel_rfl) rfl (by kernel_rfl) (perm_pick [0, 1, 2, 3] 4 rfl (by decide) rfl) ?_) | (refine rgm_nil ?_; intro vs wk outs HM hR; obtain ⟨v9, ⟨b9_11, e9, o9⟩, h9⟩ := hR 11 _ rfl; have hv9 : vs (0 + 1 + 1 + 1 + 1 + 1 + 1 + 1 + 1 + 1 + 1 + 1) = _ := (h9 (by kernel_rfl)).trans e9; simp only [outsL, o9, List.cons_append, List.nil_append, List.append_nil] at HM; (try dsimp only); rw [hv9]; replace H := HM; clear HM hR) | (refine RGm.bq (fun _ => rfl) rfl (by intro vs w TT hP H; simp only [List.cons_append, List.nil_append] at H; first | exact dbQ | fail) (fun hc => ?_) (fun hc => ?_) <;> ((try simp only [cmpP, decide_eq_true_eq, decide_eq_false_iff_not, dcd_iff, dcd_no] at hc); try exact prDQ)) | refine RGm.pq (fun _ => rfl) rfl (by intro vs w TT hP H; simp only [List.cons_append, List.nil_append] at H; first | exact dvQ | fail) ?_ | refine RGm.mq (fun _ => rfl) rfl (by intro vs w TT hP H; simp only [List.cons_append, List.nil_append] at H; first | (refine ost_allocA H rfl ?_; intro bk wk H2; exact ⟨[_], ⟨_, rfl, rfl⟩, H2⟩) | fail) ?_ | refine RGm.mu rfl (by intro vs w TT hP H; simp only [List.cons_append, List.nil_append] at H; first | (refine ost_allocA H rfl ?_; intro bk wk H2; exact ⟨[_], ⟨_, rfl, rfl⟩, H2⟩) | fail) ?_)
    exact fn_ret1 rfl (rv_cellA rfl rfl H.bI lQ) ⟨_, _, (H.picks [3, 4] rfl (by decide)).join, rfl, by rw [hkey] <;> rfl, _, _, rfl⟩
  · have hkl : p.keys.length = t.length + 1 := by rw [hk]; rfl
    have hkey : key0 p = x := by unfold key0; rw [hk]; rfl
    obtain ⟨b, off, L9, T, fr, e1, eb, eg⟩ := hP.k.getM (by decide) (by omega)
    have g2 : (L9.drop (off + (0 : Int).toNat * 3)).take 3 = cKey x := by
      have := eg (0 : Int).toNat 0 (by omega) rfl
      rw [this]; congr 1; simp [hk]
    have lx := cKey_len x
    have ox := allOne_of (cKey_one x)
    rw [e1] at g1
    have hst : List.take (0 + 0) [Value.int .u16 0, .int .u8 0, .int .u32 0, .int .i64 ((base : Int) + (xs.length : Int))] ++ cKey x ++ List.drop (0 + 0 + (cKey x).length) [Value.int .u16 0, .int .u8 0, .int .u32 0, .int .i64 ((base : Int) + (xs.length : Int))] = cPl (x, base + xs.length) := rfl
    have lst := cPl_len (x, base + xs.length)
    repeat' (first | ((first | refine WL.p rfl ?_ | refine WL.u ?_); first | (refine opk 1 rfl ?_; first | (refine ost_C H rfl (hE _ _ (sat_full _) (hT.full H) (hP.full H)) rfl ?_; clear H; rintro vk wk hfk Lk ⟨a1, c1, rfl, -, rfl⟩ H; simp only [List.cons_append, List.nil_append] at H) | (refine ost_app8 (xs := xs) H rfl rfl rfl (by (exact ixQ)) (H.own8rd (i := 0) rfl) (by (try simp only [List.length_nil, List.length_append, List.length_cons, List.length_singleton]); omega) ?_; clear H; intro aa ca wk H; simp only [List.set_cons_zero, List.set_cons_succ, List.nil_append] at H)) | (refine opk 8 rfl ?_; (refine ost_storeA (i := 4) (vs := cKey x) H rfl rfl rfl ox lx (by rfl) (by simp [lx]) ?_; clear H; intro wk H; simp only [List.set_cons_zero, List.set_cons_succ] at H; rw [hst] at H)) | refine pvQ ?_ | (refine opk 3 rfl ?_; (refine ost_cmp rfl rfl rfl rfl (fun hc => ?_) (fun hc => ?_) <;> (simp only [cmpP] at hc; try exact prIQ))) | (refine opk 4 rfl ?_; (refine ost_cmp rfl rfl rfl rfl (fun hc => ?_) (fun hc => ?_) <;> (simp only [cmpP] at hc; try exact prIQ))) | (refine opk 8 rfl ?_; first | (refine ost_store1 H rfl rfl vlQ gvQ ixQ (by first | decide | (simp; omega) | (simp; done) | omega) ?_; clear H; intro wk H; simp only [List.set_cons_zero, List.set_cons_succ, Nat.reduceAdd] at H) | (refine ost_storeW H rfl rfl rfl rfl lQ ixQ lQ okQ ?_; clear H; intro wk H; simp only [List.set_cons_zero, List.set_cons_succ, Nat.reduceAdd] at H)) | (refine opk 9 rfl ?_; first | (refine ost_boxq H rfl ?_; clear H; intro bk wk H) | (refine ost_allocA H rfl ?_; clear H; intro bk wk H))) | refine Wc.seq ?_ | refine then_n ?_ | refine WL.nil ?_ | refine Wc.region ?_ | refine Wc.block ?_ | refine then_r ?_ | refine then_e ?_ | refine inb_e rfl ?_ | refine inb_o rfl ?_ | refine inb_n ?_ | refine inb_r ?_ | refine Wc.skip ?_ | refine Wc.exit ?_ | refine Wc.ret ?_ | refine Wc.cond_true rfl ?_ | refine Wc.cond_false rfl ?_ | (refine Wc.drawM (id := 1) 12 [(11, [], fun v L' => ∃ b, v = pt b ∧ L' = [.blk b (.cells (cPl (zeroK, 0)).toArray 79 (0, 0))])] [.blk _ _, .blk _ _, .blk _ _, own8 _ _ _] [11] H (by kernel_rfl) rfl (by kernel_rfl) (perm_pick [0, 1, 2, 3] 4 rfl (by decide) rfl) ?_) | (refine rgm_nil ?_; intro vs wk outs HM hR; obtain ⟨v9, ⟨b9_11, e9, o9⟩, h9⟩ := hR 11 _ rfl; have hv9 : vs (0 + 1 + 1 + 1 + 1 + 1 + 1 + 1 + 1 + 1 + 1 + 1) = _ := (h9 (by kernel_rfl)).trans e9; simp only [outsL, o9, List.cons_append, List.nil_append, List.append_nil] at HM; (try dsimp only); rw [hv9]; replace H := HM; clear HM hR) | (refine RGm.bq (fun _ => rfl) rfl (by intro vs w TT hP H; simp only [List.cons_append, List.nil_append] at H; first | exact dbQ | fail) (fun hc => ?_) (fun hc => ?_) <;> ((try simp only [cmpP, decide_eq_true_eq, decide_eq_false_iff_not, dcd_iff, dcd_no] at hc); try exact prDQ)) | refine RGm.pq (fun _ => rfl) rfl (by intro vs w TT hP H; simp only [List.cons_append, List.nil_append] at H; first | exact dvQ | fail) ?_ | refine RGm.mq (fun _ => rfl) rfl (by intro vs w TT hP H; simp only [List.cons_append, List.nil_append] at H; first | (refine ost_allocA H rfl ?_; intro bk wk H2; exact ⟨[_], ⟨_, rfl, rfl⟩, H2⟩) | fail) ?_ | refine RGm.mu rfl (by intro vs w TT hP H; simp only [List.cons_append, List.nil_append] at H; first | (refine ost_allocA H rfl ?_; intro bk wk H2; exact ⟨[_], ⟨_, rfl, rfl⟩, H2⟩) | fail) ?_)
    exact fn_ret1 rfl (rv_cellA rfl rfl H.bI lQ) ⟨_, _, (H.picks [3, 4] rfl (by decide)).join, rfl, by rw [hkey] <;> rfl, _, _, rfl⟩
end Go.Tg

