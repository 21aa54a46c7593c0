/- Contracts of Go functions that the laws reach: what each call answers and leaves in memory, for all arguments within the bounds that each theorem names. -/
import Derived.Test.YtbfilhaigbebpaaDoorInst
import Derived.Test.YtbfilhaigbebpaaDoorAuto
import Derived.Test.YtbfilhaigbebpaaDoorC4
import Derived.Test.YtbfilhaigbebpaaDoorW7
import Derived.Test.YtbfilhaigbebpaaDoorW6
set_option linter.unusedVariables false
set_option linter.unusedSimpArgs false
set_option maxRecDepth 100000
set_option maxHeartbeats 4000000
namespace Go.Tg
open Go Go.Proofs
theorem le4_step (x : BitVec 32) {k : Nat} (h : k < 4) : (le4 x).take (k + 1) = (le4 x).take k ++ [UInt8.ofNat (x.toNat / 256 ^ k)] := by
  have hn : k = 0 ∨ k = 1 ∨ k = 2 ∨ k = 3 := by omega
  rcases hn with rfl | rfl | rfl | rfl
  · show [UInt8.ofNat x.toNat] = [] ++ [UInt8.ofNat (x.toNat / 1)]
    rw [Nat.div_one]; rfl
  all_goals rfl
theorem r10_Wrap (h0 : FH) (a : Option Addr) (c : Nat) (xs : List UInt8) (w : World) (hs : Sat h0 w) (hr : BS h0 a c xs) :
    Spec Tryd.prog 37 #[.slice a xs.length c] w [] h0 (fun v h' L' => ∃ a' c', v = .tuple #[.slice a' (outW xs).1.length c', .int .i64 (outW xs).2] ∧ h' = h0 ∧ L' = [own8 (.slice a' (outW xs).1.length c') 5 (outW xs).1]) := by
  have H := St.start hs
  unfold Spec
  refine calls_of Tryd.func37 rfl Tryd.ntmps37 (by simp) ?_
  by_cases hl : xs.length ≤ 4096
  · rw [show outW xs = (wrapB xs, 0) by unfold outW; rw [if_pos hl]]
    have hf := fieldB_len' xs
    repeat' (first | ((first | refine WL.p rfl ?_ | refine WL.u ?_); first | (refine opk 1 rfl ?_; first | (refine ost_C H rfl (r3_Field _ _ (sat_full _) _ _ xs (hr.full H) (by omega)) rfl ?_; clear H; rintro vk wk hfk Lk ⟨a1, c1, rfl, _, rfl⟩ H; simp only [List.cons_append, List.nil_append] at H) | (refine ost_V H rfl (r1_Sum _ _ _ (fieldB xs) _ (sat_full _) (H.own8rd (i := 0) rfl)) rfl ?_; clear H; intro wk H)) | refine pvQ ?_ | (refine opk 3 rfl ?_; (refine ost_cmp rfl rfl rfl rfl (fun hc => ?_) (fun hc => ?_) <;> (simp only [cmpP] at hc; try exact prIQ))) | (refine opk 4 rfl ?_; (refine ost_cmp rfl rfl rfl rfl (fun hc => ?_) (fun hc => ?_) <;> (simp only [cmpP] at hc; try exact prIQ))) | (refine opk 9 rfl ?_; (refine ost_build1 H rfl rfl rfl evQ lsQ rfl ?_; clear H; intro bk wk H))) | refine Wc.seq ?_ | refine then_n ?_ | refine WL.nil ?_ | refine Wc.region ?_ | refine Wc.block ?_ | refine then_r ?_ | refine then_e ?_ | refine inb_e rfl ?_ | refine inb_o rfl ?_ | refine inb_n ?_ | refine inb_r ?_ | refine Wc.skip ?_ | refine Wc.exit ?_ | refine Wc.ret ?_ | refine Wc.cond_true rfl ?_ | refine Wc.cond_false rfl ?_)
    generalize hS : sumC (fieldB xs) = S
    have hSl := S.isLt
    refine Wc.loopE (fun s0 m s w' => ∃ (k : Nat) (a2 : Option Addr) (c2 : Nat), m = 4 - k ∧ k ≤ 4 ∧ Agree [4, 5, 6, 14, 15, 16, 17, 18, 19, 20, 21, 22, 23, 24, 25] s s0 ∧ s 6 = .int .i64 k ∧ s 5 = .int .u32 ((S.toNat / 256 ^ k : Nat) : Int) ∧ s 4 = .slice a2 (fieldB xs ++ (le4 S).take k).length c2 ∧
      St w [] h0 h0 [own8 (.slice a2 (fieldB xs ++ (le4 S).take k).length c2) 5 (fieldB xs ++ (le4 S).take k)] w') 4 ⟨0, a1, c1, rfl, by omega, Agree.refl _ _, rfl, by show Value.int .u32 (S.toNat : Int) = _; simp, by rw [List.take_zero, List.append_nil]; rfl, by simpa using H⟩ ?_
    clear H
    rintro m s w' ⟨k, a2, c2, rfl, hk, hA, e1, e2, e3, H⟩
    obtain ⟨j, rfl⟩ := hA.env3 e1 e2 e3
    clear hA e1 e2 e3
    have h4 : ((le4 S).take k).length ≤ 4 := by simp [le4_len]; omega
    have hL : (fieldB xs ++ (le4 S).take k).length ≤ 5000 := by rw [List.length_append]; omega
    by_cases hlt : k < 4
    · have hy : ((S.toNat / 256 ^ k : Nat) : Int) % 256 = ((UInt8.ofNat (S.toNat / 256 ^ k)).toNat : Int) := by simp
      have hd : ((S.toNat / 256 ^ k : Nat) : Int) / 256 = ((S.toNat / 256 ^ (k + 1) : Nat) : Int) := by
        rw [Nat.pow_succ, ← Nat.div_div_eq_div_mul]; omega
      have hle : S.toNat / 256 ^ k ≤ S.toNat := Nat.div_le_self _ _
      have hst := le4_step S hlt
      generalize hq : S.toNat / 256 ^ k = q at hy hd hle hst ⊢
      repeat' (first | ((first | refine WL.p rfl ?_ | refine WL.u ?_); first | (refine opk 1 rfl ?_; (refine ost_app1 (xs := fieldB xs ++ (le4 S).take k) (y := UInt8.ofNat q) H rfl rfl rfl (by (exact ixQ)) (by (exact ixQ)) (hy) (by (try simp only [List.length_nil, List.length_append, List.length_cons, List.length_singleton]); omega) ?_; clear H; intro aa ca wk H; simp only [List.set_cons_zero, List.set_cons_succ, List.nil_append] at H)) | refine pvQ ?_ | (refine opk 3 rfl ?_; (refine ost_cmp rfl rfl rfl rfl (fun hc => ?_) (fun hc => ?_) <;> (simp only [cmpP] at hc; try exact prIQ))) | (refine opk 4 rfl ?_; (refine ost_cmp rfl rfl rfl rfl (fun hc => ?_) (fun hc => ?_) <;> (simp only [cmpP] at hc; try exact prIQ))) | (refine opk 9 rfl ?_; (refine ost_build1 H rfl rfl rfl evQ lsQ rfl ?_; clear H; intro bk wk H))) | refine Wc.seq ?_ | refine then_n ?_ | refine WL.nil ?_ | refine Wc.region ?_ | refine Wc.block ?_ | refine then_r ?_ | refine then_e ?_ | refine inb_e rfl ?_ | refine inb_o rfl ?_ | refine inb_n ?_ | refine inb_r ?_ | refine Wc.skip ?_ | refine Wc.exit ?_ | refine Wc.ret ?_ | refine Wc.cond_true rfl ?_ | refine Wc.cond_false rfl ?_)
      refine ⟨4 - (k + 1), by omega, k + 1, aa, ca, rfl, by omega, by (repeat' (first | exact Agree.refl _ _ | exact Agree.havoc | refine Agree.upd rfl ?_ | refine Agree.hav2 rfl ?_)), rfl, ?_, ?_, ?_⟩
      · show Value.int .u32 ((q : Int) / 256) = _; rw [hd]
      · rw [hst, ← List.append_assoc]; rfl
      · rw [hst, ← List.append_assoc]; exact H.pick 1 rfl
    · obtain rfl : k = 4 := by omega
      repeat' (first | ((first | refine WL.p rfl ?_ | refine WL.u ?_); first | refine pvQ ?_ | (refine opk 3 rfl ?_; (refine ost_cmp rfl rfl rfl rfl (fun hc => ?_) (fun hc => ?_) <;> (simp only [cmpP] at hc; try exact prIQ))) | (refine opk 4 rfl ?_; (refine ost_cmp rfl rfl rfl rfl (fun hc => ?_) (fun hc => ?_) <;> (simp only [cmpP] at hc; try exact prIQ))) | (refine opk 9 rfl ?_; (refine ost_build1 H rfl rfl rfl evQ lsQ rfl ?_; clear H; intro bk wk H))) | refine Wc.seq ?_ | refine then_n ?_ | refine WL.nil ?_ | refine Wc.region ?_ | refine Wc.block ?_ | refine then_r ?_ | refine then_e ?_ | refine inb_e rfl ?_ | refine inb_o rfl ?_ | refine inb_n ?_ | refine inb_r ?_ | refine Wc.skip ?_ | refine Wc.exit ?_ | refine Wc.ret ?_ | refine Wc.cond_true rfl ?_ | refine Wc.cond_false rfl ?_)
      have e9 : fieldB xs ++ (le4 S).take 4 = wrapB xs := by rw [← hS]; rfl
      rw [e9] at H
      exact fn_ret2 (v1 := .slice _ _ _) (v2 := .int _ _) rfl rfl rfl ⟨_, _, H.pick 0 rfl, _, _, by rw [e9], rfl, rfl⟩
  · rw [show outW xs = ([], 3) by unfold outW; rw [if_neg hl]]
    repeat' (first | ((first | refine WL.p rfl ?_ | refine WL.u ?_); first | refine pvQ ?_ | (refine opk 3 rfl ?_; (refine ost_cmp rfl rfl rfl rfl (fun hc => ?_) (fun hc => ?_) <;> (simp only [cmpP] at hc; try exact prIQ))) | (refine opk 4 rfl ?_; (refine ost_cmp rfl rfl rfl rfl (fun hc => ?_) (fun hc => ?_) <;> (simp only [cmpP] at hc; try exact prIQ))) | (refine opk 9 rfl ?_; (refine ost_build1 H rfl rfl rfl evQ lsQ rfl ?_; clear H; intro bk wk H))) | refine Wc.seq ?_ | refine then_n ?_ | refine WL.nil ?_ | refine Wc.region ?_ | refine Wc.block ?_ | refine then_r ?_ | refine then_e ?_ | refine inb_e rfl ?_ | refine inb_o rfl ?_ | refine inb_n ?_ | refine inb_r ?_ | refine Wc.skip ?_ | refine Wc.exit ?_ | refine Wc.ret ?_ | refine Wc.cond_true rfl ?_ | refine Wc.cond_false rfl ?_)
    exact fn_ret2 (v1 := .slice _ _ _) (v2 := .int _ _) rfl rfl rfl ⟨_, _, (H.nil8 5).pick 0 rfl, _, _, rfl, rfl, rfl⟩
theorem outW_ok {xs : List UInt8} (h : xs.length ≤ 4096) : outW xs = (wrapB xs, 0) := by unfold outW; rw [if_pos h]
theorem r10_Wrapn (n : Nat) (h0 : FH) (a : Option Addr) (c : Nat) (xs : List UInt8) (w : World) (hs : Sat h0 w) (hn : n = xs.length) (hl : xs.length ≤ 4096) (hr : BS h0 a c xs) :
    Spec Tryd.prog 37 #[.slice a n c] w [] h0 (fun v h' L' => ∃ a' c', v = .tuple #[.slice a' (wrapB xs).length c', .int .i64 0] ∧ h' = h0 ∧ L' = [own8 (.slice a' (wrapB xs).length c') 5 (wrapB xs)]) := by
  subst hn
  have := r10_Wrap h0 a c xs w hs hr
  rw [outW_ok hl] at this; exact this
theorem wrap_iff {b : List UInt8} {n k : Nat} (hg : getB b = (n, k, 0)) (hl : k + n + 4 ≤ b.length) : wrapB ((b.take (k + n)).drop k) = b.take (k + n + 4) ↔ sum4 (b.take (k + n)) = (b.drop (k + n)).take 4 := by
  have hb := getB_inv hg
  have hk : (putB n).length = k := by
    have h1 := congrArg List.length hb
    rw [List.length_append, List.length_drop] at h1
    omega
  have ht : (b.take (k + n)).take k = putB n := by
    rw [List.take_take, show min k (k + n) = k by omega]
    have : b.take k = (putB n ++ b.drop k).take k := by rw [← hb]
    rw [this, List.take_left' hk]
  have hx : ((b.take (k + n)).drop k).length = n := by simp; omega
  have hf : fieldB ((b.take (k + n)).drop k) = b.take (k + n) := by
    unfold fieldB; rw [hx, ← ht, List.take_append_drop]
  unfold wrapB
  have e : b.take (k + n + 4) = b.take (k + n) ++ (b.drop (k + n)).take 4 := List.take_add
  rw [hf, e]
  exact ⟨fun h => List.append_cancel_left h, fun h => by rw [h]⟩
theorem r10_First (h0 : FH) (a : Option Addr) (c : Nat) (b : List UInt8) (w : World) (hs : Sat h0 w) (hr : BS h0 a c b) (hb : b.length ≤ 1000000000) :
    Spec Tryd.prog 51 #[.slice a b.length c] w [] h0 (fun v h' L' => ∃ a' c', v = .tuple #[.slice a' (firstF b).1.length c', .int .i64 (firstF b).2.1, .int .i64 (firstF b).2.2] ∧ h' = h0 ∧ L' = [] ∧ BS h0 a' c' (firstF b).1) := by
  have H := St.start hs
  have hcap := hr.le
  have hv := r2_Get h0 a c b
  have hk := getB_le b
  have hn := getB_lt b
  have hwi := @wrap_iff b
  have nil8 : BS h0 none 0 [] := ⟨RdC.nil _ _, by simp, Nat.zero_le _, fun _ => rfl⟩
  generalize hF : firstF b = F
  unfold firstF at hF
  generalize getB b = G at hv hk hn hF hwi
  obtain ⟨n, k, e⟩ := G
  dsimp only at hv hk hn hF
  unfold Spec
  refine calls_of Tryd.func51 rfl Tryd.ntmps51 (by simp) ?_
  by_cases he : e = 0
  · subst he
    by_cases h1 : 4096 < n
    · rw [if_neg (by omega), if_pos h1] at hF; subst hF
      repeat' (first | ((first | refine WL.p rfl ?_ | refine WL.u ?_); first | (refine opk 1 rfl ?_; (refine ost_V H rfl (hv _ H.sat hr) rfl ?_; clear H; intro wk H)) | refine pvQ ?_ | (refine opk 3 rfl ?_; first | (refine ost_cmp rfl rfl rfl rfl (fun hc => ?_) (fun hc => ?_) <;> (simp only [cmpP] at hc; try exact prIQ)) | (refine ost_streqB rfl rfl rfl (fun hc => ?_) (fun hc => ?_) <;> try exact prEQ) | (refine ost_strneB rfl rfl rfl (fun hc => ?_) (fun hc => ?_) <;> try exact prEQ) | (refine ost_streq rfl rfl rfl (fun hc => ?_) (fun hc => ?_) <;> try exact absurd rfl hc) | (refine ost_strne rfl rfl rfl (fun hc => ?_) (fun hc => ?_))) | (refine opk 4 rfl ?_; (refine ost_cmp rfl rfl rfl rfl (fun hc => ?_) (fun hc => ?_) <;> (simp only [cmpP] at hc; try exact prIQ)))) | refine Wc.seq ?_ | refine then_n ?_ | refine WL.nil ?_ | refine Wc.region ?_ | refine Wc.block ?_ | refine then_r ?_ | refine then_e ?_ | refine inb_e rfl ?_ | refine inb_o rfl ?_ | refine inb_n ?_ | refine inb_r ?_ | refine Wc.skip ?_ | refine Wc.exit ?_ | refine Wc.ret ?_ | refine Wc.cond_true rfl ?_ | refine Wc.cond_false rfl ?_ | (refine Wc.drawn (id := 10) 7 (by kernel_rfl) ?_) | (refine rgs_nil ?_; intro vs wk hE; replace H := H.ext hE; clear hE) | (refine RGs.bq (fun _ => rfl) rfl (by intro vs w hE hP; have H := H.ext hE; first | exact dbQ | fail) (fun hc => ?_) (fun hc => ?_) <;> ((try simp only [cmpP, decide_eq_true_eq, decide_eq_false_iff_not, dcd_iff, dcd_no] at hc); try exact prDQ)) | refine RGs.pq (fun _ => rfl) rfl (by intro vs w hE hP; have H := H.ext hE; first | exact dvQ | fail) ?_)
      exact fn_ret3 (v1 := .slice _ _ _) (v2 := .int _ _) (v3 := .int _ _) rfl rfl rfl rfl ⟨_, _, H, _, _, rfl, rfl, rfl, nil8⟩
    · by_cases h2 : b.length < k + n + 4
      · rw [if_neg (by omega), if_neg h1, if_pos h2] at hF; subst hF
        repeat' (first | ((first | refine WL.p rfl ?_ | refine WL.u ?_); first | (refine opk 1 rfl ?_; (refine ost_V H rfl (hv _ H.sat hr) rfl ?_; clear H; intro wk H)) | refine pvQ ?_ | (refine opk 3 rfl ?_; first | (refine ost_cmp rfl rfl rfl rfl (fun hc => ?_) (fun hc => ?_) <;> (simp only [cmpP] at hc; try exact prIQ)) | (refine ost_streqB rfl rfl rfl (fun hc => ?_) (fun hc => ?_) <;> try exact prEQ) | (refine ost_strneB rfl rfl rfl (fun hc => ?_) (fun hc => ?_) <;> try exact prEQ) | (refine ost_streq rfl rfl rfl (fun hc => ?_) (fun hc => ?_) <;> try exact absurd rfl hc) | (refine ost_strne rfl rfl rfl (fun hc => ?_) (fun hc => ?_))) | (refine opk 4 rfl ?_; (refine ost_cmp rfl rfl rfl rfl (fun hc => ?_) (fun hc => ?_) <;> (simp only [cmpP] at hc; try exact prIQ)))) | refine Wc.seq ?_ | refine then_n ?_ | refine WL.nil ?_ | refine Wc.region ?_ | refine Wc.block ?_ | refine then_r ?_ | refine then_e ?_ | refine inb_e rfl ?_ | refine inb_o rfl ?_ | refine inb_n ?_ | refine inb_r ?_ | refine Wc.skip ?_ | refine Wc.exit ?_ | refine Wc.ret ?_ | refine Wc.cond_true rfl ?_ | refine Wc.cond_false rfl ?_ | (refine Wc.drawn (id := 10) 7 (by kernel_rfl) ?_) | (refine rgs_nil ?_; intro vs wk hE; replace H := H.ext hE; clear hE) | (refine RGs.bq (fun _ => rfl) rfl (by intro vs w hE hP; have H := H.ext hE; first | exact dbQ | fail) (fun hc => ?_) (fun hc => ?_) <;> ((try simp only [cmpP, decide_eq_true_eq, decide_eq_false_iff_not, dcd_iff, dcd_no] at hc); try exact prDQ)) | refine RGs.pq (fun _ => rfl) rfl (by intro vs w hE hP; have H := H.ext hE; first | exact dvQ | fail) ?_)
        exact fn_ret3 (v1 := .slice _ _ _) (v2 := .int _ _) (v3 := .int _ _) rfl rfl rfl rfl ⟨_, _, H, _, _, rfl, rfl, rfl, nil8⟩
      · have t1 : (b.take (k + n)).length = k + n := by simp; omega
        have t3 : ((b.take (k + n)).drop k).length = n := by simp; omega
        have t5 : k + n - k = ((b.take (k + n)).drop k).length := by rw [t3]; omega
        have hwi := hwi rfl (by omega)
        have hwl := wrapB_len ((b.take (k + n)).drop k)
        generalize hq : wrapB ((b.take (k + n)).drop k) = W at hwi hwl
        have hW : ∀ (h0 : FH) (a : Option Addr) (c : Nat) (w : World) (hs : Sat h0 w) (hr : BS h0 a c ((b.take (k + n)).drop k)), Spec Tryd.prog 37 #[.slice a (k + n - k) c] w [] h0 (fun v h' L' => ∃ a' c', v = .tuple #[.slice a' W.length c', .int .i64 0] ∧ h' = h0 ∧ L' = [own8 (.slice a' W.length c') 5 W]) := fun h0 a c w hs hr => by
          have := r10_Wrapn (k + n - k) h0 a c _ w hs t5 (by omega) hr
          rw [hq] at this; exact this
        by_cases h3 : sum4 (b.take (k + n)) = (b.drop (k + n)).take 4
        · rw [if_neg (by omega), if_neg h1, if_neg h2, if_neg (by simpa using h3)] at hF; subst hF
          have h4 := hwi.2 h3
          repeat' (first | ((first | refine WL.p rfl ?_ | refine WL.u ?_); first | (refine opk 1 rfl ?_; first | (refine ost_V H rfl (hv _ H.sat hr) rfl ?_; clear H; intro wk H) | (refine ost_C H rfl (hW _ _ _ _ (sat_full _) (((hr.full H).take (k + n)).drop (n := k) (by rw [t1]; omega))) rfl ?_; clear H; rintro vk wk hfk Lk ⟨a1, c1, rfl, _, rfl⟩ H; simp only [List.cons_append, List.nil_append] at H)) | refine pvQ ?_ | (refine opk 3 rfl ?_; first | (refine ost_cmp rfl rfl rfl rfl (fun hc => ?_) (fun hc => ?_) <;> (simp only [cmpP] at hc; try exact prIQ)) | (refine ost_streqB rfl rfl rfl (fun hc => ?_) (fun hc => ?_) <;> try exact prEQ) | (refine ost_strneB rfl rfl rfl (fun hc => ?_) (fun hc => ?_) <;> try exact prEQ) | (refine ost_streq rfl rfl rfl (fun hc => ?_) (fun hc => ?_) <;> try exact absurd rfl hc) | (refine ost_strne rfl rfl rfl (fun hc => ?_) (fun hc => ?_))) | (refine opk 4 rfl ?_; (refine ost_cmp rfl rfl rfl rfl (fun hc => ?_) (fun hc => ?_) <;> (simp only [cmpP] at hc; try exact prIQ)))) | refine Wc.seq ?_ | refine then_n ?_ | refine WL.nil ?_ | refine Wc.region ?_ | refine Wc.block ?_ | refine then_r ?_ | refine then_e ?_ | refine inb_e rfl ?_ | refine inb_o rfl ?_ | refine inb_n ?_ | refine inb_r ?_ | refine Wc.skip ?_ | refine Wc.exit ?_ | refine Wc.ret ?_ | refine Wc.cond_true rfl ?_ | refine Wc.cond_false rfl ?_ | (refine Wc.drawn (id := 10) 7 (by kernel_rfl) ?_) | (refine rgs_nil ?_; intro vs wk hE; replace H := H.ext hE; clear hE) | (refine RGs.bq (fun _ => rfl) rfl (by intro vs w hE hP; have H := H.ext hE; first | exact dbQ | fail) (fun hc => ?_) (fun hc => ?_) <;> ((try simp only [cmpP, decide_eq_true_eq, decide_eq_false_iff_not, dcd_iff, dcd_no] at hc); try exact prDQ)) | refine RGs.pq (fun _ => rfl) rfl (by intro vs w hE hP; have H := H.ext hE; first | (refine opk 6 rfl ?_; first | (refine ost_toStrN (xs := W) rfl rfl (by first | rfl | (simp; omega)) (H.own8rd (i := 0) rfl) ?_; exact ⟨Fr.refl _ _, rfl⟩) | (refine ost_toStrN (xs := b.take (k + n + 4)) rfl rfl (by first | rfl | (simp; omega)) ((hr.full H).take (k + n + 4)) ?_; exact ⟨Fr.refl _ _, rfl⟩)) | exact dvQ | fail) ?_)
          exact fn_ret3 (v1 := .slice _ _ _) (v2 := .int _ _) (v3 := .int _ _) rfl rfl rfl rfl ⟨_, _, H.pick0, _, _, by rw [← t5]; rfl, rfl, rfl, (hr.take (k + n)).drop (n := k) (by rw [t1]; omega)⟩
        · rw [if_neg (by omega), if_neg h1, if_neg h2, if_pos h3] at hF; subst hF
          have h4 : ¬ W = b.take (k + n + 4) := fun h => h3 (hwi.1 h)
          repeat' (first | ((first | refine WL.p rfl ?_ | refine WL.u ?_); first | (refine opk 1 rfl ?_; first | (refine ost_V H rfl (hv _ H.sat hr) rfl ?_; clear H; intro wk H) | (refine ost_C H rfl (hW _ _ _ _ (sat_full _) (((hr.full H).take (k + n)).drop (n := k) (by rw [t1]; omega))) rfl ?_; clear H; rintro vk wk hfk Lk ⟨a1, c1, rfl, _, rfl⟩ H; simp only [List.cons_append, List.nil_append] at H)) | refine pvQ ?_ | (refine opk 3 rfl ?_; first | (refine ost_cmp rfl rfl rfl rfl (fun hc => ?_) (fun hc => ?_) <;> (simp only [cmpP] at hc; try exact prIQ)) | (refine ost_streqB rfl rfl rfl (fun hc => ?_) (fun hc => ?_) <;> try exact prEQ) | (refine ost_strneB rfl rfl rfl (fun hc => ?_) (fun hc => ?_) <;> try exact prEQ) | (refine ost_streq rfl rfl rfl (fun hc => ?_) (fun hc => ?_) <;> try exact absurd rfl hc) | (refine ost_strne rfl rfl rfl (fun hc => ?_) (fun hc => ?_))) | (refine opk 4 rfl ?_; (refine ost_cmp rfl rfl rfl rfl (fun hc => ?_) (fun hc => ?_) <;> (simp only [cmpP] at hc; try exact prIQ)))) | refine Wc.seq ?_ | refine then_n ?_ | refine WL.nil ?_ | refine Wc.region ?_ | refine Wc.block ?_ | refine then_r ?_ | refine then_e ?_ | refine inb_e rfl ?_ | refine inb_o rfl ?_ | refine inb_n ?_ | refine inb_r ?_ | refine Wc.skip ?_ | refine Wc.exit ?_ | refine Wc.ret ?_ | refine Wc.cond_true rfl ?_ | refine Wc.cond_false rfl ?_ | (refine Wc.drawn (id := 10) 7 (by kernel_rfl) ?_) | (refine rgs_nil ?_; intro vs wk hE; replace H := H.ext hE; clear hE) | (refine RGs.bq (fun _ => rfl) rfl (by intro vs w hE hP; have H := H.ext hE; first | exact dbQ | fail) (fun hc => ?_) (fun hc => ?_) <;> ((try simp only [cmpP, decide_eq_true_eq, decide_eq_false_iff_not, dcd_iff, dcd_no] at hc); try exact prDQ)) | refine RGs.pq (fun _ => rfl) rfl (by intro vs w hE hP; have H := H.ext hE; first | (refine opk 6 rfl ?_; first | (refine ost_toStrN (xs := W) rfl rfl (by first | rfl | (simp; omega)) (H.own8rd (i := 0) rfl) ?_; exact ⟨Fr.refl _ _, rfl⟩) | (refine ost_toStrN (xs := b.take (k + n + 4)) rfl rfl (by first | rfl | (simp; omega)) ((hr.full H).take (k + n + 4)) ?_; exact ⟨Fr.refl _ _, rfl⟩)) | exact dvQ | fail) ?_)
          exact fn_ret3 (v1 := .slice _ _ _) (v2 := .int _ _) (v3 := .int _ _) rfl rfl rfl rfl ⟨_, _, H.pick0, _, _, rfl, rfl, rfl, nil8⟩
  · rw [if_pos he] at hF; subst hF
    repeat' (first | ((first | refine WL.p rfl ?_ | refine WL.u ?_); first | (refine opk 1 rfl ?_; (refine ost_V H rfl (hv _ H.sat hr) rfl ?_; clear H; intro wk H)) | refine pvQ ?_ | (refine opk 3 rfl ?_; first | (refine ost_cmp rfl rfl rfl rfl (fun hc => ?_) (fun hc => ?_) <;> (simp only [cmpP] at hc; try exact prIQ)) | (refine ost_streqB rfl rfl rfl (fun hc => ?_) (fun hc => ?_) <;> try exact prEQ) | (refine ost_strneB rfl rfl rfl (fun hc => ?_) (fun hc => ?_) <;> try exact prEQ) | (refine ost_streq rfl rfl rfl (fun hc => ?_) (fun hc => ?_) <;> try exact absurd rfl hc) | (refine ost_strne rfl rfl rfl (fun hc => ?_) (fun hc => ?_))) | (refine opk 4 rfl ?_; (refine ost_cmp rfl rfl rfl rfl (fun hc => ?_) (fun hc => ?_) <;> (simp only [cmpP] at hc; try exact prIQ)))) | refine Wc.seq ?_ | refine then_n ?_ | refine WL.nil ?_ | refine Wc.region ?_ | refine Wc.block ?_ | refine then_r ?_ | refine then_e ?_ | refine inb_e rfl ?_ | refine inb_o rfl ?_ | refine inb_n ?_ | refine inb_r ?_ | refine Wc.skip ?_ | refine Wc.exit ?_ | refine Wc.ret ?_ | refine Wc.cond_true rfl ?_ | refine Wc.cond_false rfl ?_ | (refine Wc.drawn (id := 10) 7 (by kernel_rfl) ?_) | (refine rgs_nil ?_; intro vs wk hE; replace H := H.ext hE; clear hE) | (refine RGs.bq (fun _ => rfl) rfl (by intro vs w hE hP; have H := H.ext hE; first | exact dbQ | fail) (fun hc => ?_) (fun hc => ?_) <;> ((try simp only [cmpP, decide_eq_true_eq, decide_eq_false_iff_not, dcd_iff, dcd_no] at hc); try exact prDQ)) | refine RGs.pq (fun _ => rfl) rfl (by intro vs w hE hP; have H := H.ext hE; first | exact dvQ | fail) ?_)
    exact fn_ret3 (v1 := .slice _ _ _) (v2 := .int _ _) (v3 := .int _ _) rfl rfl rfl rfl ⟨_, _, H, _, _, rfl, rfl, rfl, nil8⟩
end Go.Tg

set_option linter.unusedVariables false
set_option linter.unusedSimpArgs false
set_option maxRecDepth 100000
set_option maxHeartbeats 4000000
namespace Go.Tg
open Go Go.Proofs
def numsB (l : List Nat) : List UInt8 := (l.map putB).flatten
theorem numsB_app (a b : List Nat) : numsB (a ++ b) = numsB a ++ numsB b := by simp [numsB]
theorem numsB_one (n : Nat) : numsB [n] = putB n := by simp [numsB]
theorem numsB_cons (n : Nat) (l : List Nat) : numsB (n :: l) = putB n ++ numsB l := by simp [numsB]
theorem numsB_nil : numsB [] = [] := rfl
theorem numsB_len (l : List Nat) : (numsB l).length ≤ 11 * l.length := by
  induction l with
  | nil => simp [numsB]
  | cons n l ih => rw [numsB_cons, List.length_append, List.length_cons]; have := putB_len n; omega
theorem pack_NumK (b : Nat) (v : Value) (xs : List UInt8) (g : FH) (w : World) (HO : St w (wr b true 0 v xs).fp g g [wr b true 0 v xs] w) (n : Nat) (hn : n < 18446744073709551616) (hx : xs.length ≤ 65000) :
    Spec Tryd.prog 33 #[pt b, .int .u64 n] w (wr b true 0 v xs).fp g (fun v' h' L' => v' = .int .i64 0 ∧ ∃ v2, L' = [wr b true 0 v2 (xs ++ putB n)]) := by
  have := pack_Num b true 0 v xs g w HO n hn (by omega)
  rw [layE_ok (by have := putB_len n; omega)] at this; exact this
theorem frame_WrapK (h0 : FH) (a : Option Addr) (c : Nat) (xs : List UInt8) (w : World) (hs : Sat h0 w) (hT : Half h0) (hr : BS h0 a c xs) (hl : xs.length ≤ 4096) :
    Spec Tryd.prog 35 #[.slice a xs.length c] w [] h0 (fun v h' L' => ∃ a' c', v = .tuple #[.slice a' (wrapB xs).length c', .int .i64 0] ∧ h' = h0 ∧ L' = [own8 (.slice a' (wrapB xs).length c') 5 (wrapB xs)]) := by
  have := frame_Wrap h0 a c xs w hs hT hr
  rw [outW_ok hl] at this; exact this
def rowP (lf : Bool) (ks : List KeyT) (ls : List LocT) (ds : List UInt32) (i : Nat) : List Nat :=
  match ks[i]? with
  | some k => [k.cart.toNat, k.dot.rep.toNat, k.dot.seq.toNat] ++ (if lf = true then (match ls[i]? with | some l => [l.seg.toNat, l.at_.toNat] | none => []) else (match ds[i]? with | some x => [x.toNat] | none => []))
  | none => []
def rowsP (lf : Bool) (ks : List KeyT) (ls : List LocT) (ds : List UInt32) (k : Nat) : List Nat := ((List.range k).map (rowP lf ks ls ds)).flatten
def natsP (p : PageT) : List Nat := (if p.leaf = true then 1 else 0) :: p.keys.length :: rowsP p.leaf p.keys p.locs p.kids p.keys.length
def encP (p : PageT) : List UInt8 := wrapB (numsB (natsP p))
noncomputable def outP (p : PageT) : List UInt8 × Int := if rightP p = true then (encP p, 0) else ([], 15)
theorem rowsP_succ (lf : Bool) (ks : List KeyT) (ls : List LocT) (ds : List UInt32) (k : Nat) : rowsP lf ks ls ds (k + 1) = rowsP lf ks ls ds k ++ rowP lf ks ls ds k := by simp [rowsP, List.range_succ, List.flatten_append]
theorem rowP_leaf {ks : List KeyT} {ls : List LocT} {ds : List UInt32} {i : Nat} (h : i < ks.length) (h2 : i < ls.length) : rowP true ks ls ds i = [ks[i].cart.toNat, ks[i].dot.rep.toNat, ks[i].dot.seq.toNat, ls[i].seg.toNat, ls[i].at_.toNat] := by
  simp [rowP, h, h2]
theorem rowP_kid {ks : List KeyT} {ls : List LocT} {ds : List UInt32} {i : Nat} (h : i < ks.length) (h2 : i < ds.length) : rowP false ks ls ds i = [ks[i].cart.toNat, ks[i].dot.rep.toNat, ks[i].dot.seq.toNat, ds[i].toNat] := by
  simp [rowP, h, h2]
theorem rowP_len (lf : Bool) (ks : List KeyT) (ls : List LocT) (ds : List UInt32) (i : Nat) : (rowP lf ks ls ds i).length ≤ 5 := by
  unfold rowP
  split
  · split
    · split <;> simp
    · split <;> simp
  · simp
theorem rowsP_len (lf : Bool) (ks : List KeyT) (ls : List LocT) (ds : List UInt32) (k : Nat) : (rowsP lf ks ls ds k).length ≤ 5 * k := by
  induction k with
  | zero => simp [rowsP]
  | succ k ih => rw [rowsP_succ, List.length_append]; have := rowP_len lf ks ls ds k; omega
theorem numsR_len (x n : Nat) (lf : Bool) (ks : List KeyT) (ls : List LocT) (ds : List UInt32) {k : Nat} (hk : k ≤ 8) : (numsB (x :: n :: rowsP lf ks ls ds k)).length ≤ 462 := by
  have h1 := numsB_len (x :: n :: rowsP lf ks ls ds k)
  have h2 := rowsP_len lf ks ls ds k
  simp only [List.length_cons] at h1
  omega
theorem numsR_zero (x n : Nat) (lf : Bool) (ks : List KeyT) (ls : List LocT) (ds : List UInt32) : putB x ++ putB n = numsB (x :: n :: rowsP lf ks ls ds 0) := by simp [numsB, rowsP]
theorem numsR_succ (x n : Nat) (lf : Bool) (ks : List KeyT) (ls : List LocT) (ds : List UInt32) (k : Nat) : numsB (x :: n :: rowsP lf ks ls ds (k + 1)) = numsB (x :: n :: rowsP lf ks ls ds k) ++ numsB (rowP lf ks ls ds k) := by
  rw [rowsP_succ, show x :: n :: (rowsP lf ks ls ds k ++ rowP lf ks ls ds k) = (x :: n :: rowsP lf ks ls ds k) ++ rowP lf ks ls ds k from rfl, numsB_app]
theorem page_Encode (p : PageT) (A : PAd) (h0 : FH) (w : World) (hs : Sat h0 w) (hT : Half h0) (hP : PgR h0 p A) :
    Spec Tryd.prog 61 #[.agg (pgV p A).toArray] w [] h0 (fun v h' L' => ∃ a' c', v = .tuple #[.slice a' (outP p).1.length c', .int .i64 (outP p).2] ∧ h' = h0 ∧ L' = [own8 (.slice a' (outP p).1.length c') 5 (outP p).1]) := by
  have hR := page_Right p A h0
  have H := St.start hs
  have hq := @rightP_iff p
  have hF : ∀ q, rightP p = q → outP p = if q = true then (encP p, 0) else ([], 15) := fun q h => by unfold outP; rw [h]
  generalize rightP p = q at hR hq hF
  rw [hF q rfl]
  clear hF
  obtain ⟨lf, ks, ls, ds⟩ := p
  obtain ⟨ak, ck, al, cl, ad, cd⟩ := A
  have e : pgV ⟨lf, ks, ls, ds⟩ ⟨ak, ck, al, cl, ad, cd⟩ = pgL lf ks.length ls.length ds.length ak ck al cl ad cd := rfl
  rw [e] at hR ⊢
  have lp : (pgL lf ks.length ls.length ds.length ak ck al cl ad cd).length = 4 := rfl
  have q1 := hP.k.lenM
  have q2 := hP.l.lenM
  have q3 := hP.d.lenM
  dsimp only at q1 q2 q3 ⊢
  unfold Spec
  refine calls_of Tryd.func61 rfl Tryd.ntmps61 (by simp) ?_
  cases q with
  | false =>
    repeat' (first | ((first | refine WL.p rfl ?_ | refine WL.u ?_); first | (refine opk 1 rfl ?_; (refine ost_V H rfl (hR _ H.sat hP) rfl ?_; clear H; intro wk H)) | refine pvQ ?_ | (refine opk 3 rfl ?_; (refine ost_cmp rfl rfl rfl rfl (fun hc => ?_) (fun hc => ?_) <;> (simp only [cmpP] at hc; try exact prIQ))) | (refine opk 4 rfl ?_; (refine ost_cmp rfl rfl rfl rfl (fun hc => ?_) (fun hc => ?_) <;> (simp only [cmpP] at hc; try exact prIQ))) | (refine opk 8 rfl ?_; (refine ost_storeW H rfl rfl rfl rfl lQ ixQ lQ okQ ?_; clear H; intro wk H; simp only [List.set_cons_zero, List.set_cons_succ, Nat.reduceAdd] at H)) | (refine opk 9 rfl ?_; first | (refine ost_boxq H rfl ?_; clear H; intro bk wk H) | (refine ost_allocA H rfl ?_; clear H; intro bk wk H))) | refine Wc.seq ?_ | refine then_n ?_ | refine WL.nil ?_ | refine Wc.region ?_ | refine Wc.block ?_ | refine then_r ?_ | refine then_e ?_ | refine inb_e rfl ?_ | refine inb_o rfl ?_ | refine inb_n ?_ | refine inb_r ?_ | refine Wc.skip ?_ | refine Wc.exit ?_ | refine Wc.ret ?_ | refine Wc.cond_true rfl ?_ | refine Wc.cond_false rfl ?_)
    exact fn_ret2 (v1 := .slice _ _ _) (v2 := .int _ _) rfl rfl rfl ⟨_, _, (H.nil8 5).pick 0 rfl, _, _, rfl, rfl, rfl⟩
  | true =>
    obtain ⟨hs1, hs2⟩ := hq.1 rfl
    rw [if_pos rfl]
    dsimp only
    have z0 := putB_len 0
    have z1 := putB_len 1
    cases lf with
    | true =>
      have hs2 := (shapeP_T _ _ _).1 hs2
      repeat' (first | ((first | refine WL.p rfl ?_ | refine WL.u ?_); first | (refine opk 1 rfl ?_; first | (refine ost_V H rfl (hR _ H.sat hP) rfl ?_; clear H; intro wk H) | (refine ost_C H rfl (pack_New _ _ (sat_full _)) rfl ?_; clear H; rintro vk wk hfk Lk ⟨b1, rfl, rfl⟩ H; simp only [List.cons_append, List.nil_append] at H) | (refine ost_O (A := wr _ _ _ _ _) H rfl (by (exact ixQ)) (fun HO => pack_NumK _ _ _ _ _ HO 1 (by omega) (by decide)) rfl ?_; clear H; rintro vk wk hfk Lk ⟨rfl, v3, rfl⟩ H; simp only [List.cons_append, List.nil_append, List.eraseIdx_cons_zero, List.eraseIdx_cons_succ] at H) | (refine ost_O (A := wr _ _ _ _ _) H rfl (by (exact ixQ)) (fun HO => pack_NumK _ _ _ _ _ HO ks.length (by omega) (by omega)) rfl ?_; clear H; rintro vk wk hfk Lk ⟨rfl, v3, rfl⟩ H; simp only [List.cons_append, List.nil_append, List.eraseIdx_cons_zero, List.eraseIdx_cons_succ] at H)) | refine pvQ ?_ | (refine opk 3 rfl ?_; (refine ost_cmp rfl rfl rfl rfl (fun hc => ?_) (fun hc => ?_) <;> (simp only [cmpP] at hc; try exact prIQ))) | (refine opk 4 rfl ?_; (refine ost_cmp rfl rfl rfl rfl (fun hc => ?_) (fun hc => ?_) <;> (simp only [cmpP] at hc; try exact prIQ))) | (refine opk 8 rfl ?_; (refine ost_storeW H rfl rfl rfl rfl lQ ixQ lQ okQ ?_; clear H; intro wk H; simp only [List.set_cons_zero, List.set_cons_succ, Nat.reduceAdd] at H)) | (refine opk 9 rfl ?_; first | (refine ost_boxq H rfl ?_; clear H; intro bk wk H) | (refine ost_allocA H rfl ?_; clear H; intro bk wk H))) | refine Wc.seq ?_ | refine then_n ?_ | refine WL.nil ?_ | refine Wc.region ?_ | refine Wc.block ?_ | refine then_r ?_ | refine then_e ?_ | refine inb_e rfl ?_ | refine inb_o rfl ?_ | refine inb_n ?_ | refine inb_r ?_ | refine Wc.skip ?_ | refine Wc.exit ?_ | refine Wc.ret ?_ | refine Wc.cond_true rfl ?_ | refine Wc.cond_false rfl ?_)
      rw [numsR_zero 1 ks.length true ks ls ds] at H
      refine Wc.loopE (fun s0 m s w' => ∃ (k : Nat) (v : Value), m = ks.length - k ∧ k ≤ ks.length ∧ Agree [6, 7, 28, 29, 30, 31, 32, 33, 34, 35, 36, 37, 38, 39, 40, 41, 42, 43, 44, 45, 46, 47, 48, 49, 50, 51, 52, 53, 54, 55, 56, 57, 58, 59, 60, 61, 62, 63, 64, 65, 66, 67, 68, 69, 70, 71, 72, 73, 74, 75, 76, 77, 78, 79] s s0 ∧ s 28 = .int .i64 k ∧
        St w [] h0 h0 [wr b1 true 0 v (numsB (1 :: ks.length :: rowsP true ks ls ds k)), .blk bk (.cells (pgL true ks.length ls.length ds.length ak ck al cl ad cd).toArray 59 (0, 0))] w') ks.length ⟨0, _, rfl, by omega, Agree.refl _ _, rfl, H⟩ ?_
      clear H
      rintro m s w' ⟨k, v, rfl, hk, hA, e1, H⟩
      obtain ⟨j, rfl⟩ := hA.env1 e1
      clear hA e1
      have hx := numsR_len 1 ks.length true ks ls ds (k := k) (by omega)
      by_cases hlt : k < ks.length
      · obtain ⟨b, off, l, T, fr, e2, eb, eg⟩ := hP.k.getM (by decide) (Nat.lt_of_le_of_lt (Nat.zero_le _) hlt)
        obtain ⟨b3, off3, l3, T3, fr3, e3, eb3, eg3⟩ := hP.l.getM (by decide) (Nat.lt_of_lt_of_le (Nat.lt_of_le_of_lt (Nat.zero_le _) hlt) (Nat.le_of_eq hs2.2.1.symm))
        dsimp only at e2 eg e3 eg3
        subst e2; subst e3
        have hlt3 : k < ls.length := by omega
        have g1 := eg (k : Int).toNat k hlt (by omega)
        have g3 := eg3 (k : Int).toNat k hlt3 (by omega)
        have hrow := rowP_leaf (ds := ds) hlt hlt3
        have hsucc := numsR_succ 1 ks.length true ks ls ds k
        rw [hrow] at hsucc
        clear hrow eg eg3
        have g4 : l3[off3 + (k : Int).toNat * 2 + 0]? = some (.int .u32 ls[k].seg.toNat) := row_cell g3 (q := 0) (by simp [cLoc, cKid])
        have g5 : l3[off3 + (k : Int).toNat * 2 + 1]? = some (.int .u32 ls[k].at_.toNat) := row_cell g3 (q := 1) (by simp [cLoc, cKid])
        generalize ks[k] = x at g1 hsucc
        generalize ls[k] = y at g4 g5 hsucc
        have lx := cKey_len x
        have p1 := putB_len x.cart.toNat; have p2 := putB_len x.dot.rep.toNat; have p3 := putB_len x.dot.seq.toNat; have p4 := putB_len y.seg.toNat; have p5 := putB_len y.at_.toNat
        have u1 := x.cart.toNat_lt; have u2 := x.dot.rep.toNat_lt; have u3 := x.dot.seq.toNat_lt; have u4 := y.seg.toNat_lt; have u5 := y.at_.toNat_lt
        repeat' (first | ((first | refine WL.p rfl ?_ | refine WL.u ?_); first | (refine opk 1 rfl ?_; (refine ost_O (A := wr _ _ _ _ _) H rfl (by (exact ixQ)) (fun HO => pack_NumK _ _ _ _ _ HO _ (by omega) (by (try simp only [List.length_append]); omega)) rfl ?_; clear H; rintro vk wk hfk Lk ⟨rfl, v3, rfl⟩ H; simp only [List.cons_append, List.nil_append, List.eraseIdx_cons_zero, List.eraseIdx_cons_succ] at H)) | refine pvQ ?_ | (refine opk 3 rfl ?_; (refine ost_cmp rfl rfl rfl rfl (fun hc => ?_) (fun hc => ?_) <;> (simp only [cmpP] at hc; try exact prIQ))) | (refine opk 4 rfl ?_; (refine ost_cmp rfl rfl rfl rfl (fun hc => ?_) (fun hc => ?_) <;> (simp only [cmpP] at hc; try exact prIQ))) | (refine opk 8 rfl ?_; (refine ost_storeW H rfl rfl rfl rfl lQ ixQ lQ okQ ?_; clear H; intro wk H; simp only [List.set_cons_zero, List.set_cons_succ, Nat.reduceAdd] at H)) | (refine opk 9 rfl ?_; first | (refine ost_boxq H rfl ?_; clear H; intro bk wk H) | (refine ost_allocA H rfl ?_; clear H; intro bk wk H))) | refine Wc.seq ?_ | refine then_n ?_ | refine WL.nil ?_ | refine Wc.region ?_ | refine Wc.block ?_ | refine then_r ?_ | refine then_e ?_ | refine inb_e rfl ?_ | refine inb_o rfl ?_ | refine inb_n ?_ | refine inb_r ?_ | refine Wc.skip ?_ | refine Wc.exit ?_ | refine Wc.ret ?_ | refine Wc.cond_true rfl ?_ | refine Wc.cond_false rfl ?_)
        refine ⟨ks.length - (k + 1), by omega, k + 1, v3, rfl, by omega, by (repeat' (first | exact Agree.refl _ _ | exact Agree.havoc | refine Agree.upd rfl ?_ | refine Agree.hav2 rfl ?_)), rfl, ?_⟩
        rw [hsucc]
        simp only [numsB_cons, numsB_nil, List.append_nil, ← List.append_assoc]
        simp only [numsB_cons, ← List.append_assoc] at H
        exact H.pick2 0 2 rfl rfl (by decide)
      · obtain rfl : k = ks.length := by omega
        have e0 : numsB (1 :: ks.length :: rowsP true ks ls ds ks.length) = numsB (natsP ⟨true, ks, ls, ds⟩) := rfl
        rw [e0] at H hx
        repeat' (first | ((first | refine WL.p rfl ?_ | refine WL.u ?_); first | (refine opk 1 rfl ?_; first | (refine ost_O (A := wr _ _ _ _ _) H rfl (by (exact ixQ)) (fun HO => pack_All0 _ _ _ _ _ _ HO (by omega) rfl) rfl ?_; clear H; rintro vk wk hfk Lk ⟨a4, c4, rfl, _, rfl⟩ H; simp only [List.cons_append, List.nil_append, List.eraseIdx_cons_zero, List.eraseIdx_cons_succ] at H) | (refine ost_C H rfl (frame_WrapK _ _ _ (numsB (natsP ⟨true, ks, ls, ds⟩)) _ (sat_full _) (hT.full H) (H.own8rd (i := 0) rfl) (by omega)) rfl ?_; clear H; rintro vk wk hfk Lk ⟨a5, c5, rfl, _, rfl⟩ H; simp only [List.cons_append, List.nil_append] at H)) | refine pvQ ?_ | (refine opk 3 rfl ?_; (refine ost_cmp rfl rfl rfl rfl (fun hc => ?_) (fun hc => ?_) <;> (simp only [cmpP] at hc; try exact prIQ))) | (refine opk 4 rfl ?_; (refine ost_cmp rfl rfl rfl rfl (fun hc => ?_) (fun hc => ?_) <;> (simp only [cmpP] at hc; try exact prIQ))) | (refine opk 8 rfl ?_; (refine ost_storeW H rfl rfl rfl rfl lQ ixQ lQ okQ ?_; clear H; intro wk H; simp only [List.set_cons_zero, List.set_cons_succ, Nat.reduceAdd] at H)) | (refine opk 9 rfl ?_; first | (refine ost_boxq H rfl ?_; clear H; intro bk wk H) | (refine ost_allocA H rfl ?_; clear H; intro bk wk H))) | refine Wc.seq ?_ | refine then_n ?_ | refine WL.nil ?_ | refine Wc.region ?_ | refine Wc.block ?_ | refine then_r ?_ | refine then_e ?_ | refine inb_e rfl ?_ | refine inb_o rfl ?_ | refine inb_n ?_ | refine inb_r ?_ | refine Wc.skip ?_ | refine Wc.exit ?_ | refine Wc.ret ?_ | refine Wc.cond_true rfl ?_ | refine Wc.cond_false rfl ?_)
        exact fn_ret2 (v1 := .slice _ _ _) (v2 := .int _ _) rfl rfl rfl ⟨_, _, H.pick 0 rfl, _, _, rfl, rfl, rfl⟩
    | false =>
      have hs2 := (shapeP_F _ _ _).1 hs2
      repeat' (first | ((first | refine WL.p rfl ?_ | refine WL.u ?_); first | (refine opk 1 rfl ?_; first | (refine ost_V H rfl (hR _ H.sat hP) rfl ?_; clear H; intro wk H) | (refine ost_C H rfl (pack_New _ _ (sat_full _)) rfl ?_; clear H; rintro vk wk hfk Lk ⟨b1, rfl, rfl⟩ H; simp only [List.cons_append, List.nil_append] at H) | (refine ost_O (A := wr _ _ _ _ _) H rfl (by (exact ixQ)) (fun HO => pack_NumK _ _ _ _ _ HO 0 (by omega) (by decide)) rfl ?_; clear H; rintro vk wk hfk Lk ⟨rfl, v3, rfl⟩ H; simp only [List.cons_append, List.nil_append, List.eraseIdx_cons_zero, List.eraseIdx_cons_succ] at H) | (refine ost_O (A := wr _ _ _ _ _) H rfl (by (exact ixQ)) (fun HO => pack_NumK _ _ _ _ _ HO ks.length (by omega) (by omega)) rfl ?_; clear H; rintro vk wk hfk Lk ⟨rfl, v3, rfl⟩ H; simp only [List.cons_append, List.nil_append, List.eraseIdx_cons_zero, List.eraseIdx_cons_succ] at H)) | refine pvQ ?_ | (refine opk 3 rfl ?_; (refine ost_cmp rfl rfl rfl rfl (fun hc => ?_) (fun hc => ?_) <;> (simp only [cmpP] at hc; try exact prIQ))) | (refine opk 4 rfl ?_; (refine ost_cmp rfl rfl rfl rfl (fun hc => ?_) (fun hc => ?_) <;> (simp only [cmpP] at hc; try exact prIQ))) | (refine opk 8 rfl ?_; (refine ost_storeW H rfl rfl rfl rfl lQ ixQ lQ okQ ?_; clear H; intro wk H; simp only [List.set_cons_zero, List.set_cons_succ, Nat.reduceAdd] at H)) | (refine opk 9 rfl ?_; first | (refine ost_boxq H rfl ?_; clear H; intro bk wk H) | (refine ost_allocA H rfl ?_; clear H; intro bk wk H))) | refine Wc.seq ?_ | refine then_n ?_ | refine WL.nil ?_ | refine Wc.region ?_ | refine Wc.block ?_ | refine then_r ?_ | refine then_e ?_ | refine inb_e rfl ?_ | refine inb_o rfl ?_ | refine inb_n ?_ | refine inb_r ?_ | refine Wc.skip ?_ | refine Wc.exit ?_ | refine Wc.ret ?_ | refine Wc.cond_true rfl ?_ | refine Wc.cond_false rfl ?_)
      rw [numsR_zero 0 ks.length false ks ls ds] at H
      refine Wc.loopE (fun s0 m s w' => ∃ (k : Nat) (v : Value), m = ks.length - k ∧ k ≤ ks.length ∧ Agree [6, 7, 28, 29, 30, 31, 32, 33, 34, 35, 36, 37, 38, 39, 40, 41, 42, 43, 44, 45, 46, 47, 48, 49, 50, 51, 52, 53, 54, 55, 56, 57, 58, 59, 60, 61, 62, 63, 64, 65, 66, 67, 68, 69, 70, 71, 72, 73, 74, 75, 76, 77, 78, 79] s s0 ∧ s 28 = .int .i64 k ∧
        St w [] h0 h0 [wr b1 true 0 v (numsB (0 :: ks.length :: rowsP false ks ls ds k)), .blk bk (.cells (pgL false ks.length ls.length ds.length ak ck al cl ad cd).toArray 59 (0, 0))] w') ks.length ⟨0, _, rfl, by omega, Agree.refl _ _, rfl, H⟩ ?_
      clear H
      rintro m s w' ⟨k, v, rfl, hk, hA, e1, H⟩
      obtain ⟨j, rfl⟩ := hA.env1 e1
      clear hA e1
      have hx := numsR_len 0 ks.length false ks ls ds (k := k) (by omega)
      by_cases hlt : k < ks.length
      · obtain ⟨b, off, l, T, fr, e2, eb, eg⟩ := hP.k.getM (by decide) (Nat.lt_of_le_of_lt (Nat.zero_le _) hlt)
        obtain ⟨b3, off3, l3, T3, fr3, e3, eb3, eg3⟩ := hP.d.getM (by decide) (Nat.lt_of_lt_of_le (Nat.lt_of_le_of_lt (Nat.zero_le _) hlt) (Nat.le_of_eq hs2.2.2.1.symm))
        dsimp only at e2 eg e3 eg3
        subst e2; subst e3
        have hlt3 : k < ds.length := by omega
        have g1 := eg (k : Int).toNat k hlt (by omega)
        have g3 := eg3 (k : Int).toNat k hlt3 (by omega)
        have hrow := rowP_kid (ls := ls) hlt hlt3
        have hsucc := numsR_succ 0 ks.length false ks ls ds k
        rw [hrow] at hsucc
        clear hrow eg eg3
        have g4 : l3[off3 + (k : Int).toNat * 1]? = some (.int .u32 ds[k].toNat) := row_cell g3 (q := 0) (by simp [cLoc, cKid])
        generalize ks[k] = x at g1 hsucc
        generalize ds[k] = y at g4 hsucc
        have lx := cKey_len x
        have p1 := putB_len x.cart.toNat; have p2 := putB_len x.dot.rep.toNat; have p3 := putB_len x.dot.seq.toNat; have p4 := putB_len y.toNat
        have u1 := x.cart.toNat_lt; have u2 := x.dot.rep.toNat_lt; have u3 := x.dot.seq.toNat_lt; have u4 := y.toNat_lt
        repeat' (first | ((first | refine WL.p rfl ?_ | refine WL.u ?_); first | (refine opk 1 rfl ?_; (refine ost_O (A := wr _ _ _ _ _) H rfl (by (exact ixQ)) (fun HO => pack_NumK _ _ _ _ _ HO _ (by omega) (by (try simp only [List.length_append]); omega)) rfl ?_; clear H; rintro vk wk hfk Lk ⟨rfl, v3, rfl⟩ H; simp only [List.cons_append, List.nil_append, List.eraseIdx_cons_zero, List.eraseIdx_cons_succ] at H)) | refine pvQ ?_ | (refine opk 3 rfl ?_; (refine ost_cmp rfl rfl rfl rfl (fun hc => ?_) (fun hc => ?_) <;> (simp only [cmpP] at hc; try exact prIQ))) | (refine opk 4 rfl ?_; (refine ost_cmp rfl rfl rfl rfl (fun hc => ?_) (fun hc => ?_) <;> (simp only [cmpP] at hc; try exact prIQ))) | (refine opk 8 rfl ?_; (refine ost_storeW H rfl rfl rfl rfl lQ ixQ lQ okQ ?_; clear H; intro wk H; simp only [List.set_cons_zero, List.set_cons_succ, Nat.reduceAdd] at H)) | (refine opk 9 rfl ?_; first | (refine ost_boxq H rfl ?_; clear H; intro bk wk H) | (refine ost_allocA H rfl ?_; clear H; intro bk wk H))) | refine Wc.seq ?_ | refine then_n ?_ | refine WL.nil ?_ | refine Wc.region ?_ | refine Wc.block ?_ | refine then_r ?_ | refine then_e ?_ | refine inb_e rfl ?_ | refine inb_o rfl ?_ | refine inb_n ?_ | refine inb_r ?_ | refine Wc.skip ?_ | refine Wc.exit ?_ | refine Wc.ret ?_ | refine Wc.cond_true rfl ?_ | refine Wc.cond_false rfl ?_)
        refine ⟨ks.length - (k + 1), by omega, k + 1, v3, rfl, by omega, by (repeat' (first | exact Agree.refl _ _ | exact Agree.havoc | refine Agree.upd rfl ?_ | refine Agree.hav2 rfl ?_)), rfl, ?_⟩
        rw [hsucc]
        simp only [numsB_cons, numsB_nil, List.append_nil, ← List.append_assoc]
        simp only [numsB_cons, ← List.append_assoc] at H
        exact H.pick2 0 2 rfl rfl (by decide)
      · obtain rfl : k = ks.length := by omega
        have e0 : numsB (0 :: ks.length :: rowsP false ks ls ds ks.length) = numsB (natsP ⟨false, ks, ls, ds⟩) := rfl
        rw [e0] at H hx
        repeat' (first | ((first | refine WL.p rfl ?_ | refine WL.u ?_); first | (refine opk 1 rfl ?_; first | (refine ost_O (A := wr _ _ _ _ _) H rfl (by (exact ixQ)) (fun HO => pack_All0 _ _ _ _ _ _ HO (by omega) rfl) rfl ?_; clear H; rintro vk wk hfk Lk ⟨a4, c4, rfl, _, rfl⟩ H; simp only [List.cons_append, List.nil_append, List.eraseIdx_cons_zero, List.eraseIdx_cons_succ] at H) | (refine ost_C H rfl (frame_WrapK _ _ _ (numsB (natsP ⟨false, ks, ls, ds⟩)) _ (sat_full _) (hT.full H) (H.own8rd (i := 0) rfl) (by omega)) rfl ?_; clear H; rintro vk wk hfk Lk ⟨a5, c5, rfl, _, rfl⟩ H; simp only [List.cons_append, List.nil_append] at H)) | refine pvQ ?_ | (refine opk 3 rfl ?_; (refine ost_cmp rfl rfl rfl rfl (fun hc => ?_) (fun hc => ?_) <;> (simp only [cmpP] at hc; try exact prIQ))) | (refine opk 4 rfl ?_; (refine ost_cmp rfl rfl rfl rfl (fun hc => ?_) (fun hc => ?_) <;> (simp only [cmpP] at hc; try exact prIQ))) | (refine opk 8 rfl ?_; (refine ost_storeW H rfl rfl rfl rfl lQ ixQ lQ okQ ?_; clear H; intro wk H; simp only [List.set_cons_zero, List.set_cons_succ, Nat.reduceAdd] at H)) | (refine opk 9 rfl ?_; first | (refine ost_boxq H rfl ?_; clear H; intro bk wk H) | (refine ost_allocA H rfl ?_; clear H; intro bk wk H))) | refine Wc.seq ?_ | refine then_n ?_ | refine WL.nil ?_ | refine Wc.region ?_ | refine Wc.block ?_ | refine then_r ?_ | refine then_e ?_ | refine inb_e rfl ?_ | refine inb_o rfl ?_ | refine inb_n ?_ | refine inb_r ?_ | refine Wc.skip ?_ | refine Wc.exit ?_ | refine Wc.ret ?_ | refine Wc.cond_true rfl ?_ | refine Wc.cond_false rfl ?_)
        exact fn_ret2 (v1 := .slice _ _ _) (v2 := .int _ _) rfl rfl rfl ⟨_, _, H.pick 0 rfl, _, _, rfl, rfl, rfl⟩
end Go.Tg

set_option linter.unusedVariables false
set_option linter.unusedSimpArgs false
set_option maxRecDepth 100000
set_option maxHeartbeats 4000000
namespace Go.Tg
open Go Go.Proofs
def cN (l : List Nat) : List Value := l.map fun (n : Nat) => Value.int .u64 (n : Int)
theorem numsB_step (l : List Nat) {k : Nat} (h : k < l.length) : numsB (l.take (k + 1)) = numsB (l.take k) ++ putB l[k] := by
  rw [List.take_add_one, List.getElem?_eq_getElem h, numsB_app]; simp [numsB]
theorem r13_nums (av : Option Addr) (cv : Nat) (xs : List UInt8) (l : List Nat) (a : Option Addr) (c n : Nat) (g : FH) (w : World) (HO : St w (own8 (.slice av xs.length cv) 5 xs).fp g g [own8 (.slice av xs.length cv) 5 xs] w)
    (hr : RdC g a (cN l)) (hn : n = l.length) (hl : ∀ n, n ∈ l → n < 18446744073709551616) (hb : xs.length ≤ 100000) (hb2 : l.length ≤ 1000) :
    Spec Tryd.prog 76 #[.slice av xs.length cv, .slice a n c] w (own8 (.slice av xs.length cv) 5 xs).fp g (fun v h' L' => ∃ a' c', v = .slice a' (xs ++ numsB l).length c' ∧ L' = [own8 (.slice a' (xs ++ numsB l).length c') 5 (xs ++ numsB l)]) := by
  have H := HO
  subst hn
  unfold Spec
  refine calls_of Tryd.func76 rfl Tryd.ntmps76 (by simp) ?_
  repeat' (first | ((first | refine WL.p rfl ?_ | refine WL.u ?_); first | refine pvQ ?_ | (refine opk 3 rfl ?_; (refine ost_cmp rfl rfl rfl rfl (fun hc => ?_) (fun hc => ?_) <;> (simp only [cmpP] at hc; try exact prIQ))) | (refine opk 4 rfl ?_; (refine ost_cmp rfl rfl rfl rfl (fun hc => ?_) (fun hc => ?_) <;> (simp only [cmpP] at hc; try exact prIQ)))) | refine Wc.seq ?_ | refine then_n ?_ | refine WL.nil ?_ | refine Wc.region ?_ | refine Wc.block ?_ | refine then_r ?_ | refine then_e ?_ | refine inb_e rfl ?_ | refine inb_o rfl ?_ | refine inb_n ?_ | refine inb_r ?_ | refine Wc.skip ?_ | refine Wc.exit ?_ | refine Wc.ret ?_ | refine Wc.cond_true rfl ?_ | refine Wc.cond_false rfl ?_)
  refine Wc.loopE (fun s0 m s w' => ∃ (k : Nat) (a2 : Option Addr) (c2 : Nat), m = l.length - k ∧ k ≤ l.length ∧ Agree [0, 5, 6, 7, 8, 9, 10, 11, 12, 13, 14, 15, 16, 17, 18] s s0 ∧ s 5 = .int .i64 k ∧ s 0 = .slice a2 (xs ++ numsB (l.take k)).length c2 ∧
    St w (own8 (.slice av xs.length cv) 5 xs).fp g g [own8 (.slice a2 (xs ++ numsB (l.take k)).length c2) 5 (xs ++ numsB (l.take k))] w') l.length ⟨0, av, cv, rfl, by omega, Agree.refl _ _, rfl, by rw [List.take_zero, show numsB [] = [] from rfl, List.append_nil]; rfl, by simpa [numsB] using H⟩ ?_
  clear H
  rintro m s w' ⟨k, a2, c2, rfl, hk, hA, e1, e2, H⟩
  obtain ⟨j, rfl⟩ := hA.env2 e1 e2
  clear hA e1 e2
  have hL := numsB_len (l.take k)
  have hL2 : (l.take k).length ≤ l.length := by simp; omega
  have hL3 : (xs ++ numsB (l.take k)).length ≤ 200000 := by rw [List.length_append]; omega
  by_cases hlt : k < l.length
  · obtain ⟨b, off, ll, T, fr, rfl, eb, eg⟩ := hr.get (i := k) (by simp [cN]; exact hlt)
    have g1 : ll[off + (k : Int).toNat * 1]? = some (.int .u64 l[k]) := by
      rw [show off + (k : Int).toNat * 1 = off + k by omega, eg k (by simp [cN]; exact hlt)]; simp [cN, hlt]
    have hm := hl l[k] (List.getElem_mem hlt)
    have hs1 := numsB_step l hlt
    have hp := putB_len l[k]
    generalize l[k] = x at g1 hm hs1 hp
    repeat' (first | ((first | refine WL.p rfl ?_ | refine WL.u ?_); first | (refine opk 1 rfl ?_; first | (refine ost_C H rfl (r2_Put x hm _ _ (sat_full _)) rfl ?_; clear H; rintro vk wk hfk Lk ⟨a3, c3, rfl, _, rfl⟩ H; simp only [List.cons_append, List.nil_append] at H) | (refine ost_app8 (xs := xs ++ numsB (l.take k)) H rfl rfl rfl (by (exact ixQ)) (H.own8rd (i := 0) rfl) (by (try simp only [List.length_nil, List.length_append, List.length_cons, List.length_singleton]); omega) ?_; clear H; intro aa ca wk H; simp only [List.set_cons_zero, List.set_cons_succ, List.nil_append] at H)) | refine pvQ ?_ | (refine opk 3 rfl ?_; (refine ost_cmp rfl rfl rfl rfl (fun hc => ?_) (fun hc => ?_) <;> (simp only [cmpP] at hc; try exact prIQ))) | (refine opk 4 rfl ?_; (refine ost_cmp rfl rfl rfl rfl (fun hc => ?_) (fun hc => ?_) <;> (simp only [cmpP] at hc; try exact prIQ)))) | refine Wc.seq ?_ | refine then_n ?_ | refine WL.nil ?_ | refine Wc.region ?_ | refine Wc.block ?_ | refine then_r ?_ | refine then_e ?_ | refine inb_e rfl ?_ | refine inb_o rfl ?_ | refine inb_n ?_ | refine inb_r ?_ | refine Wc.skip ?_ | refine Wc.exit ?_ | refine Wc.ret ?_ | refine Wc.cond_true rfl ?_ | refine Wc.cond_false rfl ?_)
    refine ⟨l.length - (k + 1), by omega, k + 1, aa, ca, rfl, by omega, by (repeat' (first | exact Agree.refl _ _ | exact Agree.havoc | refine Agree.upd rfl ?_ | refine Agree.hav2 rfl ?_)), rfl, ?_, ?_⟩
    · rw [hs1, ← List.append_assoc]; rfl
    · rw [hs1, ← List.append_assoc]; exact H.tl
  · obtain rfl : k = l.length := by omega
    rw [List.take_length] at H ⊢
    repeat' (first | ((first | refine WL.p rfl ?_ | refine WL.u ?_); first | refine pvQ ?_ | (refine opk 3 rfl ?_; (refine ost_cmp rfl rfl rfl rfl (fun hc => ?_) (fun hc => ?_) <;> (simp only [cmpP] at hc; try exact prIQ))) | (refine opk 4 rfl ?_; (refine ost_cmp rfl rfl rfl rfl (fun hc => ?_) (fun hc => ?_) <;> (simp only [cmpP] at hc; try exact prIQ)))) | refine Wc.seq ?_ | refine then_n ?_ | refine WL.nil ?_ | refine Wc.region ?_ | refine Wc.block ?_ | refine then_r ?_ | refine then_e ?_ | refine inb_e rfl ?_ | refine inb_o rfl ?_ | refine inb_n ?_ | refine inb_r ?_ | refine Wc.skip ?_ | refine Wc.exit ?_ | refine Wc.ret ?_ | refine Wc.cond_true rfl ?_ | refine Wc.cond_false rfl ?_)
    exact fn_ret1 (v := .slice _ _ _) rfl rfl ⟨_, _, H, _, _, rfl, rfl⟩
theorem r13_bytes (p : PageT) (A : PAd) (h0 : FH) (w : World) (hs : Sat h0 w) (hP : PgR h0 p A) (hr : rightP p = true) :
    Spec Tryd.prog 65 #[.agg (pgV p A).toArray] w [] h0 (fun v h' L' => ∃ a' c', v = .slice a' (encP p).length c' ∧ h' = h0 ∧ L' = [own8 v 5 (encP p)]) := by
  have H := St.start hs
  obtain ⟨hs1, hs2⟩ := rightP_iff.1 hr
  clear hr
  obtain ⟨lf, ks, ls, ds⟩ := p
  obtain ⟨ak, ck, al, cl, ad, cd⟩ := A
  have e : pgV ⟨lf, ks, ls, ds⟩ ⟨ak, ck, al, cl, ad, cd⟩ = pgL lf ks.length ls.length ds.length ak ck al cl ad cd := rfl
  rw [e]
  have lp : (pgL lf ks.length ls.length ds.length ak ck al cl ad cd).length = 4 := rfl
  have q1 := hP.k.lenM
  have q2 := hP.l.lenM
  have q3 := hP.d.lenM
  dsimp only at q1 q2 q3
  unfold Spec
  refine calls_of Tryd.func65 rfl Tryd.ntmps65 (by simp) ?_
  cases lf with
  | true =>
    have hs2 := (shapeP_T _ _ _).1 hs2
    repeat' (first | ((first | refine WL.p rfl ?_ | refine WL.u ?_); first | (refine opk 1 rfl ?_; (refine ost_O H rfl idx1 (fun HO => r13_nums _ _ [] [1, ks.length] _ _ _ _ _ HO (H.lessRd idx1 idx0 (by decide)) rfl (by simp; omega) (by decide) (by simp)) rfl ?_; clear H; rintro vk wk hfk Lk ⟨a9, c9, rfl, rfl⟩ H; simp only [List.cons_append, List.nil_append, List.eraseIdx_cons_zero, List.eraseIdx_cons_succ] at H)) | refine pvQ ?_ | (refine opk 3 rfl ?_; (refine ost_cmp rfl rfl rfl rfl (fun hc => ?_) (fun hc => ?_) <;> (simp only [cmpP] at hc; try exact prIQ))) | (refine opk 4 rfl ?_; (refine ost_cmp rfl rfl rfl rfl (fun hc => ?_) (fun hc => ?_) <;> (simp only [cmpP] at hc; try exact prIQ))) | (refine opk 8 rfl ?_; (refine ost_storeW H rfl rfl rfl rfl lQ ixQ lQ okQ ?_; clear H; intro wk H; simp only [List.set_cons_zero, List.set_cons_succ, Nat.reduceAdd] at H)) | (refine opk 9 rfl ?_; first | (refine ost_boxq H rfl ?_; clear H; intro bk wk H) | (refine ost_allocA H rfl ?_; clear H; intro bk wk H) | (refine ost_build1 H rfl rfl rfl evQ lsQ rfl ?_; clear H; intro bk wk H))) | refine Wc.seq ?_ | refine then_n ?_ | refine WL.nil ?_ | refine Wc.region ?_ | refine Wc.block ?_ | refine then_r ?_ | refine then_e ?_ | refine inb_e rfl ?_ | refine inb_o rfl ?_ | refine inb_n ?_ | refine inb_r ?_ | refine Wc.skip ?_ | refine Wc.exit ?_ | refine Wc.ret ?_ | refine Wc.cond_true rfl ?_ | refine Wc.cond_false rfl ?_ | (refine Wc.drawn (id := 11) 16 (by kernel_rfl) ?_) | (refine rgs_nil ?_; intro vs wk hE; replace H := H.ext hE; clear hE) | (refine RGs.bq (fun _ => rfl) rfl (by intro vs w hE hP; have H := H.ext hE; first | exact dbQ | fail) (fun hc => ?_) (fun hc => ?_) <;> ((try simp only [cmpP, decide_eq_true_eq, decide_eq_false_iff_not, dcd_iff, dcd_no] at hc); try exact prDQ)) | refine RGs.pq (fun _ => rfl) rfl (by intro vs w hE hP; have H := H.ext hE; first | exact dvQ | fail) ?_)
    obtain ⟨bp, ebp⟩ := H.nameB idx2
    subst ebp
    have e0 : [] ++ numsB [1, ks.length] = numsB (1 :: ks.length :: rowsP true ks ls ds 0) := rfl
    simp only [List.nil_append] at e0
    refine Wc.loopE (fun s0 m s w' => ∃ (k : Nat) (a1 : Option Addr) (c1 : Nat), m = ks.length - k ∧ k ≤ ks.length ∧ Agree [4, 5, 6, 19, 20, 21, 22, 23, 24, 25, 26, 27, 28, 29, 30, 31, 32, 33, 34, 35, 36, 37, 38, 39, 40, 41, 42, 43, 44, 45, 46, 47, 48, 49, 50, 51, 52, 53, 54, 55, 56, 57, 58, 59, 60, 61, 62, 63, 64, 65, 66, 67, 68, 69, 70, 71, 72] s s0 ∧ s 5 = .int .i64 k ∧ s 4 = .slice a1 (numsB (1 :: ks.length :: rowsP true ks ls ds k)).length c1 ∧
      St w [] h0 h0 [own8 (.slice a1 (numsB (1 :: ks.length :: rowsP true ks ls ds k)).length c1) 5 (numsB (1 :: ks.length :: rowsP true ks ls ds k)), .blk bp (.cells (pgL true ks.length ls.length ds.length ak ck al cl ad cd).toArray 134 (0, 0))] w') ks.length ⟨0, a9, c9, rfl, by omega, Agree.refl _ _, rfl, rfl, H.pick2 0 2 rfl rfl (by decide)⟩ ?_
    clear H
    rintro m s w' ⟨k, a1, c1, rfl, hk, hA, e1, e2, H⟩
    obtain ⟨j, rfl⟩ := hA.env2 e1 e2
    clear hA e1 e2
    have hx := numsR_len 1 ks.length true ks ls ds (k := k) (by omega)
    by_cases hlt : k < ks.length
    · obtain ⟨b, off, l, T, fr, e2, eb, eg⟩ := hP.k.getM (by decide) (Nat.lt_of_le_of_lt (Nat.zero_le _) hlt)
      obtain ⟨b3, off3, l3, T3, fr3, e3, eb3, eg3⟩ := hP.l.getM (by decide) (Nat.lt_of_lt_of_le (Nat.lt_of_le_of_lt (Nat.zero_le _) hlt) (Nat.le_of_eq hs2.2.1.symm))
      dsimp only at e2 eg e3 eg3
      subst e2; subst e3
      have hlt3 : k < ls.length := by omega
      have g1 := eg (k : Int).toNat k hlt (by omega)
      have g3 := eg3 (k : Int).toNat k hlt3 (by omega)
      have hrow := rowP_leaf (ds := ds) hlt hlt3
      have hsucc := numsR_succ 1 ks.length true ks ls ds k
      rw [hrow] at hsucc
      clear hrow eg eg3
      have g4 : l3[off3 + (k : Int).toNat * 2 + 0]? = some (.int .u32 ls[k].seg.toNat) := row_cell g3 (q := 0) (by simp [cLoc])
      have g5 : l3[off3 + (k : Int).toNat * 2 + 1]? = some (.int .u32 ls[k].at_.toNat) := row_cell g3 (q := 1) (by simp [cLoc])
      generalize ks[k] = x at g1 hsucc
      generalize ls[k] = y at g4 g5 hsucc
      have u4 := y.seg.toNat_lt; have u5 := y.at_.toNat_lt
      have lx := cKey_len x
      have u1 := x.cart.toNat_lt; have u2 := x.dot.rep.toNat_lt; have u3 := x.dot.seq.toNat_lt
      rw [show [x.cart.toNat, x.dot.rep.toNat, x.dot.seq.toNat, y.seg.toNat, y.at_.toNat] = [x.cart.toNat, x.dot.rep.toNat, x.dot.seq.toNat] ++ [y.seg.toNat, y.at_.toNat] from rfl] at hsucc
      generalize hX : numsB (1 :: ks.length :: rowsP true ks ls ds k) = X at H hx hsucc
      have hl1 := numsB_len [x.cart.toNat, x.dot.rep.toNat, x.dot.seq.toNat]
      simp only [List.length_cons, List.length_nil] at hl1
      repeat' (first | ((first | refine WL.p rfl ?_ | refine WL.u ?_); first | (refine opk 1 rfl ?_; first | (refine ost_O H rfl idx2 (fun HO => r13_nums _ _ X [x.cart.toNat, x.dot.rep.toNat, x.dot.seq.toNat] _ _ _ _ _ HO (H.lessRd idx2 idx0 (by decide)) rfl (by simp; omega) (by omega) (by simp)) rfl ?_; clear H; rintro vk wk hfk Lk ⟨a8, c8, rfl, rfl⟩ H; simp only [List.cons_append, List.nil_append, List.eraseIdx_cons_zero, List.eraseIdx_cons_succ] at H) | (refine ost_O H rfl idx0 (fun HO => r13_nums _ _ (X ++ numsB [x.cart.toNat, x.dot.rep.toNat, x.dot.seq.toNat]) [y.seg.toNat, y.at_.toNat] _ _ _ _ _ HO (H.lessRd idx0 idx4 (by decide)) rfl (by simp; omega) (by simp only [List.length_append]; omega) (by simp)) rfl ?_; clear H; rintro vk wk hfk Lk ⟨a8, c8, rfl, rfl⟩ H; simp only [List.cons_append, List.nil_append, List.eraseIdx_cons_zero, List.eraseIdx_cons_succ] at H)) | refine pvQ ?_ | (refine opk 3 rfl ?_; (refine ost_cmp rfl rfl rfl rfl (fun hc => ?_) (fun hc => ?_) <;> (simp only [cmpP] at hc; try exact prIQ))) | (refine opk 4 rfl ?_; (refine ost_cmp rfl rfl rfl rfl (fun hc => ?_) (fun hc => ?_) <;> (simp only [cmpP] at hc; try exact prIQ))) | (refine opk 8 rfl ?_; (refine ost_storeW H rfl rfl rfl rfl lQ ixQ lQ okQ ?_; clear H; intro wk H; simp only [List.set_cons_zero, List.set_cons_succ, Nat.reduceAdd] at H)) | (refine opk 9 rfl ?_; first | (refine ost_boxq H rfl ?_; clear H; intro bk wk H) | (refine ost_allocA H rfl ?_; clear H; intro bk wk H) | (refine ost_build1 H rfl rfl rfl evQ lsQ rfl ?_; clear H; intro bk wk H))) | refine Wc.seq ?_ | refine then_n ?_ | refine WL.nil ?_ | refine Wc.region ?_ | refine Wc.block ?_ | refine then_r ?_ | refine then_e ?_ | refine inb_e rfl ?_ | refine inb_o rfl ?_ | refine inb_n ?_ | refine inb_r ?_ | refine Wc.skip ?_ | refine Wc.exit ?_ | refine Wc.ret ?_ | refine Wc.cond_true rfl ?_ | refine Wc.cond_false rfl ?_ | (refine Wc.drawM (id := 11) 16 [(15, [], fun v L' => ∃ b, v = Value.slice (some ⟨b, 0, none⟩) 2 2 ∧ L' = [.own (Value.slice (some ⟨b, 0, none⟩) 2 2) 23 1 2 (cN [y.seg.toNat, y.at_.toNat])])] [own8 _ _ _, .own _ _ _ _ _, .blk _ _, .blk _ _] [15] H (by kernel_rfl) rfl (by kernel_rfl) (by simp only [inpL, List.nil_append, List.cons_append, List.append_nil]; first | exact List.Perm.refl _ | exact List.Perm.swap _ _ _ | exact (List.Perm.swap _ _ _).trans ((List.Perm.swap _ _ _).cons _) | exact ((List.Perm.swap _ _ _).cons _) | exact ((List.Perm.swap _ _ _).cons _).trans (List.Perm.swap _ _ _)) ?_) | (refine rgm_nil ?_; intro vs wk outs HM hR; obtain ⟨v9, ⟨b9_15, e9, o9⟩, h9⟩ := hR 15 _ rfl; have hv9 : vs (0 + 1 + 1 + 1 + 1 + 1 + 1 + 1 + 1 + 1 + 1 + 1 + 1 + 1 + 1 + 1) = _ := (h9 (by kernel_rfl)).trans e9; simp only [outsL, o9, List.cons_append, List.nil_append, List.append_nil] at HM; (try dsimp only); rw [hv9]; replace H := HM; clear HM hR) | (refine RGm.bq (fun _ => rfl) rfl (by intro vs w TT hP H; simp only [List.cons_append, List.nil_append] at H; first | exact dbQ | fail) (fun hc => ?_) (fun hc => ?_) <;> ((try simp only [cmpP, decide_eq_true_eq, decide_eq_false_iff_not, dcd_iff, dcd_no] at hc); try exact prDQ)) | refine RGm.pq (fun _ => rfl) rfl (by intro vs w TT hP H; simp only [List.cons_append, List.nil_append] at H; first | exact dvQ | fail) ?_ | refine RGm.mq (fun _ => rfl) rfl (by intro vs w TT hP H; simp only [List.cons_append, List.nil_append] at H; first | (refine ost_build1 H rfl rfl rfl evQ lsQ rfl ?_; intro bk wk H2; exact ⟨[_], ⟨_, rfl, rfl⟩, H2⟩) | fail) ?_ | refine RGm.mu rfl (by intro vs w TT hP H; simp only [List.cons_append, List.nil_append] at H; first | (refine ost_build1 H rfl rfl rfl evQ lsQ rfl ?_; intro bk wk H2; exact ⟨[_], ⟨_, rfl, rfl⟩, H2⟩) | fail) ?_)
      refine ⟨ks.length - (k + 1), by omega, k + 1, a8, c8, rfl, by omega, by (repeat' (first | exact Agree.refl _ _ | exact Agree.havoc | refine Agree.upd rfl ?_ | refine Agree.hav2 rfl ?_)), rfl, ?_, ?_⟩
      · rw [hsucc, show numsB ([x.cart.toNat, x.dot.rep.toNat, x.dot.seq.toNat] ++ [y.seg.toNat, y.at_.toNat]) = numsB [x.cart.toNat, x.dot.rep.toNat, x.dot.seq.toNat] ++ numsB [y.seg.toNat, y.at_.toNat] from numsB_app _ _, ← List.append_assoc]; rfl
      · rw [hsucc, show numsB ([x.cart.toNat, x.dot.rep.toNat, x.dot.seq.toNat] ++ [y.seg.toNat, y.at_.toNat]) = numsB [x.cart.toNat, x.dot.rep.toNat, x.dot.seq.toNat] ++ numsB [y.seg.toNat, y.at_.toNat] from numsB_app _ _, ← List.append_assoc]; exact H.pick2 0 3 rfl rfl (by decide)
    · obtain rfl : k = ks.length := by omega
      have e9 : numsB (1 :: ks.length :: rowsP true ks ls ds ks.length) = numsB (natsP ⟨true, ks, ls, ds⟩) := rfl
      rw [e9] at H hx ⊢
      repeat' (first | ((first | refine WL.p rfl ?_ | refine WL.u ?_); first | (refine opk 1 rfl ?_; (refine ost_C H rfl (r10_Wrapn _ _ _ _ (numsB (natsP ⟨true, ks, ls, ds⟩)) _ (sat_full _) rfl (by omega) (H.own8rd (i := 0) rfl)) rfl ?_; clear H; rintro vk wk hfk Lk ⟨a5, c5, rfl, _, rfl⟩ H; simp only [List.cons_append, List.nil_append] at H)) | refine pvQ ?_ | (refine opk 3 rfl ?_; (refine ost_cmp rfl rfl rfl rfl (fun hc => ?_) (fun hc => ?_) <;> (simp only [cmpP] at hc; try exact prIQ))) | (refine opk 4 rfl ?_; (refine ost_cmp rfl rfl rfl rfl (fun hc => ?_) (fun hc => ?_) <;> (simp only [cmpP] at hc; try exact prIQ))) | (refine opk 8 rfl ?_; (refine ost_storeW H rfl rfl rfl rfl lQ ixQ lQ okQ ?_; clear H; intro wk H; simp only [List.set_cons_zero, List.set_cons_succ, Nat.reduceAdd] at H)) | (refine opk 9 rfl ?_; first | (refine ost_boxq H rfl ?_; clear H; intro bk wk H) | (refine ost_allocA H rfl ?_; clear H; intro bk wk H) | (refine ost_build1 H rfl rfl rfl evQ lsQ rfl ?_; clear H; intro bk wk H))) | refine Wc.seq ?_ | refine then_n ?_ | refine WL.nil ?_ | refine Wc.region ?_ | refine Wc.block ?_ | refine then_r ?_ | refine then_e ?_ | refine inb_e rfl ?_ | refine inb_o rfl ?_ | refine inb_n ?_ | refine inb_r ?_ | refine Wc.skip ?_ | refine Wc.exit ?_ | refine Wc.ret ?_ | refine Wc.cond_true rfl ?_ | refine Wc.cond_false rfl ?_ | (refine Wc.drawn (id := 11) 16 (by kernel_rfl) ?_) | (refine rgs_nil ?_; intro vs wk hE; replace H := H.ext hE; clear hE) | (refine RGs.bq (fun _ => rfl) rfl (by intro vs w hE hP; have H := H.ext hE; first | exact dbQ | fail) (fun hc => ?_) (fun hc => ?_) <;> ((try simp only [cmpP, decide_eq_true_eq, decide_eq_false_iff_not, dcd_iff, dcd_no] at hc); try exact prDQ)) | refine RGs.pq (fun _ => rfl) rfl (by intro vs w hE hP; have H := H.ext hE; first | exact dvQ | fail) ?_)
      exact fn_ret1 (v := .slice _ _ _) rfl rfl ⟨_, _, H.pick 0 rfl, _, _, rfl, rfl, rfl⟩
  | false =>
    have hs2 := (shapeP_F _ _ _).1 hs2
    repeat' (first | ((first | refine WL.p rfl ?_ | refine WL.u ?_); first | (refine opk 1 rfl ?_; (refine ost_O H rfl idx1 (fun HO => r13_nums _ _ [] [0, ks.length] _ _ _ _ _ HO (H.lessRd idx1 idx0 (by decide)) rfl (by simp; omega) (by decide) (by simp)) rfl ?_; clear H; rintro vk wk hfk Lk ⟨a9, c9, rfl, rfl⟩ H; simp only [List.cons_append, List.nil_append, List.eraseIdx_cons_zero, List.eraseIdx_cons_succ] at H)) | refine pvQ ?_ | (refine opk 3 rfl ?_; (refine ost_cmp rfl rfl rfl rfl (fun hc => ?_) (fun hc => ?_) <;> (simp only [cmpP] at hc; try exact prIQ))) | (refine opk 4 rfl ?_; (refine ost_cmp rfl rfl rfl rfl (fun hc => ?_) (fun hc => ?_) <;> (simp only [cmpP] at hc; try exact prIQ))) | (refine opk 8 rfl ?_; (refine ost_storeW H rfl rfl rfl rfl lQ ixQ lQ okQ ?_; clear H; intro wk H; simp only [List.set_cons_zero, List.set_cons_succ, Nat.reduceAdd] at H)) | (refine opk 9 rfl ?_; first | (refine ost_boxq H rfl ?_; clear H; intro bk wk H) | (refine ost_allocA H rfl ?_; clear H; intro bk wk H) | (refine ost_build1 H rfl rfl rfl evQ lsQ rfl ?_; clear H; intro bk wk H))) | refine Wc.seq ?_ | refine then_n ?_ | refine WL.nil ?_ | refine Wc.region ?_ | refine Wc.block ?_ | refine then_r ?_ | refine then_e ?_ | refine inb_e rfl ?_ | refine inb_o rfl ?_ | refine inb_n ?_ | refine inb_r ?_ | refine Wc.skip ?_ | refine Wc.exit ?_ | refine Wc.ret ?_ | refine Wc.cond_true rfl ?_ | refine Wc.cond_false rfl ?_ | (refine Wc.drawn (id := 11) 16 (by kernel_rfl) ?_) | (refine rgs_nil ?_; intro vs wk hE; replace H := H.ext hE; clear hE) | (refine RGs.bq (fun _ => rfl) rfl (by intro vs w hE hP; have H := H.ext hE; first | exact dbQ | fail) (fun hc => ?_) (fun hc => ?_) <;> ((try simp only [cmpP, decide_eq_true_eq, decide_eq_false_iff_not, dcd_iff, dcd_no] at hc); try exact prDQ)) | refine RGs.pq (fun _ => rfl) rfl (by intro vs w hE hP; have H := H.ext hE; first | exact dvQ | fail) ?_)
    obtain ⟨bp, ebp⟩ := H.nameB idx2
    subst ebp
    have e0 : [] ++ numsB [0, ks.length] = numsB (0 :: ks.length :: rowsP false ks ls ds 0) := rfl
    simp only [List.nil_append] at e0
    refine Wc.loopE (fun s0 m s w' => ∃ (k : Nat) (a1 : Option Addr) (c1 : Nat), m = ks.length - k ∧ k ≤ ks.length ∧ Agree [4, 5, 6, 19, 20, 21, 22, 23, 24, 25, 26, 27, 28, 29, 30, 31, 32, 33, 34, 35, 36, 37, 38, 39, 40, 41, 42, 43, 44, 45, 46, 47, 48, 49, 50, 51, 52, 53, 54, 55, 56, 57, 58, 59, 60, 61, 62, 63, 64, 65, 66, 67, 68, 69, 70, 71, 72] s s0 ∧ s 5 = .int .i64 k ∧ s 4 = .slice a1 (numsB (0 :: ks.length :: rowsP false ks ls ds k)).length c1 ∧
      St w [] h0 h0 [own8 (.slice a1 (numsB (0 :: ks.length :: rowsP false ks ls ds k)).length c1) 5 (numsB (0 :: ks.length :: rowsP false ks ls ds k)), .blk bp (.cells (pgL false ks.length ls.length ds.length ak ck al cl ad cd).toArray 134 (0, 0))] w') ks.length ⟨0, a9, c9, rfl, by omega, Agree.refl _ _, rfl, rfl, H.pick2 0 2 rfl rfl (by decide)⟩ ?_
    clear H
    rintro m s w' ⟨k, a1, c1, rfl, hk, hA, e1, e2, H⟩
    obtain ⟨j, rfl⟩ := hA.env2 e1 e2
    clear hA e1 e2
    have hx := numsR_len 0 ks.length false ks ls ds (k := k) (by omega)
    by_cases hlt : k < ks.length
    · obtain ⟨b, off, l, T, fr, e2, eb, eg⟩ := hP.k.getM (by decide) (Nat.lt_of_le_of_lt (Nat.zero_le _) hlt)
      obtain ⟨b3, off3, l3, T3, fr3, e3, eb3, eg3⟩ := hP.d.getM (by decide) (Nat.lt_of_lt_of_le (Nat.lt_of_le_of_lt (Nat.zero_le _) hlt) (Nat.le_of_eq hs2.2.2.1.symm))
      dsimp only at e2 eg e3 eg3
      subst e2; subst e3
      have hlt3 : k < ds.length := by omega
      have g1 := eg (k : Int).toNat k hlt (by omega)
      have g3 := eg3 (k : Int).toNat k hlt3 (by omega)
      have hrow := rowP_kid (ls := ls) hlt hlt3
      have hsucc := numsR_succ 0 ks.length false ks ls ds k
      rw [hrow] at hsucc
      clear hrow eg eg3
      have g4 : l3[off3 + (k : Int).toNat * 1]? = some (.int .u32 ds[k].toNat) := row_cell g3 (q := 0) (by simp [cKid])
      generalize ks[k] = x at g1 hsucc
      generalize ds[k] = y at g4 hsucc
      have u4 := y.toNat_lt
      have lx := cKey_len x
      have u1 := x.cart.toNat_lt; have u2 := x.dot.rep.toNat_lt; have u3 := x.dot.seq.toNat_lt
      rw [show [x.cart.toNat, x.dot.rep.toNat, x.dot.seq.toNat, y.toNat] = [x.cart.toNat, x.dot.rep.toNat, x.dot.seq.toNat] ++ [y.toNat] from rfl] at hsucc
      generalize hX : numsB (0 :: ks.length :: rowsP false ks ls ds k) = X at H hx hsucc
      have hl1 := numsB_len [x.cart.toNat, x.dot.rep.toNat, x.dot.seq.toNat]
      simp only [List.length_cons, List.length_nil] at hl1
      repeat' (first | ((first | refine WL.p rfl ?_ | refine WL.u ?_); first | (refine opk 1 rfl ?_; first | (refine ost_O H rfl idx2 (fun HO => r13_nums _ _ X [x.cart.toNat, x.dot.rep.toNat, x.dot.seq.toNat] _ _ _ _ _ HO (H.lessRd idx2 idx0 (by decide)) rfl (by simp; omega) (by omega) (by simp)) rfl ?_; clear H; rintro vk wk hfk Lk ⟨a8, c8, rfl, rfl⟩ H; simp only [List.cons_append, List.nil_append, List.eraseIdx_cons_zero, List.eraseIdx_cons_succ] at H) | (refine ost_O H rfl idx1 (fun HO => r13_nums _ _ (X ++ numsB [x.cart.toNat, x.dot.rep.toNat, x.dot.seq.toNat]) [y.toNat] _ _ _ _ _ HO (H.lessRd idx1 idx0 (by decide)) rfl (by simp; omega) (by simp only [List.length_append]; omega) (by simp)) rfl ?_; clear H; rintro vk wk hfk Lk ⟨a8, c8, rfl, rfl⟩ H; simp only [List.cons_append, List.nil_append, List.eraseIdx_cons_zero, List.eraseIdx_cons_succ] at H)) | refine pvQ ?_ | (refine opk 3 rfl ?_; (refine ost_cmp rfl rfl rfl rfl (fun hc => ?_) (fun hc => ?_) <;> (simp only [cmpP] at hc; try exact prIQ))) | (refine opk 4 rfl ?_; (refine ost_cmp rfl rfl rfl rfl (fun hc => ?_) (fun hc => ?_) <;> (simp only [cmpP] at hc; try exact prIQ))) | (refine opk 8 rfl ?_; (refine ost_storeW H rfl rfl rfl rfl lQ ixQ lQ okQ ?_; clear H; intro wk H; simp only [List.set_cons_zero, List.set_cons_succ, Nat.reduceAdd] at H)) | (refine opk 9 rfl ?_; first | (refine ost_boxq H rfl ?_; clear H; intro bk wk H) | (refine ost_allocA H rfl ?_; clear H; intro bk wk H) | (refine ost_build1 H rfl rfl rfl evQ lsQ rfl ?_; clear H; intro bk wk H))) | refine Wc.seq ?_ | refine then_n ?_ | refine WL.nil ?_ | refine Wc.region ?_ | refine Wc.block ?_ | refine then_r ?_ | refine then_e ?_ | refine inb_e rfl ?_ | refine inb_o rfl ?_ | refine inb_n ?_ | refine inb_r ?_ | refine Wc.skip ?_ | refine Wc.exit ?_ | refine Wc.ret ?_ | refine Wc.cond_true rfl ?_ | refine Wc.cond_false rfl ?_ | (refine Wc.drawn (id := 11) 16 (by kernel_rfl) ?_) | (refine rgs_nil ?_; intro vs wk hE; replace H := H.ext hE; clear hE) | (refine RGs.bq (fun _ => rfl) rfl (by intro vs w hE hP; have H := H.ext hE; first | exact dbQ | fail) (fun hc => ?_) (fun hc => ?_) <;> ((try simp only [cmpP, decide_eq_true_eq, decide_eq_false_iff_not, dcd_iff, dcd_no] at hc); try exact prDQ)) | refine RGs.pq (fun _ => rfl) rfl (by intro vs w hE hP; have H := H.ext hE; first | exact dvQ | fail) ?_)
      refine ⟨ks.length - (k + 1), by omega, k + 1, a8, c8, rfl, by omega, by (repeat' (first | exact Agree.refl _ _ | exact Agree.havoc | refine Agree.upd rfl ?_ | refine Agree.hav2 rfl ?_)), rfl, ?_, ?_⟩
      · rw [hsucc, show numsB ([x.cart.toNat, x.dot.rep.toNat, x.dot.seq.toNat] ++ [y.toNat]) = numsB [x.cart.toNat, x.dot.rep.toNat, x.dot.seq.toNat] ++ numsB [y.toNat] from numsB_app _ _, ← List.append_assoc]; rfl
      · rw [hsucc, show numsB ([x.cart.toNat, x.dot.rep.toNat, x.dot.seq.toNat] ++ [y.toNat]) = numsB [x.cart.toNat, x.dot.rep.toNat, x.dot.seq.toNat] ++ numsB [y.toNat] from numsB_app _ _, ← List.append_assoc]; exact H.pick2 0 4 rfl rfl (by decide)
    · obtain rfl : k = ks.length := by omega
      have e9 : numsB (0 :: ks.length :: rowsP false ks ls ds ks.length) = numsB (natsP ⟨false, ks, ls, ds⟩) := rfl
      rw [e9] at H hx ⊢
      repeat' (first | ((first | refine WL.p rfl ?_ | refine WL.u ?_); first | (refine opk 1 rfl ?_; (refine ost_C H rfl (r10_Wrapn _ _ _ _ (numsB (natsP ⟨false, ks, ls, ds⟩)) _ (sat_full _) rfl (by omega) (H.own8rd (i := 0) rfl)) rfl ?_; clear H; rintro vk wk hfk Lk ⟨a5, c5, rfl, _, rfl⟩ H; simp only [List.cons_append, List.nil_append] at H)) | refine pvQ ?_ | (refine opk 3 rfl ?_; (refine ost_cmp rfl rfl rfl rfl (fun hc => ?_) (fun hc => ?_) <;> (simp only [cmpP] at hc; try exact prIQ))) | (refine opk 4 rfl ?_; (refine ost_cmp rfl rfl rfl rfl (fun hc => ?_) (fun hc => ?_) <;> (simp only [cmpP] at hc; try exact prIQ))) | (refine opk 8 rfl ?_; (refine ost_storeW H rfl rfl rfl rfl lQ ixQ lQ okQ ?_; clear H; intro wk H; simp only [List.set_cons_zero, List.set_cons_succ, Nat.reduceAdd] at H)) | (refine opk 9 rfl ?_; first | (refine ost_boxq H rfl ?_; clear H; intro bk wk H) | (refine ost_allocA H rfl ?_; clear H; intro bk wk H) | (refine ost_build1 H rfl rfl rfl evQ lsQ rfl ?_; clear H; intro bk wk H))) | refine Wc.seq ?_ | refine then_n ?_ | refine WL.nil ?_ | refine Wc.region ?_ | refine Wc.block ?_ | refine then_r ?_ | refine then_e ?_ | refine inb_e rfl ?_ | refine inb_o rfl ?_ | refine inb_n ?_ | refine inb_r ?_ | refine Wc.skip ?_ | refine Wc.exit ?_ | refine Wc.ret ?_ | refine Wc.cond_true rfl ?_ | refine Wc.cond_false rfl ?_ | (refine Wc.drawn (id := 11) 16 (by kernel_rfl) ?_) | (refine rgs_nil ?_; intro vs wk hE; replace H := H.ext hE; clear hE) | (refine RGs.bq (fun _ => rfl) rfl (by intro vs w hE hP; have H := H.ext hE; first | exact dbQ | fail) (fun hc => ?_) (fun hc => ?_) <;> ((try simp only [cmpP, decide_eq_true_eq, decide_eq_false_iff_not, dcd_iff, dcd_no] at hc); try exact prDQ)) | refine RGs.pq (fun _ => rfl) rfl (by intro vs w hE hP; have H := H.ext hE; first | exact dvQ | fail) ?_)
      exact fn_ret1 (v := .slice _ _ _) rfl rfl ⟨_, _, H.pick 0 rfl, _, _, rfl, rfl, rfl⟩
end Go.Tg

