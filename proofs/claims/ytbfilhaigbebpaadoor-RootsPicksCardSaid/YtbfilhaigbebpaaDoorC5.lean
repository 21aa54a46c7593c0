/- Contracts of Go functions that the laws reach: what each call answers and leaves in memory, for all arguments within the bounds that each theorem names. -/
import Derived.Test.YtbfilhaigbebpaaDoorInst
import Derived.Test.YtbfilhaigbebpaaDoorAuto
import Derived.Test.YtbfilhaigbebpaaDoorO2
import Derived.Test.YtbfilhaigbebpaaDoorW6
import Derived.Test.YtbfilhaigbebpaaDoorVecC
set_option linter.unusedVariables false
set_option linter.unusedSimpArgs false
set_option maxRecDepth 100000
set_option maxHeartbeats 4000000
namespace Go.Tg
open Go Go.Proofs
def le4 (x : BitVec 32) : List UInt8 := [UInt8.ofNat x.toNat, UInt8.ofNat (x.toNat / 256), UInt8.ofNat (x.toNat / 65536), UInt8.ofNat (x.toNat / 16777216)]
theorem le4_len (x : BitVec 32) : (le4 x).length = 4 := rfl
def sum4 (xs : List UInt8) : List UInt8 := le4 (sumC xs)
theorem sum4_len (xs : List UInt8) : (sum4 xs).length = 4 := rfl
theorem u8_of (n : Nat) : Value.int .u8 (IntKind.u8.wrap (n : Int)) = u8v (UInt8.ofNat n) := by
  unfold u8v; congr 1
theorem fdivN (n k : Nat) : (n : Int).fdiv (k : Int) = ((n / k : Nat) : Int) := by
  rw [Int.fdiv_eq_ediv_of_nonneg _ (by omega)]; simp
theorem cB_le4 (x : BitVec 32) : cB (le4 x) = [.int .u8 (IntKind.u8.wrap (x.toNat : Int)), .int .u8 (IntKind.u8.wrap ((x.toNat : Int).fdiv (2 ^ min (8 : Int).toNat IntKind.u32.bits))), .int .u8 (IntKind.u8.wrap ((x.toNat : Int).fdiv (2 ^ min (16 : Int).toNat IntKind.u32.bits))), .int .u8 (IntKind.u8.wrap ((x.toNat : Int).fdiv (2 ^ min (24 : Int).toNat IntKind.u32.bits)))] := by
  rw [show (2 : Int) ^ min (8 : Int).toNat IntKind.u32.bits = ((256 : Nat) : Int) by decide, show (2 : Int) ^ min (16 : Int).toNat IntKind.u32.bits = ((65536 : Nat) : Int) by decide, show (2 : Int) ^ min (24 : Int).toNat IntKind.u32.bits = ((16777216 : Nat) : Int) by decide]
  rw [fdivN, fdivN, fdivN, u8_of, u8_of, u8_of, u8_of]; rfl
theorem frame_sum (h0 : FH) (a : Option Addr) (c : Nat) (xs : List UInt8) (w : World) (hs : Sat h0 w) (hT : Half h0) (hr : BS h0 a c xs) :
    SpecV Tryd.prog 56 #[.slice a xs.length c] w (.agg (cB (sum4 xs)).toArray) := by
  have H := St.start hs
  have hx := (sumC xs).isLt
  unfold SpecV
  refine calls_of Tryd.func56 rfl Tryd.ntmps56 (by simp) ?_
  repeat' (first | ((first | refine WL.p rfl ?_ | refine WL.u ?_); first | (refine opk 1 rfl ?_; (refine ost_V H rfl (crc_Sum _ _ _ xs _ H.sat hT hr) rfl ?_; clear H; intro wk H)) | (refine opk 9 rfl ?_; (refine ost_buildAr (l := cB (le4 (sumC xs))) rfl (evP_cons (rfl : _ = Value.int .u8 _) (evP_cons (rfl : _ = Value.int .u8 _) (evP_cons (rfl : _ = Value.int .u8 _) (evP_cons (rfl : _ = Value.int .u8 _) evP_nil)))) (by rfl) (by rw [cB_le4]; rfl) ?_)) | refine pvQ ?_ | (refine opk 8 rfl ?_; (refine ost_storeW H rfl rfl rfl rfl lQ ixQ lQ okQ ?_; clear H; intro wk H; simp only [List.set_cons_zero, List.set_cons_succ, Nat.reduceAdd] at H)) | (refine opk 9 rfl ?_; (refine ost_allocA H rfl ?_; clear H; intro bk wk H))) | refine Wc.seq ?_ | refine then_n ?_ | refine WL.nil ?_ | refine Wc.region ?_ | refine Wc.block ?_ | refine then_r ?_ | refine then_e ?_ | refine inb_e rfl ?_ | refine inb_o rfl ?_ | refine inb_n ?_ | refine inb_r ?_ | refine Wc.skip ?_ | refine Wc.exit ?_ | refine Wc.ret ?_ | refine Wc.cond_true rfl ?_ | refine Wc.cond_false rfl ?_)
  refine fn_ret1 rfl (rv_cellA rfl rfl H.bI (cB_len _)) ⟨rfl, H.fr⟩
def wrapB (xs : List UInt8) : List UInt8 := fieldB xs ++ sum4 (fieldB xs)
def outW (xs : List UInt8) : List UInt8 × Int := if xs.length ≤ 4096 then (wrapB xs, 0) else ([], 3)
theorem fieldB_len' (xs : List UInt8) : (fieldB xs).length ≤ 11 + xs.length := by unfold fieldB; rw [List.length_append]; have := putB_len xs.length; omega
theorem wrapB_len (xs : List UInt8) : (wrapB xs).length ≤ 15 + xs.length := by unfold wrapB; rw [List.length_append, sum4_len]; have := fieldB_len' xs; omega
theorem frame_Wrap (h0 : FH) (a : Option Addr) (c : Nat) (xs : List UInt8) (w : World) (hs : Sat h0 w) (hT : Half h0) (hr : BS h0 a c xs) :
    Spec Tryd.prog 35 #[.slice a xs.length c] w [] h0 (fun v h' L' => ∃ a' c', v = .tuple #[.slice a' (outW xs).1.length c', .int .i64 (outW xs).2] ∧ h' = h0 ∧ L' = [own8 (.slice a' (outW xs).1.length c') 5 (outW xs).1]) := by
  have H := St.start hs
  unfold Spec
  refine calls_of Tryd.func35 rfl Tryd.ntmps35 (by simp) ?_
  by_cases hl : xs.length ≤ 4096
  · rw [show outW xs = (wrapB xs, 0) by unfold outW; rw [if_pos hl]]
    have hp := putB_len xs.length
    have hf := fieldB_len' xs
    repeat' (first | ((first | refine WL.p rfl ?_ | refine WL.u ?_); first | (refine opk 1 rfl ?_; first | (refine ost_C H rfl (vint_Put xs.length (by omega) _ _ (sat_full _)) rfl ?_; clear H; rintro vk wk hfk Lk ⟨a1, c1, rfl, _, rfl⟩ H; simp only [List.cons_append, List.nil_append] at H) | (refine ost_app8 (xs := putB xs.length) H rfl rfl rfl (by (exact ixQ)) (hr.full H) (by (try simp only [List.length_nil, List.length_append, List.length_cons, List.length_singleton]); omega) ?_; clear H; intro aa ca wk H; simp only [List.set_cons_zero, List.set_cons_succ, List.nil_append] at H) | (refine ost_V H rfl (frame_sum _ _ _ (fieldB xs) _ (sat_full _) (hT.full H) (H.own8rd (i := 0) rfl)) rfl ?_; clear H; intro wk H) | (refine ost_app8 (xs := fieldB xs) (ys := sum4 (fieldB xs)) H rfl rfl rfl idx1 (BS.ofBlk (xs := sum4 (fieldB xs)) (H.blk idx0) (by rw [sum4_len]; decide)) (by rw [sum4_len]; omega) ?_; clear H; intro aa ca wk H; simp only [List.set_cons_zero, List.set_cons_succ] at H)) | refine pvQ ?_ | (refine opk 3 rfl ?_; (refine ost_cmp rfl rfl rfl rfl (fun hc => ?_) (fun hc => ?_) <;> (simp only [cmpP] at hc; try exact prIQ))) | (refine opk 4 rfl ?_; (refine ost_cmp rfl rfl rfl rfl (fun hc => ?_) (fun hc => ?_) <;> (simp only [cmpP] at hc; try exact prIQ))) | (refine opk 8 rfl ?_; (refine ost_storeW H rfl rfl rfl rfl lQ ixQ lQ okQ ?_; clear H; intro wk H; simp only [List.set_cons_zero, List.set_cons_succ, Nat.reduceAdd] at H)) | (refine opk 9 rfl ?_; (refine ost_allocA H rfl ?_; clear H; intro bk wk H))) | refine Wc.seq ?_ | refine then_n ?_ | refine WL.nil ?_ | refine Wc.region ?_ | refine Wc.block ?_ | refine then_r ?_ | refine then_e ?_ | refine inb_e rfl ?_ | refine inb_o rfl ?_ | refine inb_n ?_ | refine inb_r ?_ | refine Wc.skip ?_ | refine Wc.exit ?_ | refine Wc.ret ?_ | refine Wc.cond_true rfl ?_ | refine Wc.cond_false rfl ?_)
    exact fn_ret2 (v1 := .slice _ _ _) (v2 := .int _ _) rfl rfl rfl ⟨_, _, H.pick 1 rfl, _, _, rfl, rfl, rfl⟩
  · rw [show outW xs = ([], 3) by unfold outW; rw [if_neg hl]]
    repeat' (first | ((first | refine WL.p rfl ?_ | refine WL.u ?_); first | refine pvQ ?_ | (refine opk 3 rfl ?_; (refine ost_cmp rfl rfl rfl rfl (fun hc => ?_) (fun hc => ?_) <;> (simp only [cmpP] at hc; try exact prIQ))) | (refine opk 4 rfl ?_; (refine ost_cmp rfl rfl rfl rfl (fun hc => ?_) (fun hc => ?_) <;> (simp only [cmpP] at hc; try exact prIQ))) | (refine opk 8 rfl ?_; (refine ost_storeW H rfl rfl rfl rfl lQ ixQ lQ okQ ?_; clear H; intro wk H; simp only [List.set_cons_zero, List.set_cons_succ, Nat.reduceAdd] at H)) | (refine opk 9 rfl ?_; (refine ost_allocA H rfl ?_; clear H; intro bk wk H))) | refine Wc.seq ?_ | refine then_n ?_ | refine WL.nil ?_ | refine Wc.region ?_ | refine Wc.block ?_ | refine then_r ?_ | refine then_e ?_ | refine inb_e rfl ?_ | refine inb_o rfl ?_ | refine inb_n ?_ | refine inb_r ?_ | refine Wc.skip ?_ | refine Wc.exit ?_ | refine Wc.ret ?_ | refine Wc.cond_true rfl ?_ | refine Wc.cond_false rfl ?_)
    exact fn_ret2 (v1 := .slice _ _ _) (v2 := .int _ _) rfl rfl rfl ⟨_, _, (H.nil8 5).pick 0 rfl, _, _, rfl, rfl, rfl⟩
end Go.Tg

set_option linter.unusedVariables false
set_option linter.unusedSimpArgs false
set_option maxRecDepth 100000
set_option maxHeartbeats 4000000
namespace Go.Tg
open Go Go.Proofs
theorem clone8n (n : Nat) (h0 : FH) (a : Option Addr) (c : Nat) (xs : List UInt8) (w : World) (hs : Sat h0 w) (hn : n = xs.length) (hr : BS h0 a c xs) (hb : xs.length ≤ 1000000000) :
    Spec Tryd.prog 55 #[.slice a n c] w [] h0 (fun v h' L' => ∃ a' c', v = .slice a' n c' ∧ h' = h0 ∧ L' = [.own v 5 1 n (cB xs)]) := by
  subst hn; exact clone8 h0 a c xs w hs hr hb
theorem frame_sumn (n : Nat) (h0 : FH) (a : Option Addr) (c : Nat) (xs : List UInt8) (w : World) (hs : Sat h0 w) (hT : Half h0) (hn : n = xs.length) (hr : BS h0 a c xs) :
    SpecV Tryd.prog 56 #[.slice a n c] w (.agg (cB (sum4 xs)).toArray) := by
  subst hn; exact frame_sum h0 a c xs w hs hT hr
def firstF (b : List UInt8) : List UInt8 × Nat × Nat :=
  if (getB b).2.2 ≠ 0 then ([], 0, (getB b).2.2) else if 4096 < (getB b).1 then ([], 0, 5) else if b.length < (getB b).2.1 + (getB b).1 + 4 then ([], 0, 4)
  else if sum4 (b.take ((getB b).2.1 + (getB b).1)) ≠ (b.drop ((getB b).2.1 + (getB b).1)).take 4 then ([], 0, 6)
  else ((b.take ((getB b).2.1 + (getB b).1)).drop (getB b).2.1, (getB b).2.1 + (getB b).1 + 4, 0)
theorem frame_First (h0 : FH) (a : Option Addr) (c : Nat) (b : List UInt8) (w : World) (hs : Sat h0 w) (hT : Half h0) (hr : BS h0 a c b) (hb : b.length ≤ 1000000000) :
    Spec Tryd.prog 38 #[.slice a b.length c] w [] h0 (fun v h' L' => ∃ a' c', v = .tuple #[.slice a' (firstF b).1.length c', .int .i64 (firstF b).2.1, .int .i64 (firstF b).2.2] ∧ h' = h0 ∧ L' = [own8 (.slice a' (firstF b).1.length c') 5 (firstF b).1]) := by
  have H := St.start hs
  have hcap := hr.le
  have hv := vint_Get h0 a c b
  have hk := getB_le b
  have hn := getB_lt b
  generalize hF : firstF b = F
  unfold firstF at hF
  generalize getB b = G at hv hk hn hF
  obtain ⟨n, k, e⟩ := G
  dsimp only at hv hk hn hF
  unfold Spec
  refine calls_of Tryd.func38 rfl Tryd.ntmps38 (by simp) ?_
  by_cases he : e = 0
  · subst he
    by_cases h1 : 4096 < n
    · rw [if_neg (by omega), if_pos h1] at hF; subst hF
      repeat' (first | ((first | refine WL.p rfl ?_ | refine WL.u ?_); first | (refine opk 1 rfl ?_; (refine ost_V H rfl (hv _ H.sat hr) rfl ?_; clear H; intro wk H)) | refine pvQ ?_ | (refine opk 3 rfl ?_; first | (refine ost_eqA rfl (by decide) rfl rfl tyQ tyQ (fun hc => ?_) (fun hc => ?_) <;> try exact prEQ) | (refine ost_neA rfl (by decide) rfl rfl tyQ tyQ (fun hc => ?_) (fun hc => ?_) <;> try exact prEQ) | (refine ost_cmp rfl rfl rfl rfl (fun hc => ?_) (fun hc => ?_) <;> (simp only [cmpP] at hc; try exact prIQ))) | (refine opk 4 rfl ?_; (refine ost_cmp rfl rfl rfl rfl (fun hc => ?_) (fun hc => ?_) <;> (simp only [cmpP] at hc; try exact prIQ)))) | refine Wc.seq ?_ | refine then_n ?_ | refine WL.nil ?_ | refine Wc.region ?_ | refine Wc.block ?_ | refine then_r ?_ | refine then_e ?_ | refine inb_e rfl ?_ | refine inb_o rfl ?_ | refine inb_n ?_ | refine inb_r ?_ | refine Wc.skip ?_ | refine Wc.exit ?_ | refine Wc.ret ?_ | refine Wc.cond_true rfl ?_ | refine Wc.cond_false rfl ?_ | (refine Wc.drawn (id := 9) 9 (by kernel_rfl) ?_) | (refine rgs_nil ?_; intro vs wk hE; replace H := H.ext hE; clear hE) | (refine RGs.bq (fun _ => rfl) rfl (by intro vs w hE hP; have H := H.ext hE; first | exact dbQ | fail) (fun hc => ?_) (fun hc => ?_) <;> ((try simp only [cmpP, decide_eq_true_eq, decide_eq_false_iff_not, dcd_iff, dcd_no] at hc); try exact prDQ)) | refine RGs.pq (fun _ => rfl) rfl (by intro vs w hE hP; have H := H.ext hE; first | exact dvQ | fail) ?_)
      exact fn_ret3 (v1 := .slice _ _ _) (v2 := .int _ _) (v3 := .int _ _) rfl rfl rfl rfl ⟨_, _, (H.nil8 5).pick 0 rfl, _, _, rfl, rfl, rfl⟩
    · by_cases h2 : b.length < k + n + 4
      · rw [if_neg (by omega), if_neg h1, if_pos h2] at hF; subst hF
        repeat' (first | ((first | refine WL.p rfl ?_ | refine WL.u ?_); first | (refine opk 1 rfl ?_; (refine ost_V H rfl (hv _ H.sat hr) rfl ?_; clear H; intro wk H)) | refine pvQ ?_ | (refine opk 3 rfl ?_; first | (refine ost_eqA rfl (by decide) rfl rfl tyQ tyQ (fun hc => ?_) (fun hc => ?_) <;> try exact prEQ) | (refine ost_neA rfl (by decide) rfl rfl tyQ tyQ (fun hc => ?_) (fun hc => ?_) <;> try exact prEQ) | (refine ost_cmp rfl rfl rfl rfl (fun hc => ?_) (fun hc => ?_) <;> (simp only [cmpP] at hc; try exact prIQ))) | (refine opk 4 rfl ?_; (refine ost_cmp rfl rfl rfl rfl (fun hc => ?_) (fun hc => ?_) <;> (simp only [cmpP] at hc; try exact prIQ)))) | refine Wc.seq ?_ | refine then_n ?_ | refine WL.nil ?_ | refine Wc.region ?_ | refine Wc.block ?_ | refine then_r ?_ | refine then_e ?_ | refine inb_e rfl ?_ | refine inb_o rfl ?_ | refine inb_n ?_ | refine inb_r ?_ | refine Wc.skip ?_ | refine Wc.exit ?_ | refine Wc.ret ?_ | refine Wc.cond_true rfl ?_ | refine Wc.cond_false rfl ?_ | (refine Wc.drawn (id := 9) 9 (by kernel_rfl) ?_) | (refine rgs_nil ?_; intro vs wk hE; replace H := H.ext hE; clear hE) | (refine RGs.bq (fun _ => rfl) rfl (by intro vs w hE hP; have H := H.ext hE; first | exact dbQ | fail) (fun hc => ?_) (fun hc => ?_) <;> ((try simp only [cmpP, decide_eq_true_eq, decide_eq_false_iff_not, dcd_iff, dcd_no] at hc); try exact prDQ)) | refine RGs.pq (fun _ => rfl) rfl (by intro vs w hE hP; have H := H.ext hE; first | exact dvQ | fail) ?_)
        exact fn_ret3 (v1 := .slice _ _ _) (v2 := .int _ _) (v3 := .int _ _) rfl rfl rfl rfl ⟨_, _, (H.nil8 5).pick 0 rfl, _, _, rfl, rfl, rfl⟩
      · have t1 : (b.take (k + n)).length = k + n := by simp; omega
        have t2 : ((b.drop (k + n)).take 4).length = 4 := by simp; omega
        have t3 : ((b.take (k + n)).drop k).length = n := by simp; omega
        have t5 : k + n - k = ((b.take (k + n)).drop k).length := by rw [t3]; omega
        have t4 : (cB ((b.drop (k + n)).take 4)).length = 4 := by rw [cB_len, t2]
        have y1 := typed_cB4 (sum4_len (b.take (k + n)))
        have y2 := typed_cB4 t2
        by_cases h3 : sum4 (b.take (k + n)) = (b.drop (k + n)).take 4
        · rw [if_neg (by omega), if_neg h1, if_neg h2, if_neg (by simpa using h3)] at hF; subst hF
          repeat' (first | ((first | refine WL.p rfl ?_ | refine WL.u ?_); first | (refine opk 1 rfl ?_; first | (refine ost_V H rfl (hv _ H.sat hr) rfl ?_; clear H; intro wk H) | (refine ost_C H rfl (clone8n (k + n - k) _ _ _ ((b.take (k + n)).drop k) _ (sat_full _) t5 (((hr.full H).take (k + n)).drop (n := k) (by rw [t1]; omega)) (by omega)) rfl ?_; clear H; rintro vk wk hfk Lk ⟨a1, c1, rfl, rfl, rfl⟩ H; simp only [List.cons_append, List.nil_append] at H)) | refine pvQ ?_ | (refine opk 3 rfl ?_; first | (refine ost_eqA rfl (by decide) rfl rfl tyQ tyQ (fun hc => ?_) (fun hc => ?_) <;> try exact prEQ) | (refine ost_neA rfl (by decide) rfl rfl tyQ tyQ (fun hc => ?_) (fun hc => ?_) <;> try exact prEQ) | (refine ost_cmp rfl rfl rfl rfl (fun hc => ?_) (fun hc => ?_) <;> (simp only [cmpP] at hc; try exact prIQ))) | (refine opk 4 rfl ?_; (refine ost_cmp rfl rfl rfl rfl (fun hc => ?_) (fun hc => ?_) <;> (simp only [cmpP] at hc; try exact prIQ)))) | refine Wc.seq ?_ | refine then_n ?_ | refine WL.nil ?_ | refine Wc.region ?_ | refine Wc.block ?_ | refine then_r ?_ | refine then_e ?_ | refine inb_e rfl ?_ | refine inb_o rfl ?_ | refine inb_n ?_ | refine inb_r ?_ | refine Wc.skip ?_ | refine Wc.exit ?_ | refine Wc.ret ?_ | refine Wc.cond_true rfl ?_ | refine Wc.cond_false rfl ?_ | (refine Wc.drawn (id := 9) 9 (by kernel_rfl) ?_) | (refine rgs_nil ?_; intro vs wk hE; replace H := H.ext hE; clear hE) | (refine RGs.bq (fun _ => rfl) rfl (by intro vs w hE hP; have H := H.ext hE; first | exact dbQ | fail) (fun hc => ?_) (fun hc => ?_) <;> ((try simp only [cmpP, decide_eq_true_eq, decide_eq_false_iff_not, dcd_iff, dcd_no] at hc); try exact prDQ)) | refine RGs.pq (fun _ => rfl) rfl (by intro vs w hE hP; have H := H.ext hE; first | (refine opk 1 rfl ?_; (exact ost_V0d rfl (frame_sumn (k + n) _ _ _ (b.take (k + n)) _ (sat_full _) (hT.full H) t1.symm ((hr.full H).take (k + n))) rfl)) | (refine opk 2 rfl ?_; (refine ost_loadRd (cs := cB ((b.drop (k + n)).take 4)) rfl rfl rfl ((((hr.full H).drop (n := k + n) (by omega)).take 4).rd) lQ (by decide) ?_; exact ⟨Fr.refl _ _, rfl⟩)) | exact dvQ | fail) ?_)
          · exact absurd (cB_inj.2 h3) hc
          · rw [t5] at H
            exact fn_ret3 (v1 := .slice _ _ _) (v2 := .int _ _) (v3 := .int _ _) rfl rfl rfl rfl ⟨_, _, H.pick 0 rfl, _, _, by rw [← t5]; rfl, rfl, rfl⟩
        · rw [if_neg (by omega), if_neg h1, if_neg h2, if_pos h3] at hF; subst hF
          repeat' (first | ((first | refine WL.p rfl ?_ | refine WL.u ?_); first | (refine opk 1 rfl ?_; first | (refine ost_V H rfl (hv _ H.sat hr) rfl ?_; clear H; intro wk H) | (refine ost_C H rfl (clone8n (k + n - k) _ _ _ ((b.take (k + n)).drop k) _ (sat_full _) t5 (((hr.full H).take (k + n)).drop (n := k) (by rw [t1]; omega)) (by omega)) rfl ?_; clear H; rintro vk wk hfk Lk ⟨a1, c1, rfl, rfl, rfl⟩ H; simp only [List.cons_append, List.nil_append] at H)) | refine pvQ ?_ | (refine opk 3 rfl ?_; first | (refine ost_eqA rfl (by decide) rfl rfl tyQ tyQ (fun hc => ?_) (fun hc => ?_) <;> try exact prEQ) | (refine ost_neA rfl (by decide) rfl rfl tyQ tyQ (fun hc => ?_) (fun hc => ?_) <;> try exact prEQ) | (refine ost_cmp rfl rfl rfl rfl (fun hc => ?_) (fun hc => ?_) <;> (simp only [cmpP] at hc; try exact prIQ))) | (refine opk 4 rfl ?_; (refine ost_cmp rfl rfl rfl rfl (fun hc => ?_) (fun hc => ?_) <;> (simp only [cmpP] at hc; try exact prIQ)))) | refine Wc.seq ?_ | refine then_n ?_ | refine WL.nil ?_ | refine Wc.region ?_ | refine Wc.block ?_ | refine then_r ?_ | refine then_e ?_ | refine inb_e rfl ?_ | refine inb_o rfl ?_ | refine inb_n ?_ | refine inb_r ?_ | refine Wc.skip ?_ | refine Wc.exit ?_ | refine Wc.ret ?_ | refine Wc.cond_true rfl ?_ | refine Wc.cond_false rfl ?_ | (refine Wc.drawn (id := 9) 9 (by kernel_rfl) ?_) | (refine rgs_nil ?_; intro vs wk hE; replace H := H.ext hE; clear hE) | (refine RGs.bq (fun _ => rfl) rfl (by intro vs w hE hP; have H := H.ext hE; first | exact dbQ | fail) (fun hc => ?_) (fun hc => ?_) <;> ((try simp only [cmpP, decide_eq_true_eq, decide_eq_false_iff_not, dcd_iff, dcd_no] at hc); try exact prDQ)) | refine RGs.pq (fun _ => rfl) rfl (by intro vs w hE hP; have H := H.ext hE; first | (refine opk 1 rfl ?_; (exact ost_V0d rfl (frame_sumn (k + n) _ _ _ (b.take (k + n)) _ (sat_full _) (hT.full H) t1.symm ((hr.full H).take (k + n))) rfl)) | (refine opk 2 rfl ?_; (refine ost_loadRd (cs := cB ((b.drop (k + n)).take 4)) rfl rfl rfl ((((hr.full H).drop (n := k + n) (by omega)).take 4).rd) lQ (by decide) ?_; exact ⟨Fr.refl _ _, rfl⟩)) | exact dvQ | fail) ?_)
          · exact fn_ret3 (v1 := .slice _ _ _) (v2 := .int _ _) (v3 := .int _ _) rfl rfl rfl rfl ⟨_, _, (H.nil8 5).pick 0 rfl, _, _, rfl, rfl, rfl⟩
          · exact absurd (cB_inj.1 hc) h3
  · rw [if_pos he] at hF; subst hF
    repeat' (first | ((first | refine WL.p rfl ?_ | refine WL.u ?_); first | (refine opk 1 rfl ?_; (refine ost_V H rfl (hv _ H.sat hr) rfl ?_; clear H; intro wk H)) | refine pvQ ?_ | (refine opk 3 rfl ?_; first | (refine ost_eqA rfl (by decide) rfl rfl tyQ tyQ (fun hc => ?_) (fun hc => ?_) <;> try exact prEQ) | (refine ost_neA rfl (by decide) rfl rfl tyQ tyQ (fun hc => ?_) (fun hc => ?_) <;> try exact prEQ) | (refine ost_cmp rfl rfl rfl rfl (fun hc => ?_) (fun hc => ?_) <;> (simp only [cmpP] at hc; try exact prIQ))) | (refine opk 4 rfl ?_; (refine ost_cmp rfl rfl rfl rfl (fun hc => ?_) (fun hc => ?_) <;> (simp only [cmpP] at hc; try exact prIQ)))) | refine Wc.seq ?_ | refine then_n ?_ | refine WL.nil ?_ | refine Wc.region ?_ | refine Wc.block ?_ | refine then_r ?_ | refine then_e ?_ | refine inb_e rfl ?_ | refine inb_o rfl ?_ | refine inb_n ?_ | refine inb_r ?_ | refine Wc.skip ?_ | refine Wc.exit ?_ | refine Wc.ret ?_ | refine Wc.cond_true rfl ?_ | refine Wc.cond_false rfl ?_ | (refine Wc.drawn (id := 9) 9 (by kernel_rfl) ?_) | (refine rgs_nil ?_; intro vs wk hE; replace H := H.ext hE; clear hE) | (refine RGs.bq (fun _ => rfl) rfl (by intro vs w hE hP; have H := H.ext hE; first | exact dbQ | fail) (fun hc => ?_) (fun hc => ?_) <;> ((try simp only [cmpP, decide_eq_true_eq, decide_eq_false_iff_not, dcd_iff, dcd_no] at hc); try exact prDQ)) | refine RGs.pq (fun _ => rfl) rfl (by intro vs w hE hP; have H := H.ext hE; first | exact dvQ | fail) ?_)
    exact fn_ret3 (v1 := .slice _ _ _) (v2 := .int _ _) (v3 := .int _ _) rfl rfl rfl rfl ⟨_, _, (H.nil8 5).pick 0 rfl, _, _, rfl, rfl, rfl⟩
end Go.Tg

set_option linter.unusedVariables false
set_option linter.unusedSimpArgs false
set_option maxRecDepth 100000
set_option maxHeartbeats 4000000
namespace Go.Tg
open Go Go.Proofs
theorem le4_step (x : BitVec 32) {k : Nat} (h : k < 4) : (le4 x).take (k + 1) = (le4 x).take k ++ [UInt8.ofNat (x.toNat / 256 ^ k)] := by
  have hn : k = 0 ∨ k = 1 ∨ k = 2 ∨ k = 3 := by omega
  rcases hn with rfl | rfl | rfl | rfl
  · show [UInt8.ofNat x.toNat] = [] ++ [UInt8.ofNat (x.toNat / 1)]
    rw [Nat.div_one]; rfl
  all_goals rfl
theorem r10_Wrap (h0 : FH) (a : Option Addr) (c : Nat) (xs : List UInt8) (w : World) (hs : Sat h0 w) (hr : BS h0 a c xs) :
    Spec Tryd.prog 37 #[.slice a xs.length c] w [] h0 (fun v h' L' => ∃ a' c', v = .tuple #[.slice a' (outW xs).1.length c', .int .i64 (outW xs).2] ∧ h' = h0 ∧ L' = [own8 (.slice a' (outW xs).1.length c') 5 (outW xs).1]) := by
  have H := St.start hs
  unfold Spec
  refine calls_of Tryd.func37 rfl Tryd.ntmps37 (by simp) ?_
  by_cases hl : xs.length ≤ 4096
  · rw [show outW xs = (wrapB xs, 0) by unfold outW; rw [if_pos hl]]
    have hf := fieldB_len' xs
    repeat' (first | ((first | refine WL.p rfl ?_ | refine WL.u ?_); first | (refine opk 1 rfl ?_; first | (refine ost_C H rfl (r3_Field _ _ (sat_full _) _ _ xs (hr.full H) (by omega)) rfl ?_; clear H; rintro vk wk hfk Lk ⟨a1, c1, rfl, _, rfl⟩ H; simp only [List.cons_append, List.nil_append] at H) | (refine ost_V H rfl (r1_Sum _ _ _ (fieldB xs) _ (sat_full _) (H.own8rd (i := 0) rfl)) rfl ?_; clear H; intro wk H)) | refine pvQ ?_ | (refine opk 3 rfl ?_; (refine ost_cmp rfl rfl rfl rfl (fun hc => ?_) (fun hc => ?_) <;> (simp only [cmpP] at hc; try exact prIQ))) | (refine opk 4 rfl ?_; (refine ost_cmp rfl rfl rfl rfl (fun hc => ?_) (fun hc => ?_) <;> (simp only [cmpP] at hc; try exact prIQ))) | (refine opk 9 rfl ?_; (refine ost_build1 H rfl rfl rfl evQ lsQ rfl ?_; clear H; intro bk wk H))) | refine Wc.seq ?_ | refine then_n ?_ | refine WL.nil ?_ | refine Wc.region ?_ | refine Wc.block ?_ | refine then_r ?_ | refine then_e ?_ | refine inb_e rfl ?_ | refine inb_o rfl ?_ | refine inb_n ?_ | refine inb_r ?_ | refine Wc.skip ?_ | refine Wc.exit ?_ | refine Wc.ret ?_ | refine Wc.cond_true rfl ?_ | refine Wc.cond_false rfl ?_)
    generalize hS : sumC (fieldB xs) = S
    have hSl := S.isLt
    refine Wc.loopE (fun s0 m s w' => ∃ (k : Nat) (a2 : Option Addr) (c2 : Nat), m = 4 - k ∧ k ≤ 4 ∧ Agree [4, 5, 6, 14, 15, 16, 17, 18, 19, 20, 21, 22, 23, 24, 25] s s0 ∧ s 6 = .int .i64 k ∧ s 5 = .int .u32 ((S.toNat / 256 ^ k : Nat) : Int) ∧ s 4 = .slice a2 (fieldB xs ++ (le4 S).take k).length c2 ∧
      St w [] h0 h0 [own8 (.slice a2 (fieldB xs ++ (le4 S).take k).length c2) 5 (fieldB xs ++ (le4 S).take k)] w') 4 ⟨0, a1, c1, rfl, by omega, Agree.refl _ _, rfl, by show Value.int .u32 (S.toNat : Int) = _; simp, by rw [List.take_zero, List.append_nil]; rfl, by simpa using H⟩ ?_
    clear H
    rintro m s w' ⟨k, a2, c2, rfl, hk, hA, e1, e2, e3, H⟩
    obtain ⟨j, rfl⟩ := hA.env3 e1 e2 e3
    clear hA e1 e2 e3
    have h4 : ((le4 S).take k).length ≤ 4 := by simp [le4_len]; omega
    have hL : (fieldB xs ++ (le4 S).take k).length ≤ 5000 := by rw [List.length_append]; omega
    by_cases hlt : k < 4
    · have hy : ((S.toNat / 256 ^ k : Nat) : Int) % 256 = ((UInt8.ofNat (S.toNat / 256 ^ k)).toNat : Int) := by simp
      have hd : ((S.toNat / 256 ^ k : Nat) : Int) / 256 = ((S.toNat / 256 ^ (k + 1) : Nat) : Int) := by
        rw [Nat.pow_succ, ← Nat.div_div_eq_div_mul]; omega
      have hle : S.toNat / 256 ^ k ≤ S.toNat := Nat.div_le_self _ _
      have hst := le4_step S hlt
      generalize hq : S.toNat / 256 ^ k = q at hy hd hle hst ⊢
      repeat' (first | ((first | refine WL.p rfl ?_ | refine WL.u ?_); first | (refine opk 1 rfl ?_; (refine ost_app1 (xs := fieldB xs ++ (le4 S).take k) (y := UInt8.ofNat q) H rfl rfl rfl (by (exact ixQ)) (by (exact ixQ)) (hy) (by (try simp only [List.length_nil, List.length_append, List.length_cons, List.length_singleton]); omega) ?_; clear H; intro aa ca wk H; simp only [List.set_cons_zero, List.set_cons_succ, List.nil_append] at H)) | refine pvQ ?_ | (refine opk 3 rfl ?_; (refine ost_cmp rfl rfl rfl rfl (fun hc => ?_) (fun hc => ?_) <;> (simp only [cmpP] at hc; try exact prIQ))) | (refine opk 4 rfl ?_; (refine ost_cmp rfl rfl rfl rfl (fun hc => ?_) (fun hc => ?_) <;> (simp only [cmpP] at hc; try exact prIQ))) | (refine opk 9 rfl ?_; (refine ost_build1 H rfl rfl rfl evQ lsQ rfl ?_; clear H; intro bk wk H))) | refine Wc.seq ?_ | refine then_n ?_ | refine WL.nil ?_ | refine Wc.region ?_ | refine Wc.block ?_ | refine then_r ?_ | refine then_e ?_ | refine inb_e rfl ?_ | refine inb_o rfl ?_ | refine inb_n ?_ | refine inb_r ?_ | refine Wc.skip ?_ | refine Wc.exit ?_ | refine Wc.ret ?_ | refine Wc.cond_true rfl ?_ | refine Wc.cond_false rfl ?_)
      refine ⟨4 - (k + 1), by omega, k + 1, aa, ca, rfl, by omega, by (repeat' (first | exact Agree.refl _ _ | exact Agree.havoc | refine Agree.upd rfl ?_ | refine Agree.hav2 rfl ?_)), rfl, ?_, ?_, ?_⟩
      · show Value.int .u32 ((q : Int) / 256) = _; rw [hd]
      · rw [hst, ← List.append_assoc]; rfl
      · rw [hst, ← List.append_assoc]; exact H.pick 1 rfl
    · obtain rfl : k = 4 := by omega
      repeat' (first | ((first | refine WL.p rfl ?_ | refine WL.u ?_); first | refine pvQ ?_ | (refine opk 3 rfl ?_; (refine ost_cmp rfl rfl rfl rfl (fun hc => ?_) (fun hc => ?_) <;> (simp only [cmpP] at hc; try exact prIQ))) | (refine opk 4 rfl ?_; (refine ost_cmp rfl rfl rfl rfl (fun hc => ?_) (fun hc => ?_) <;> (simp only [cmpP] at hc; try exact prIQ))) | (refine opk 9 rfl ?_; (refine ost_build1 H rfl rfl rfl evQ lsQ rfl ?_; clear H; intro bk wk H))) | refine Wc.seq ?_ | refine then_n ?_ | refine WL.nil ?_ | refine Wc.region ?_ | refine Wc.block ?_ | refine then_r ?_ | refine then_e ?_ | refine inb_e rfl ?_ | refine inb_o rfl ?_ | refine inb_n ?_ | refine inb_r ?_ | refine Wc.skip ?_ | refine Wc.exit ?_ | refine Wc.ret ?_ | refine Wc.cond_true rfl ?_ | refine Wc.cond_false rfl ?_)
      have e9 : fieldB xs ++ (le4 S).take 4 = wrapB xs := by rw [← hS]; rfl
      rw [e9] at H
      exact fn_ret2 (v1 := .slice _ _ _) (v2 := .int _ _) rfl rfl rfl ⟨_, _, H.pick 0 rfl, _, _, by rw [e9], rfl, rfl⟩
  · rw [show outW xs = ([], 3) by unfold outW; rw [if_neg hl]]
    repeat' (first | ((first | refine WL.p rfl ?_ | refine WL.u ?_); first | refine pvQ ?_ | (refine opk 3 rfl ?_; (refine ost_cmp rfl rfl rfl rfl (fun hc => ?_) (fun hc => ?_) <;> (simp only [cmpP] at hc; try exact prIQ))) | (refine opk 4 rfl ?_; (refine ost_cmp rfl rfl rfl rfl (fun hc => ?_) (fun hc => ?_) <;> (simp only [cmpP] at hc; try exact prIQ))) | (refine opk 9 rfl ?_; (refine ost_build1 H rfl rfl rfl evQ lsQ rfl ?_; clear H; intro bk wk H))) | refine Wc.seq ?_ | refine then_n ?_ | refine WL.nil ?_ | refine Wc.region ?_ | refine Wc.block ?_ | refine then_r ?_ | refine then_e ?_ | refine inb_e rfl ?_ | refine inb_o rfl ?_ | refine inb_n ?_ | refine inb_r ?_ | refine Wc.skip ?_ | refine Wc.exit ?_ | refine Wc.ret ?_ | refine Wc.cond_true rfl ?_ | refine Wc.cond_false rfl ?_)
    exact fn_ret2 (v1 := .slice _ _ _) (v2 := .int _ _) rfl rfl rfl ⟨_, _, (H.nil8 5).pick 0 rfl, _, _, rfl, rfl, rfl⟩
theorem outW_ok {xs : List UInt8} (h : xs.length ≤ 4096) : outW xs = (wrapB xs, 0) := by unfold outW; rw [if_pos h]
theorem r10_Wrapn (n : Nat) (h0 : FH) (a : Option Addr) (c : Nat) (xs : List UInt8) (w : World) (hs : Sat h0 w) (hn : n = xs.length) (hl : xs.length ≤ 4096) (hr : BS h0 a c xs) :
    Spec Tryd.prog 37 #[.slice a n c] w [] h0 (fun v h' L' => ∃ a' c', v = .tuple #[.slice a' (wrapB xs).length c', .int .i64 0] ∧ h' = h0 ∧ L' = [own8 (.slice a' (wrapB xs).length c') 5 (wrapB xs)]) := by
  subst hn
  have := r10_Wrap h0 a c xs w hs hr
  rw [outW_ok hl] at this; exact this
theorem wrap_iff {b : List UInt8} {n k : Nat} (hg : getB b = (n, k, 0)) (hl : k + n + 4 ≤ b.length) : wrapB ((b.take (k + n)).drop k) = b.take (k + n + 4) ↔ sum4 (b.take (k + n)) = (b.drop (k + n)).take 4 := by
  have hb := getB_inv hg
  have hk : (putB n).length = k := by
    have h1 := congrArg List.length hb
    rw [List.length_append, List.length_drop] at h1
    omega
  have ht : (b.take (k + n)).take k = putB n := by
    rw [List.take_take, show min k (k + n) = k by omega]
    have : b.take k = (putB n ++ b.drop k).take k := by rw [← hb]
    rw [this, List.take_left' hk]
  have hx : ((b.take (k + n)).drop k).length = n := by simp; omega
  have hf : fieldB ((b.take (k + n)).drop k) = b.take (k + n) := by
    unfold fieldB; rw [hx, ← ht, List.take_append_drop]
  unfold wrapB
  have e : b.take (k + n + 4) = b.take (k + n) ++ (b.drop (k + n)).take 4 := List.take_add
  rw [hf, e]
  exact ⟨fun h => List.append_cancel_left h, fun h => by rw [h]⟩
theorem r10_First (h0 : FH) (a : Option Addr) (c : Nat) (b : List UInt8) (w : World) (hs : Sat h0 w) (hr : BS h0 a c b) (hb : b.length ≤ 1000000000) :
    Spec Tryd.prog 51 #[.slice a b.length c] w [] h0 (fun v h' L' => ∃ a' c', v = .tuple #[.slice a' (firstF b).1.length c', .int .i64 (firstF b).2.1, .int .i64 (firstF b).2.2] ∧ h' = h0 ∧ L' = [] ∧ BS h0 a' c' (firstF b).1) := by
  have H := St.start hs
  have hcap := hr.le
  have hv := r2_Get h0 a c b
  have hk := getB_le b
  have hn := getB_lt b
  have hwi := @wrap_iff b
  have nil8 : BS h0 none 0 [] := ⟨RdC.nil _ _, by simp, Nat.zero_le _, fun _ => rfl⟩
  generalize hF : firstF b = F
  unfold firstF at hF
  generalize getB b = G at hv hk hn hF hwi
  obtain ⟨n, k, e⟩ := G
  dsimp only at hv hk hn hF
  unfold Spec
  refine calls_of Tryd.func51 rfl Tryd.ntmps51 (by simp) ?_
  by_cases he : e = 0
  · subst he
    by_cases h1 : 4096 < n
    · rw [if_neg (by omega), if_pos h1] at hF; subst hF
      repeat' (first | ((first | refine WL.p rfl ?_ | refine WL.u ?_); first | (refine opk 1 rfl ?_; (refine ost_V H rfl (hv _ H.sat hr) rfl ?_; clear H; intro wk H)) | refine pvQ ?_ | (refine opk 3 rfl ?_; first | (refine ost_cmp rfl rfl rfl rfl (fun hc => ?_) (fun hc => ?_) <;> (simp only [cmpP] at hc; try exact prIQ)) | (refine ost_streqB rfl rfl rfl (fun hc => ?_) (fun hc => ?_) <;> try exact prEQ) | (refine ost_strneB rfl rfl rfl (fun hc => ?_) (fun hc => ?_) <;> try exact prEQ) | (refine ost_streq rfl rfl rfl (fun hc => ?_) (fun hc => ?_) <;> try exact absurd rfl hc) | (refine ost_strne rfl rfl rfl (fun hc => ?_) (fun hc => ?_))) | (refine opk 4 rfl ?_; (refine ost_cmp rfl rfl rfl rfl (fun hc => ?_) (fun hc => ?_) <;> (simp only [cmpP] at hc; try exact prIQ)))) | refine Wc.seq ?_ | refine then_n ?_ | refine WL.nil ?_ | refine Wc.region ?_ | refine Wc.block ?_ | refine then_r ?_ | refine then_e ?_ | refine inb_e rfl ?_ | refine inb_o rfl ?_ | refine inb_n ?_ | refine inb_r ?_ | refine Wc.skip ?_ | refine Wc.exit ?_ | refine Wc.ret ?_ | refine Wc.cond_true rfl ?_ | refine Wc.cond_false rfl ?_ | (refine Wc.drawn (id := 10) 7 (by kernel_rfl) ?_) | (refine rgs_nil ?_; intro vs wk hE; replace H := H.ext hE; clear hE) | (refine RGs.bq (fun _ => rfl) rfl (by intro vs w hE hP; have H := H.ext hE; first | exact dbQ | fail) (fun hc => ?_) (fun hc => ?_) <;> ((try simp only [cmpP, decide_eq_true_eq, decide_eq_false_iff_not, dcd_iff, dcd_no] at hc); try exact prDQ)) | refine RGs.pq (fun _ => rfl) rfl (by intro vs w hE hP; have H := H.ext hE; first | exact dvQ | fail) ?_)
      exact fn_ret3 (v1 := .slice _ _ _) (v2 := .int _ _) (v3 := .int _ _) rfl rfl rfl rfl ⟨_, _, H, _, _, rfl, rfl, rfl, nil8⟩
    · by_cases h2 : b.length < k + n + 4
      · rw [if_neg (by omega), if_neg h1, if_pos h2] at hF; subst hF
        repeat' (first | ((first | refine WL.p rfl ?_ | refine WL.u ?_); first | (refine opk 1 rfl ?_; (refine ost_V H rfl (hv _ H.sat hr) rfl ?_; clear H; intro wk H)) | refine pvQ ?_ | (refine opk 3 rfl ?_; first | (refine ost_cmp rfl rfl rfl rfl (fun hc => ?_) (fun hc => ?_) <;> (simp only [cmpP] at hc; try exact prIQ)) | (refine ost_streqB rfl rfl rfl (fun hc => ?_) (fun hc => ?_) <;> try exact prEQ) | (refine ost_strneB rfl rfl rfl (fun hc => ?_) (fun hc => ?_) <;> try exact prEQ) | (refine ost_streq rfl rfl rfl (fun hc => ?_) (fun hc => ?_) <;> try exact absurd rfl hc) | (refine ost_strne rfl rfl rfl (fun hc => ?_) (fun hc => ?_))) | (refine opk 4 rfl ?_; (refine ost_cmp rfl rfl rfl rfl (fun hc => ?_) (fun hc => ?_) <;> (simp only [cmpP] at hc; try exact prIQ)))) | refine Wc.seq ?_ | refine then_n ?_ | refine WL.nil ?_ | refine Wc.region ?_ | refine Wc.block ?_ | refine then_r ?_ | refine then_e ?_ | refine inb_e rfl ?_ | refine inb_o rfl ?_ | refine inb_n ?_ | refine inb_r ?_ | refine Wc.skip ?_ | refine Wc.exit ?_ | refine Wc.ret ?_ | refine Wc.cond_true rfl ?_ | refine Wc.cond_false rfl ?_ | (refine Wc.drawn (id := 10) 7 (by kernel_rfl) ?_) | (refine rgs_nil ?_; intro vs wk hE; replace H := H.ext hE; clear hE) | (refine RGs.bq (fun _ => rfl) rfl (by intro vs w hE hP; have H := H.ext hE; first | exact dbQ | fail) (fun hc => ?_) (fun hc => ?_) <;> ((try simp only [cmpP, decide_eq_true_eq, decide_eq_false_iff_not, dcd_iff, dcd_no] at hc); try exact prDQ)) | refine RGs.pq (fun _ => rfl) rfl (by intro vs w hE hP; have H := H.ext hE; first | exact dvQ | fail) ?_)
        exact fn_ret3 (v1 := .slice _ _ _) (v2 := .int _ _) (v3 := .int _ _) rfl rfl rfl rfl ⟨_, _, H, _, _, rfl, rfl, rfl, nil8⟩
      · have t1 : (b.take (k + n)).length = k + n := by simp; omega
        have t3 : ((b.take (k + n)).drop k).length = n := by simp; omega
        have t5 : k + n - k = ((b.take (k + n)).drop k).length := by rw [t3]; omega
        have hwi := hwi rfl (by omega)
        have hwl := wrapB_len ((b.take (k + n)).drop k)
        generalize hq : wrapB ((b.take (k + n)).drop k) = W at hwi hwl
        have hW : ∀ (h0 : FH) (a : Option Addr) (c : Nat) (w : World) (hs : Sat h0 w) (hr : BS h0 a c ((b.take (k + n)).drop k)), Spec Tryd.prog 37 #[.slice a (k + n - k) c] w [] h0 (fun v h' L' => ∃ a' c', v = .tuple #[.slice a' W.length c', .int .i64 0] ∧ h' = h0 ∧ L' = [own8 (.slice a' W.length c') 5 W]) := fun h0 a c w hs hr => by
          have := r10_Wrapn (k + n - k) h0 a c _ w hs t5 (by omega) hr
          rw [hq] at this; exact this
        by_cases h3 : sum4 (b.take (k + n)) = (b.drop (k + n)).take 4
        · rw [if_neg (by omega), if_neg h1, if_neg h2, if_neg (by simpa using h3)] at hF; subst hF
          have h4 := hwi.2 h3
          repeat' (first | ((first | refine WL.p rfl ?_ | refine WL.u ?_); first | (refine opk 1 rfl ?_; first | (refine ost_V H rfl (hv _ H.sat hr) rfl ?_; clear H; intro wk H) | (refine ost_C H rfl (hW _ _ _ _ (sat_full _) (((hr.full H).take (k + n)).drop (n := k) (by rw [t1]; omega))) rfl ?_; clear H; rintro vk wk hfk Lk ⟨a1, c1, rfl, _, rfl⟩ H; simp only [List.cons_append, List.nil_append] at H)) | refine pvQ ?_ | (refine opk 3 rfl ?_; first | (refine ost_cmp rfl rfl rfl rfl (fun hc => ?_) (fun hc => ?_) <;> (simp only [cmpP] at hc; try exact prIQ)) | (refine ost_streqB rfl rfl rfl (fun hc => ?_) (fun hc => ?_) <;> try exact prEQ) | (refine ost_strneB rfl rfl rfl (fun hc => ?_) (fun hc => ?_) <;> try exact prEQ) | (refine ost_streq rfl rfl rfl (fun hc => ?_) (fun hc => ?_) <;> try exact absurd rfl hc) | (refine ost_strne rfl rfl rfl (fun hc => ?_) (fun hc => ?_))) | (refine opk 4 rfl ?_; (refine ost_cmp rfl rfl rfl rfl (fun hc => ?_) (fun hc => ?_) <;> (simp only [cmpP] at hc; try exact prIQ)))) | refine Wc.seq ?_ | refine then_n ?_ | refine WL.nil ?_ | refine Wc.region ?_ | refine Wc.block ?_ | refine then_r ?_ | refine then_e ?_ | refine inb_e rfl ?_ | refine inb_o rfl ?_ | refine inb_n ?_ | refine inb_r ?_ | refine Wc.skip ?_ | refine Wc.exit ?_ | refine Wc.ret ?_ | refine Wc.cond_true rfl ?_ | refine Wc.cond_false rfl ?_ | (refine Wc.drawn (id := 10) 7 (by kernel_rfl) ?_) | (refine rgs_nil ?_; intro vs wk hE; replace H := H.ext hE; clear hE) | (refine RGs.bq (fun _ => rfl) rfl (by intro vs w hE hP; have H := H.ext hE; first | exact dbQ | fail) (fun hc => ?_) (fun hc => ?_) <;> ((try simp only [cmpP, decide_eq_true_eq, decide_eq_false_iff_not, dcd_iff, dcd_no] at hc); try exact prDQ)) | refine RGs.pq (fun _ => rfl) rfl (by intro vs w hE hP; have H := H.ext hE; first | (refine opk 6 rfl ?_; first | (refine ost_toStrN (xs := W) rfl rfl (by first | rfl | (simp; omega)) (H.own8rd (i := 0) rfl) ?_; exact ⟨Fr.refl _ _, rfl⟩) | (refine ost_toStrN (xs := b.take (k + n + 4)) rfl rfl (by first | rfl | (simp; omega)) ((hr.full H).take (k + n + 4)) ?_; exact ⟨Fr.refl _ _, rfl⟩)) | exact dvQ | fail) ?_)
          exact fn_ret3 (v1 := .slice _ _ _) (v2 := .int _ _) (v3 := .int _ _) rfl rfl rfl rfl ⟨_, _, H.pick0, _, _, by rw [← t5]; rfl, rfl, rfl, (hr.take (k + n)).drop (n := k) (by rw [t1]; omega)⟩
        · rw [if_neg (by omega), if_neg h1, if_neg h2, if_pos h3] at hF; subst hF
          have h4 : ¬ W = b.take (k + n + 4) := fun h => h3 (hwi.1 h)
          repeat' (first | ((first | refine WL.p rfl ?_ | refine WL.u ?_); first | (refine opk 1 rfl ?_; first | (refine ost_V H rfl (hv _ H.sat hr) rfl ?_; clear H; intro wk H) | (refine ost_C H rfl (hW _ _ _ _ (sat_full _) (((hr.full H).take (k + n)).drop (n := k) (by rw [t1]; omega))) rfl ?_; clear H; rintro vk wk hfk Lk ⟨a1, c1, rfl, _, rfl⟩ H; simp only [List.cons_append, List.nil_append] at H)) | refine pvQ ?_ | (refine opk 3 rfl ?_; first | (refine ost_cmp rfl rfl rfl rfl (fun hc => ?_) (fun hc => ?_) <;> (simp only [cmpP] at hc; try exact prIQ)) | (refine ost_streqB rfl rfl rfl (fun hc => ?_) (fun hc => ?_) <;> try exact prEQ) | (refine ost_strneB rfl rfl rfl (fun hc => ?_) (fun hc => ?_) <;> try exact prEQ) | (refine ost_streq rfl rfl rfl (fun hc => ?_) (fun hc => ?_) <;> try exact absurd rfl hc) | (refine ost_strne rfl rfl rfl (fun hc => ?_) (fun hc => ?_))) | (refine opk 4 rfl ?_; (refine ost_cmp rfl rfl rfl rfl (fun hc => ?_) (fun hc => ?_) <;> (simp only [cmpP] at hc; try exact prIQ)))) | refine Wc.seq ?_ | refine then_n ?_ | refine WL.nil ?_ | refine Wc.region ?_ | refine Wc.block ?_ | refine then_r ?_ | refine then_e ?_ | refine inb_e rfl ?_ | refine inb_o rfl ?_ | refine inb_n ?_ | refine inb_r ?_ | refine Wc.skip ?_ | refine Wc.exit ?_ | refine Wc.ret ?_ | refine Wc.cond_true rfl ?_ | refine Wc.cond_false rfl ?_ | (refine Wc.drawn (id := 10) 7 (by kernel_rfl) ?_) | (refine rgs_nil ?_; intro vs wk hE; replace H := H.ext hE; clear hE) | (refine RGs.bq (fun _ => rfl) rfl (by intro vs w hE hP; have H := H.ext hE; first | exact dbQ | fail) (fun hc => ?_) (fun hc => ?_) <;> ((try simp only [cmpP, decide_eq_true_eq, decide_eq_false_iff_not, dcd_iff, dcd_no] at hc); try exact prDQ)) | refine RGs.pq (fun _ => rfl) rfl (by intro vs w hE hP; have H := H.ext hE; first | (refine opk 6 rfl ?_; first | (refine ost_toStrN (xs := W) rfl rfl (by first | rfl | (simp; omega)) (H.own8rd (i := 0) rfl) ?_; exact ⟨Fr.refl _ _, rfl⟩) | (refine ost_toStrN (xs := b.take (k + n + 4)) rfl rfl (by first | rfl | (simp; omega)) ((hr.full H).take (k + n + 4)) ?_; exact ⟨Fr.refl _ _, rfl⟩)) | exact dvQ | fail) ?_)
          exact fn_ret3 (v1 := .slice _ _ _) (v2 := .int _ _) (v3 := .int _ _) rfl rfl rfl rfl ⟨_, _, H.pick0, _, _, rfl, rfl, rfl, nil8⟩
  · rw [if_pos he] at hF; subst hF
    repeat' (first | ((first | refine WL.p rfl ?_ | refine WL.u ?_); first | (refine opk 1 rfl ?_; (refine ost_V H rfl (hv _ H.sat hr) rfl ?_; clear H; intro wk H)) | refine pvQ ?_ | (refine opk 3 rfl ?_; first | (refine ost_cmp rfl rfl rfl rfl (fun hc => ?_) (fun hc => ?_) <;> (simp only [cmpP] at hc; try exact prIQ)) | (refine ost_streqB rfl rfl rfl (fun hc => ?_) (fun hc => ?_) <;> try exact prEQ) | (refine ost_strneB rfl rfl rfl (fun hc => ?_) (fun hc => ?_) <;> try exact prEQ) | (refine ost_streq rfl rfl rfl (fun hc => ?_) (fun hc => ?_) <;> try exact absurd rfl hc) | (refine ost_strne rfl rfl rfl (fun hc => ?_) (fun hc => ?_))) | (refine opk 4 rfl ?_; (refine ost_cmp rfl rfl rfl rfl (fun hc => ?_) (fun hc => ?_) <;> (simp only [cmpP] at hc; try exact prIQ)))) | refine Wc.seq ?_ | refine then_n ?_ | refine WL.nil ?_ | refine Wc.region ?_ | refine Wc.block ?_ | refine then_r ?_ | refine then_e ?_ | refine inb_e rfl ?_ | refine inb_o rfl ?_ | refine inb_n ?_ | refine inb_r ?_ | refine Wc.skip ?_ | refine Wc.exit ?_ | refine Wc.ret ?_ | refine Wc.cond_true rfl ?_ | refine Wc.cond_false rfl ?_ | (refine Wc.drawn (id := 10) 7 (by kernel_rfl) ?_) | (refine rgs_nil ?_; intro vs wk hE; replace H := H.ext hE; clear hE) | (refine RGs.bq (fun _ => rfl) rfl (by intro vs w hE hP; have H := H.ext hE; first | exact dbQ | fail) (fun hc => ?_) (fun hc => ?_) <;> ((try simp only [cmpP, decide_eq_true_eq, decide_eq_false_iff_not, dcd_iff, dcd_no] at hc); try exact prDQ)) | refine RGs.pq (fun _ => rfl) rfl (by intro vs w hE hP; have H := H.ext hE; first | exact dvQ | fail) ?_)
    exact fn_ret3 (v1 := .slice _ _ _) (v2 := .int _ _) (v3 := .int _ _) rfl rfl rfl rfl ⟨_, _, H, _, _, rfl, rfl, rfl, nil8⟩
end Go.Tg

