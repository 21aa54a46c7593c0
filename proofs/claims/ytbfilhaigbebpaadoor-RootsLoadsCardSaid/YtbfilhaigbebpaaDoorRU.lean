/- Contracts of Go functions that the laws reach: what each call answers and leaves in memory, for all arguments within the bounds that each theorem names. -/
import Derived.Test.YtbfilhaigbebpaaDoorInst
import Derived.Test.YtbfilhaigbebpaaDoorAuto
import Derived.Test.YtbfilhaigbebpaaDoorRJ
set_option linter.unusedVariables false
set_option linter.unusedSimpArgs false
set_option maxRecDepth 100000
set_option maxHeartbeats 4000000
namespace Go.Tg
open Go Go.Proofs
theorem r10_FirstQ (n : Nat) (h0 : FH) (a : Option Addr) (c : Nat) (b : List UInt8) (w : World) (hs : Sat h0 w) (hn : n = b.length) (hr : BS h0 a c b) (hb : b.length ≤ 1000000000) :
    Spec Tryd.prog 51 #[.slice a n c] w [] h0 (fun v h' L' => ∃ a' c', v = .tuple #[.slice a' (firstF b).1.length c', .int .i64 (firstF b).2.1, .int .i64 (firstF b).2.2] ∧ h' = h0 ∧ L' = []) := by
  subst hn
  exact (r10_First h0 a c b w hs hr hb).mono fun v h' L' ⟨a', c', h1, h2, h3, h4⟩ => ⟨a', c', h1, h2, h3⟩
theorem r13_DecodeQ (n : Nat) (h0 : FH) (a : Option Addr) (c : Nat) (b : List UInt8) (w : World) (hs : Sat h0 w) (hn : n = b.length) (hr : BS h0 a c b) (hb : b.length ≤ 1000000) :
    Spec Tryd.prog 66 #[.slice a n c] w [] h0 (fun v h' L' => ∃ A, v = .tuple #[.agg (pgV (decP b).1 A).toArray, .int .i64 (decP b).2] ∧ L' = [] ∧ PgR h' (decP b).1 A) := by
  subst hn; exact r13_Decode h0 a c b w hs hr hb
theorem r15_read (h0 : FH) (a : Option Addr) (c : Nat) (b : List UInt8) (i : Nat) (w : World) (hs : Sat h0 w) (hr : BS h0 a c b) (hb : b.length ≤ 1000000) (hi : i < 4294967296) :
    Spec Tryd.prog 49 #[.slice a b.length c, .int .i64 (i : Int)] w [] h0 (fun v h' L' => L' = [] ∧ ∃ p A q, v = .tuple #[.agg (pgV p A).toArray, .bool q] ∧ PgR h' p A ∧ ((q = true ∧ pageAt b i = some p) ∨ (q = false ∧ pageAt b i = none))) := by
  have H := St.start hs
  have hcap := hr.le
  have hmx := hr.mx
  have lz : (pgV zeroP zeroA).length = 4 := rfl
  have hPz : ∀ h, PgR h zeroP zeroA := fun h => ⟨Sl.nil _ _, Sl.nil _ _, Sl.nil _ _⟩
  unfold Spec
  refine calls_of Tryd.func49 rfl Tryd.ntmps49 (by simp) ?_
  by_cases hib : i < b.length
  · have hFF := fun g w hs hn hr => r10_FirstQ (b.length - i) g (if c = i then a else a.map (·.add (i * 1))) (c - i) (b.drop i) w hs hn hr (by rw [List.length_drop]; omega)
    have hpg1 := @pageAt_no2 b i
    have hpg2 := @pageAt_no3 b i
    have hpg3 := @pageAt_yes b i hib
    have hok := @firstF_ok (b.drop i)
    generalize firstF (b.drop i) = F at hFF hpg1 hpg2 hpg3 hok
    obtain ⟨f, k, e⟩ := F
    dsimp only at hFF hpg1 hpg2 hpg3 hok
    by_cases he : e = 0
    · subst he
      obtain ⟨_, _, hk⟩ := hok rfl
      rw [List.length_drop] at hk
      have hDD := fun g w hs hr => r13_DecodeQ (i + k - i) g (if c = i then a else a.map (·.add (i * 1))) (c - i) ((b.drop i).take k) w hs (by rw [List.length_take, List.length_drop]; omega) hr (by rw [List.length_take, List.length_drop]; omega)
      generalize decP ((b.drop i).take k) = D at hDD hpg2 hpg3
      obtain ⟨p, ep⟩ := D
      dsimp only at hDD hpg2 hpg3
      have lp := pgV_len p
      repeat' (first | ((first | refine WL.p rfl ?_ | refine WL.u ?_ | refine WL.g rfl rfl ?_ | refine WL.gu rfl ?_); first | (refine opk 1 rfl ?_; first | (refine ost_C H rfl (hFF _ _ (sat_full _) (by rw [List.length_drop]) ((hr.full H).drop (by omega))) rfl ?_; clear H; rintro vk wk hfk Lk ⟨a1, c1, rfl, -, rfl⟩ H; simp only [List.cons_append, List.nil_append] at H) | (refine ost_Sk H rfl (hDD _ _ H.sat (hr.dropE i k (by omega))) rfl ?_; clear H; rintro vk wk hfk Lk ⟨A, rfl, rfl, hP⟩ hle H; simp only [List.cons_append, List.nil_append] at H)) | refine pvQ ?_ | (refine opk 3 rfl ?_; (refine ost_cmp rfl rfl rfl rfl (fun hc => ?_) (fun hc => ?_) <;> (simp only [cmpP] at hc; try exact prIQ))) | (refine opk 4 rfl ?_; (refine ost_cmp rfl rfl rfl rfl (fun hc => ?_) (fun hc => ?_) <;> (simp only [cmpP] at hc; try exact prIQ))) | (refine opk 8 rfl ?_; (refine ost_storeW H rfl rfl rfl rfl lQ ixQ lQ okQ ?_; clear H; intro wk H; simp only [List.set_cons_zero, List.set_cons_succ, Nat.reduceAdd] at H)) | (refine opk 9 rfl ?_; (refine ost_allocA H rfl ?_; clear H; intro bk wk H))) | refine Wc.seq ?_ | refine then_n ?_ | refine WL.nil ?_ | refine Wc.region ?_ | refine Wc.block ?_ | refine then_r ?_ | refine then_e ?_ | refine inb_e rfl ?_ | refine inb_o rfl ?_ | refine inb_n ?_ | refine inb_r ?_ | refine Wc.skip ?_ | refine Wc.exit ?_ | refine Wc.ret ?_ | refine Wc.cond_true rfl ?_ | refine Wc.cond_false rfl ?_ | refine WL.skp rfl rfl ?_ | refine WL.sku rfl ?_)
      · exact fn_ret2 (v2 := .bool _) rfl (rv_cellA rfl rfl H.bI lQ) rfl ⟨_, _, H.picks [] rfl (by decide), rfl, p, A, true, rfl, hP, .inl ⟨rfl, hpg3 rfl (by assumption)⟩⟩
      · exact fn_ret2 (v2 := .bool _) rfl (rv_cellA rfl rfl H.bI lQ) rfl ⟨_, _, H.picks [] rfl (by decide), rfl, p, A, false, rfl, hP, .inr ⟨rfl, hpg2 (by assumption)⟩⟩
    · repeat' (first | ((first | refine WL.p rfl ?_ | refine WL.u ?_ | refine WL.g rfl rfl ?_ | refine WL.gu rfl ?_); first | (refine opk 1 rfl ?_; (refine ost_C H rfl (hFF _ _ (sat_full _) (by rw [List.length_drop]) ((hr.full H).drop (by omega))) rfl ?_; clear H; rintro vk wk hfk Lk ⟨a1, c1, rfl, -, rfl⟩ H; simp only [List.cons_append, List.nil_append] at H)) | (refine opk 9 rfl ?_; (refine ost_buildS rfl evP_nil rfl (rfl : _ = [_, _, _, _]) ?_)) | refine pvQ ?_ | (refine opk 3 rfl ?_; (refine ost_cmp rfl rfl rfl rfl (fun hc => ?_) (fun hc => ?_) <;> (simp only [cmpP] at hc; try exact prIQ))) | (refine opk 4 rfl ?_; (refine ost_cmp rfl rfl rfl rfl (fun hc => ?_) (fun hc => ?_) <;> (simp only [cmpP] at hc; try exact prIQ))) | (refine opk 8 rfl ?_; (refine ost_storeW H rfl rfl rfl rfl lQ ixQ lQ okQ ?_; clear H; intro wk H; simp only [List.set_cons_zero, List.set_cons_succ, Nat.reduceAdd] at H)) | (refine opk 9 rfl ?_; (refine ost_allocA H rfl ?_; clear H; intro bk wk H))) | refine Wc.seq ?_ | refine then_n ?_ | refine WL.nil ?_ | refine Wc.region ?_ | refine Wc.block ?_ | refine then_r ?_ | refine then_e ?_ | refine inb_e rfl ?_ | refine inb_o rfl ?_ | refine inb_n ?_ | refine inb_r ?_ | refine Wc.skip ?_ | refine Wc.exit ?_ | refine Wc.ret ?_ | refine Wc.cond_true rfl ?_ | refine Wc.cond_false rfl ?_ | refine WL.skp rfl rfl ?_ | refine WL.sku rfl ?_)
      all_goals first | (exfalso; omega) | exact fn_ret2 (v2 := .bool _) rfl (rv_cellA rfl rfl H.bI lQ) rfl ⟨_, _, H.picks [] rfl (by decide), rfl, zeroP, zeroA, false, rfl, hPz _, .inr ⟨rfl, hpg1 he⟩⟩
  · repeat' (first | ((first | refine WL.p rfl ?_ | refine WL.u ?_ | refine WL.g rfl rfl ?_ | refine WL.gu rfl ?_); first | (refine opk 9 rfl ?_; (refine ost_buildS rfl evP_nil rfl (rfl : _ = [_, _, _, _]) ?_)) | refine pvQ ?_ | (refine opk 3 rfl ?_; (refine ost_cmp rfl rfl rfl rfl (fun hc => ?_) (fun hc => ?_) <;> (simp only [cmpP] at hc; try exact prIQ))) | (refine opk 4 rfl ?_; (refine ost_cmp rfl rfl rfl rfl (fun hc => ?_) (fun hc => ?_) <;> (simp only [cmpP] at hc; try exact prIQ))) | (refine opk 8 rfl ?_; (refine ost_storeW H rfl rfl rfl rfl lQ ixQ lQ okQ ?_; clear H; intro wk H; simp only [List.set_cons_zero, List.set_cons_succ, Nat.reduceAdd] at H)) | (refine opk 9 rfl ?_; (refine ost_allocA H rfl ?_; clear H; intro bk wk H))) | refine Wc.seq ?_ | refine then_n ?_ | refine WL.nil ?_ | refine Wc.region ?_ | refine Wc.block ?_ | refine then_r ?_ | refine then_e ?_ | refine inb_e rfl ?_ | refine inb_o rfl ?_ | refine inb_n ?_ | refine inb_r ?_ | refine Wc.skip ?_ | refine Wc.exit ?_ | refine Wc.ret ?_ | refine Wc.cond_true rfl ?_ | refine Wc.cond_false rfl ?_ | refine WL.skp rfl rfl ?_ | refine WL.sku rfl ?_)
    all_goals first | (exfalso; omega) | exact fn_ret2 (v2 := .bool _) rfl (rv_cellA rfl rfl H.bI lQ) rfl ⟨_, _, H.picks [] rfl (by decide), rfl, zeroP, zeroA, false, rfl, hPz _, .inr ⟨rfl, pageAt_no1 hib⟩⟩
end Go.Tg

set_option linter.unusedVariables false
set_option linter.unusedSimpArgs false
set_option maxRecDepth 100000
set_option maxHeartbeats 4000000
namespace Go.Tg
open Go Go.Proofs
def cZ (n : Nat) : List Value := [.int .i64 (n : Int)]
theorem rows_lenZ (l : List Nat) : ∀ r, r ∈ l.map cZ → r.length = 1 := fun r hr => by obtain ⟨x, -, rfl⟩ := List.mem_map.1 hr; rfl
theorem cZ_ones (l : List Nat) : ∀ u ∈ (l.map cZ).flatten, u.oneCell' = true := by
  intro u hu
  obtain ⟨r, hr9, hu9⟩ := List.mem_flatten.1 hu
  obtain ⟨y, -, rfl⟩ := List.mem_map.1 hr9
  rw [List.mem_singleton.1 hu9]; rfl
theorem r15_collect (h0 : FH) (a : Option Addr) (c : Nat) (b : List UInt8) (root : Nat) (w : World) (hs : Sat h0 w) (hr : BS h0 a c b) (hb : b.length ≤ 1000000) (hroot : root < 4294967296) :
    Spec Tryd.prog 29 #[.slice a b.length c, .int .i64 (root : Int)] w [] h0 (fun v h' L' => h' = h0 ∧ ∃ a' c' l q, v = .tuple #[.slice a' (List.length l) c', .bool q] ∧ L' = [ownR (.slice a' l.length c') 83 5 (l.map cItem)] ∧
      ((q = true ∧ ∃ lf, rdF b 8192 [root] = some (l, lf)) ∨ (q = false ∧ l = [] ∧ rdF b 8192 [root] = none))) := by
  have H := St.start hs
  have hcap := hr.le
  unfold Spec
  refine calls_of Tryd.func29 rfl Tryd.ntmps29 (by simp) ?_
  repeat' (first | ((first | refine WL.p rfl ?_ | refine WL.u ?_ | refine WL.g rfl rfl ?_ | refine WL.gu rfl ?_); first | (refine opk 9 rfl ?_; (refine ost_buildR (rows := [[Value.int .i64 (root : Int)]]) H rfl (by decide) rfl (by rfl) (evP1 vxQ) (.cons rfl .nil) rfl (fun r hr => by rw [List.mem_singleton.1 hr]; rfl) ?_; clear H; intro bk wk H)) | refine pvQ ?_ | (refine opk 3 rfl ?_; (refine ost_cmp rfl rfl rfl rfl (fun hc => ?_) (fun hc => ?_) <;> (simp only [cmpP] at hc; try exact prIQ))) | (refine opk 4 rfl ?_; (refine ost_cmp rfl rfl rfl rfl (fun hc => ?_) (fun hc => ?_) <;> (simp only [cmpP] at hc; try exact prIQ))) | (refine opk 8 rfl ?_; (refine ost_storeW H rfl rfl rfl rfl lQ ixQ lQ okQ ?_; clear H; intro wk H; simp only [List.set_cons_zero, List.set_cons_succ, Nat.reduceAdd] at H)) | (refine opk 9 rfl ?_; first | (refine ost_allocA H rfl ?_; clear H; intro bk wk H) | (refine ost_build1 H rfl rfl rfl evQ lsQ rfl ?_; clear H; intro bk wk H))) | refine Wc.seq ?_ | refine then_n ?_ | refine WL.nil ?_ | refine Wc.region ?_ | refine Wc.block ?_ | refine then_r ?_ | refine then_e ?_ | refine inb_e rfl ?_ | refine inb_o rfl ?_ | refine inb_n ?_ | refine inb_r ?_ | refine Wc.skip ?_ | refine Wc.exit ?_ | refine Wc.ret ?_ | refine Wc.cond_true rfl ?_ | refine Wc.cond_false rfl ?_ | (refine Wc.drawn (id := 20) 13 (by kernel_rfl) ?_) | refine WL.skp rfl rfl ?_ | refine WL.sku rfl ?_ | (refine rgs_nil ?_; intro vs wk hE; replace H := H.ext hE; clear hE) | refine RGs.skp (fun _ => rfl) rfl ?_ | (refine RGs.bq (fun _ => rfl) rfl (by intro vs w hE hP; have H := H.ext hE; first | exact dbQ | fail) (fun hc => ?_) (fun hc => ?_) <;> ((try simp only [cmpP, decide_eq_true_eq, decide_eq_false_iff_not, dcd_iff, dcd_no] at hc); try exact prDQ)) | refine RGs.pq (fun _ => rfl) rfl (by intro vs w hE hP; have H := H.ext hE; first | exact dvQ | fail) ?_)
  obtain ⟨at1, ct1, h7, e7, hle7, hN7, H7⟩ := H.freezeR (rows := [root].map cZ) (rows_lenZ _)
  clear H
  cases e7
  generalize some (⟨_, 0, none⟩ : Addr) = at1 at hN7 ⊢
  replace H7 := H7.nilOwn 83 5
  refine Wc.loopE (fun s0 m s w' => ∃ (k : Nat) (todo : List Nat) (acc : List ItemT) (at_ : Option Addr) (ct : Nat) (ai : Option Addr) (ci : Nat) (h7 : FH), m = 8193 - k ∧ k ≤ 8192 ∧ FLe h0 h7 ∧ Agree [4, 5, 6, 7, 8, 9, 10, 11, 12, 13, 14, 17, 18, 19, 20, 21, 22, 23, 24, 25, 26, 27, 28, 29, 30, 31, 32, 33, 34, 35, 36, 37, 38, 39, 40, 41, 42, 43, 44, 45, 46, 47, 48, 49, 50, 51, 52, 53, 54, 55, 56, 57, 58, 59, 60, 61, 62, 63, 64, 65, 66, 67, 68, 69, 70, 71, 72, 73, 74, 75, 76, 77, 78] s s0 ∧ s 6 = .slice ai acc.length ci ∧ s 7 = .slice at_ todo.length ct ∧ s 8 = .int .i64 k ∧ Sl h7 1 at_ ct (todo.map cZ) ∧ (∀ x, x ∈ todo → x < 4294967296) ∧ todo.length ≤ 1 + 8 * k ∧ acc.length ≤ 8 * k ∧
    rdF b 8192 [root] = (rdF b (8192 - k) todo).map (fun r => (acc ++ r.1, r.2)) ∧
    St w [] h0 h7 [ownR (.slice ai acc.length ci) 83 5 (acc.map cItem)] w') _ ⟨0, [root], [], at1, 1, none, 0, h7, rfl, by omega, hle7, Agree.refl _ _, rfl, rfl, rfl, hN7, fun x hx => by rw [List.mem_singleton.1 hx]; exact hroot, by simp, by simp, by cases rdF b 8192 [root] <;> rfl, H7⟩ ?_
  clear H7 hN7 hle7
  rintro m s w' ⟨k, todo, acc, at_, ct, ai, ci, h7, rfl, hk, hle7, hA, e1, e2, e3, hN, hlt, htl, hal, hrd, H⟩
  obtain ⟨j, rfl⟩ := hA.env3 e1 e2 e3
  clear hA e1 e2 e3
  cases todo with
  | nil =>
    rw [rdF_nil] at hrd
    dsimp only [List.length_nil]
    repeat' (first | ((first | refine WL.p rfl ?_ | refine WL.u ?_ | refine WL.g rfl rfl ?_ | refine WL.gu rfl ?_); first | refine pvQ ?_ | (refine opk 3 rfl ?_; (refine ost_cmp rfl rfl rfl rfl (fun hc => ?_) (fun hc => ?_) <;> (simp only [cmpP] at hc; try exact prIQ))) | (refine opk 4 rfl ?_; (refine ost_cmp rfl rfl rfl rfl (fun hc => ?_) (fun hc => ?_) <;> (simp only [cmpP] at hc; try exact prIQ))) | (refine opk 8 rfl ?_; (refine ost_storeW H rfl rfl rfl rfl lQ ixQ lQ okQ ?_; clear H; intro wk H; simp only [List.set_cons_zero, List.set_cons_succ, Nat.reduceAdd] at H)) | (refine opk 9 rfl ?_; first | (refine ost_allocA H rfl ?_; clear H; intro bk wk H) | (refine ost_build1 H rfl rfl rfl evQ lsQ rfl ?_; clear H; intro bk wk H))) | refine Wc.seq ?_ | refine then_n ?_ | refine WL.nil ?_ | refine Wc.region ?_ | refine Wc.block ?_ | refine then_r ?_ | refine then_e ?_ | refine inb_e rfl ?_ | refine inb_o rfl ?_ | refine inb_n ?_ | refine inb_r ?_ | refine Wc.skip ?_ | refine Wc.exit ?_ | refine Wc.ret ?_ | refine Wc.cond_true rfl ?_ | refine Wc.cond_false rfl ?_ | (refine Wc.drawn (id := 20) 13 (by kernel_rfl) ?_) | refine WL.skp rfl rfl ?_ | refine WL.sku rfl ?_ | (refine rgs_nil ?_; intro vs wk hE; replace H := H.ext hE; clear hE) | refine RGs.skp (fun _ => rfl) rfl ?_ | (refine RGs.bq (fun _ => rfl) rfl (by intro vs w hE hP; have H := H.ext hE; first | exact dbQ | fail) (fun hc => ?_) (fun hc => ?_) <;> ((try simp only [cmpP, decide_eq_true_eq, decide_eq_false_iff_not, dcd_iff, dcd_no] at hc); try exact prDQ)) | refine RGs.pq (fun _ => rfl) rfl (by intro vs w hE hP; have H := H.ext hE; first | exact dvQ | fail) ?_)
    all_goals first | (exfalso; omega) | exact fn_ret2 (v1 := .slice _ _ _) (v2 := .bool _) rfl rfl rfl ⟨h0, _, H.forget hle7 (fun _ _ _ => rfl), rfl, _, _, acc, true, rfl, rfl, .inl ⟨rfl, 8192 - k, by rw [hrd]; simp⟩⟩
  | cons x rest =>
    have hx := hlt x (by simp)
    obtain ⟨b7, off7, l7, T7, fr7, e7, eb7, eg7⟩ := hN.getM (by decide) (by simp)
    subst e7
    have g7 : l7[off7 + (0 : Int).toNat * 1]? = some (.int .i64 (x : Nat)) := row_cell (row := cZ x) (eg7 (0 : Int).toNat 0 (by simp) rfl) (q := 0) (by simp [cZ])
    clear eg7
    have hN1 := hN.drop (n := 1) (by simp)
    have hNc := hN.lenM
    have hr7 := hr.mono hle7
    have hRd := fun w hs => r15_read h7 a c b x w hs hr7 hb hx
    rw [List.length_cons] at htl hNc
    have hlc : (x :: rest).length = rest.length + 1 := rfl
    repeat' (first | ((first | refine WL.p rfl ?_ | refine WL.u ?_ | refine WL.g rfl rfl ?_ | refine WL.gu rfl ?_); first | (refine opk 1 rfl ?_; (refine ost_Sk H rfl (hRd _ H.sat) rfl ?_; clear H; rintro vk wk hfk Lk ⟨rfl, p, A, q, rfl, hP, hq⟩ hle H; simp only [List.cons_append, List.nil_append] at H)) | refine pvQ ?_ | (refine opk 3 rfl ?_; (refine ost_cmp rfl rfl rfl rfl (fun hc => ?_) (fun hc => ?_) <;> (simp only [cmpP] at hc; try exact prIQ))) | (refine opk 4 rfl ?_; (refine ost_cmp rfl rfl rfl rfl (fun hc => ?_) (fun hc => ?_) <;> (simp only [cmpP] at hc; try exact prIQ))) | (refine opk 8 rfl ?_; (refine ost_storeW H rfl rfl rfl rfl lQ ixQ lQ okQ ?_; clear H; intro wk H; simp only [List.set_cons_zero, List.set_cons_succ, Nat.reduceAdd] at H)) | (refine opk 9 rfl ?_; first | (refine ost_allocA H rfl ?_; clear H; intro bk wk H) | (refine ost_build1 H rfl rfl rfl evQ lsQ rfl ?_; clear H; intro bk wk H))) | refine Wc.seq ?_ | refine then_n ?_ | refine WL.nil ?_ | refine Wc.region ?_ | refine Wc.block ?_ | refine then_r ?_ | refine then_e ?_ | refine inb_e rfl ?_ | refine inb_o rfl ?_ | refine inb_n ?_ | refine inb_r ?_ | refine Wc.skip ?_ | refine Wc.exit ?_ | refine Wc.ret ?_ | refine Wc.cond_true rfl ?_ | refine Wc.cond_false rfl ?_ | (refine Wc.drawn (id := 20) 13 (by kernel_rfl) ?_) | refine WL.skp rfl rfl ?_ | refine WL.sku rfl ?_ | (refine rgs_nil ?_; intro vs wk hE; replace H := H.ext hE; clear hE) | refine RGs.skp (fun _ => rfl) rfl ?_ | (refine RGs.bq (fun _ => rfl) rfl (by intro vs w hE hP; have H := H.ext hE; first | exact dbQ | fail) (fun hc => ?_) (fun hc => ?_) <;> ((try simp only [cmpP, decide_eq_true_eq, decide_eq_false_iff_not, dcd_iff, dcd_no] at hc); try exact prDQ)) | refine RGs.pq (fun _ => rfl) rfl (by intro vs w hE hP; have H := H.ext hE; first | exact dvQ | fail) ?_)
    all_goals first | (exfalso; omega) | skip
    obtain ⟨bp, ebp⟩ := H.nameB idx0
    subst ebp
    have lp := pgV_len p A
    rcases hq with ⟨rfl, hpa⟩ | ⟨rfl, hpa⟩
    · by_cases hk8 : k = 8192
      · subst hk8
        have hnone : rdF b 8192 [root] = none := by
          rw [hrd, show 8192 - 8192 = 0 from rfl, rdF_zero]; rfl
        repeat' (first | ((first | refine WL.p rfl ?_ | refine WL.u ?_ | refine WL.g rfl rfl ?_ | refine WL.gu rfl ?_); first | refine pvQ ?_ | (refine opk 3 rfl ?_; (refine ost_cmp rfl rfl rfl rfl (fun hc => ?_) (fun hc => ?_) <;> (simp only [cmpP] at hc; try exact prIQ))) | (refine opk 4 rfl ?_; (refine ost_cmp rfl rfl rfl rfl (fun hc => ?_) (fun hc => ?_) <;> (simp only [cmpP] at hc; try exact prIQ))) | (refine opk 8 rfl ?_; (refine ost_storeW H rfl rfl rfl rfl lQ ixQ lQ okQ ?_; clear H; intro wk H; simp only [List.set_cons_zero, List.set_cons_succ, Nat.reduceAdd] at H)) | (refine opk 9 rfl ?_; first | (refine ost_allocA H rfl ?_; clear H; intro bk wk H) | (refine ost_build1 H rfl rfl rfl evQ lsQ rfl ?_; clear H; intro bk wk H))) | refine Wc.seq ?_ | refine then_n ?_ | refine WL.nil ?_ | refine Wc.region ?_ | refine Wc.block ?_ | refine then_r ?_ | refine then_e ?_ | refine inb_e rfl ?_ | refine inb_o rfl ?_ | refine inb_n ?_ | refine inb_r ?_ | refine Wc.skip ?_ | refine Wc.exit ?_ | refine Wc.ret ?_ | refine Wc.cond_true rfl ?_ | refine Wc.cond_false rfl ?_ | (refine Wc.drawn (id := 20) 13 (by kernel_rfl) ?_) | refine WL.skp rfl rfl ?_ | refine WL.sku rfl ?_ | (refine rgs_nil ?_; intro vs wk hE; replace H := H.ext hE; clear hE) | refine RGs.skp (fun _ => rfl) rfl ?_ | (refine RGs.bq (fun _ => rfl) rfl (by intro vs w hE hP; have H := H.ext hE; first | exact dbQ | fail) (fun hc => ?_) (fun hc => ?_) <;> ((try simp only [cmpP, decide_eq_true_eq, decide_eq_false_iff_not, dcd_iff, dcd_no] at hc); try exact prDQ)) | refine RGs.pq (fun _ => rfl) rfl (by intro vs w hE hP; have H := H.ext hE; first | exact dvQ | fail) ?_)
        all_goals first | (exfalso; omega) | exact fn_ret2 (v1 := .slice _ _ _) (v2 := .bool _) rfl rfl rfl ⟨h0, _, ((H.picks (L' := []) [] rfl (by decide)).nilOwn 83 5).forget (hle7.trans hle) (fun _ _ _ => rfl), rfl, none, 0, [], false, rfl, rfl, .inr ⟨rfl, rfl, hnone⟩⟩
      · have hkp : 8192 - k = (8192 - (k + 1)) + 1 := by omega
        rw [hkp, rdF_page hpa] at hrd
        obtain ⟨hs1, hs2, hs3⟩ := pageAt_shape hpa
        obtain ⟨ak, ck, al, cl, ad, cd⟩ := A
        have hkk : (k : Int) + 1 = ((k + 1 : Nat) : Int) := by omega
        repeat' (first | ((first | refine WL.p rfl ?_ | refine WL.u ?_ | refine WL.g rfl rfl ?_ | refine WL.gu rfl ?_); first | refine pvQ ?_ | (refine opk 3 rfl ?_; (refine ost_cmp rfl rfl rfl rfl (fun hc => ?_) (fun hc => ?_) <;> (simp only [cmpP] at hc; try exact prIQ))) | (refine opk 4 rfl ?_; (refine ost_cmp rfl rfl rfl rfl (fun hc => ?_) (fun hc => ?_) <;> (simp only [cmpP] at hc; try exact prIQ))) | (refine opk 8 rfl ?_; (refine ost_storeW H rfl rfl rfl rfl lQ ixQ lQ okQ ?_; clear H; intro wk H; simp only [List.set_cons_zero, List.set_cons_succ, Nat.reduceAdd] at H)) | (refine opk 9 rfl ?_; first | (refine ost_allocA H rfl ?_; clear H; intro bk wk H) | (refine ost_build1 H rfl rfl rfl evQ lsQ rfl ?_; clear H; intro bk wk H))) | refine Wc.seq ?_ | refine then_n ?_ | refine WL.nil ?_ | refine Wc.region ?_ | refine Wc.block ?_ | refine then_r ?_ | refine then_e ?_ | refine inb_e rfl ?_ | refine inb_o rfl ?_ | refine inb_n ?_ | refine inb_r ?_ | refine Wc.skip ?_ | refine Wc.exit ?_ | refine Wc.ret ?_ | refine Wc.cond_true rfl ?_ | refine Wc.cond_false rfl ?_ | (refine Wc.drawn (id := 20) 13 (by kernel_rfl) ?_) | refine WL.skp rfl rfl ?_ | refine WL.sku rfl ?_ | (refine rgs_nil ?_; intro vs wk hE; replace H := H.ext hE; clear hE) | refine RGs.skp (fun _ => rfl) rfl ?_ | (refine RGs.bq (fun _ => rfl) rfl (by intro vs w hE hP; have H := H.ext hE; first | exact dbQ | fail) (fun hc => ?_) (fun hc => ?_) <;> ((try simp only [cmpP, decide_eq_true_eq, decide_eq_false_iff_not, dcd_iff, dcd_no] at hc); try exact prDQ)) | refine RGs.pq (fun _ => rfl) rfl (by intro vs w hE hP; have H := H.ext hE; first | exact dvQ | fail) ?_)
        all_goals first | (exfalso; omega) | skip
        have hts : (x :: rest).length - (1 : Int).toNat = (rest.map cZ).length := by simp
        rw [hkk, hts]
        have hNr : Sl hfk 1 _ (ct - 1) (rest.map cZ) := hN1.mono hle
        replace H := H.nilOwn 3 1
        refine Wc.loopE (fun s0 m s w' => ∃ (j : Nat) (a1 : Option Addr) (c1 : Nat), m = p.kids.length - j ∧ j ≤ p.kids.length ∧ Agree [12, 13, 39, 40, 41, 42, 43, 44, 45, 46, 47, 48, 49, 50, 51, 52, 53, 54] s s0 ∧ s 12 = .slice a1 (((p.kids.map (·.toNat)).take j).map cZ).length c1 ∧ s 13 = .int .i64 j ∧
          St w [] h0 hfk [ownR (.slice a1 (((p.kids.map (·.toNat)).take j).map cZ).length c1) 3 1 (((p.kids.map (·.toNat)).take j).map cZ), .blk bp (.cells (pgV p ⟨ak, ck, al, cl, ad, cd⟩).toArray 134 (0, 0)), ownR (.slice ai acc.length ci) 83 5 (acc.map cItem)] w') _ ⟨0, _, _, rfl, by omega, Agree.refl _ _, rfl, rfl, H⟩ ?_
        clear H
        rintro m s w' ⟨j1, a1, c1, rfl, hj1, hA, e1, e2, H⟩
        obtain ⟨j9, rfl⟩ := hA.env2 e1 e2
        clear hA e1 e2
        have hKl : (((p.kids.map (·.toNat)).take j1).map cZ).length = j1 := by simp; omega
        by_cases hlt1 : j1 < p.kids.length
        · obtain ⟨b8, off8, l8, T8, fr8, e8, eb8, eg8⟩ := hP.d.getM (by decide) (by omega)
          dsimp only at e8
          subst e8
          have g8 : l8[off8 + (j1 : Int).toNat * 1]? = some (.int .u32 (p.kids[j1].toNat : Nat)) := row_cell (row := cKid p.kids[j1]) (eg8 (j1 : Int).toNat j1 hlt1 rfl) (q := 0) (by simp [cKid])
          clear eg8
          have hkd : p.kids[j1].toNat < 4294967296 := UInt32.toNat_lt _
          have hsp : ((p.kids.map (·.toNat)).take (j1 + 1)).map cZ = ((p.kids.map (·.toNat)).take j1).map cZ ++ [[Value.int .i64 (p.kids[j1].toNat : Nat)]] := by
            rw [List.take_add_one, List.getElem?_map, List.getElem?_eq_getElem hlt1, List.map_append]; rfl
          generalize p.kids[j1].toNat = kid at g8 hkd hsp
          generalize ((p.kids.map (·.toNat)).take j1).map cZ = KS at H hKl hsp
          repeat' (first | ((first | refine WL.p rfl ?_ | refine WL.u ?_ | refine WL.g rfl rfl ?_ | refine WL.gu rfl ?_); first | (refine opk 1 rfl ?_; (refine ost_appR (rows := KS) (row := [Value.int .i64 (kid : Int)]) H rfl rfl rfl (by (exact ixQ)) (by (exact ixQ)) (by rfl) (by first | simp; done | exact Nat.succ_pos _) rfl (allOne_of rfl) rfl (by omega) ?_; clear H; intro aa ca wk H; simp only [List.set_cons_zero, List.set_cons_succ] at H)) | (refine opk 9 rfl ?_; (refine ost_buildR (rows := [[Value.int .i64 (kid : Int)]]) H rfl (by decide) rfl (by rfl) (evP1 vxQ) (.cons rfl .nil) rfl (fun r hr => by rw [List.mem_singleton.1 hr]; rfl) ?_; clear H; intro bk wk H)) | refine pvQ ?_ | (refine opk 3 rfl ?_; (refine ost_cmp rfl rfl rfl rfl (fun hc => ?_) (fun hc => ?_) <;> (simp only [cmpP] at hc; try exact prIQ))) | (refine opk 4 rfl ?_; (refine ost_cmp rfl rfl rfl rfl (fun hc => ?_) (fun hc => ?_) <;> (simp only [cmpP] at hc; try exact prIQ))) | (refine opk 8 rfl ?_; (refine ost_storeW H rfl rfl rfl rfl lQ ixQ lQ okQ ?_; clear H; intro wk H; simp only [List.set_cons_zero, List.set_cons_succ, Nat.reduceAdd] at H)) | (refine opk 9 rfl ?_; first | (refine ost_allocA H rfl ?_; clear H; intro bk wk H) | (refine ost_build1 H rfl rfl rfl evQ lsQ rfl ?_; clear H; intro bk wk H))) | refine Wc.seq ?_ | refine then_n ?_ | refine WL.nil ?_ | refine Wc.region ?_ | refine Wc.block ?_ | refine then_r ?_ | refine then_e ?_ | refine inb_e rfl ?_ | refine inb_o rfl ?_ | refine inb_n ?_ | refine inb_r ?_ | refine Wc.skip ?_ | refine Wc.exit ?_ | refine Wc.ret ?_ | refine Wc.cond_true rfl ?_ | refine Wc.cond_false rfl ?_ | (refine Wc.drawn (id := 20) 13 (by kernel_rfl) ?_) | refine WL.skp rfl rfl ?_ | refine WL.sku rfl ?_ | (refine rgs_nil ?_; intro vs wk hE; replace H := H.ext hE; clear hE) | refine RGs.skp (fun _ => rfl) rfl ?_ | (refine RGs.bq (fun _ => rfl) rfl (by intro vs w hE hP; have H := H.ext hE; first | exact dbQ | fail) (fun hc => ?_) (fun hc => ?_) <;> ((try simp only [cmpP, decide_eq_true_eq, decide_eq_false_iff_not, dcd_iff, dcd_no] at hc); try exact prDQ)) | refine RGs.pq (fun _ => rfl) rfl (by intro vs w hE hP; have H := H.ext hE; first | exact dvQ | fail) ?_)
          rw [← hsp] at H
          exact ⟨p.kids.length - (j1 + 1), by omega, j1 + 1, _, _, rfl, by omega, by (repeat' (first | exact Agree.refl _ _ | exact Agree.havoc | refine Agree.upd rfl ?_ | refine Agree.hav2 rfl ?_)), by rw [hsp]; rfl, rfl, H.picks [1, 2, 3] rfl (by decide)⟩
        · obtain rfl : j1 = p.kids.length := by omega
          have htk : (p.kids.map (·.toNat)).take p.kids.length = p.kids.map (·.toNat) := List.take_of_length_le (by simp)
          rw [htk] at H hKl ⊢
          have hrl : (rest.map cZ).length = rest.length := by simp
          repeat' (first | ((first | refine WL.p rfl ?_ | refine WL.u ?_ | refine WL.g rfl rfl ?_ | refine WL.gu rfl ?_); first | (refine opk 1 rfl ?_; (refine ost_appRs (rows := (p.kids.map (·.toNat)).map cZ) (more := rest.map cZ) H rfl rfl rfl (by (exact ixQ)) (hNr.full H) (by rfl) (by decide) (cZ_ones rest) rfl (by omega) ?_; clear H; intro aa ca wk H; simp only [List.set_cons_zero, List.set_cons_succ] at H)) | refine pvQ ?_ | (refine opk 3 rfl ?_; (refine ost_cmp rfl rfl rfl rfl (fun hc => ?_) (fun hc => ?_) <;> (simp only [cmpP] at hc; try exact prIQ))) | (refine opk 4 rfl ?_; (refine ost_cmp rfl rfl rfl rfl (fun hc => ?_) (fun hc => ?_) <;> (simp only [cmpP] at hc; try exact prIQ))) | (refine opk 8 rfl ?_; (refine ost_storeW H rfl rfl rfl rfl lQ ixQ lQ okQ ?_; clear H; intro wk H; simp only [List.set_cons_zero, List.set_cons_succ, Nat.reduceAdd] at H)) | (refine opk 9 rfl ?_; first | (refine ost_allocA H rfl ?_; clear H; intro bk wk H) | (refine ost_build1 H rfl rfl rfl evQ lsQ rfl ?_; clear H; intro bk wk H))) | refine Wc.seq ?_ | refine then_n ?_ | refine WL.nil ?_ | refine Wc.region ?_ | refine Wc.block ?_ | refine then_r ?_ | refine then_e ?_ | refine inb_e rfl ?_ | refine inb_o rfl ?_ | refine inb_n ?_ | refine inb_r ?_ | refine Wc.skip ?_ | refine Wc.exit ?_ | refine Wc.ret ?_ | refine Wc.cond_true rfl ?_ | refine Wc.cond_false rfl ?_ | (refine Wc.drawn (id := 20) 13 (by kernel_rfl) ?_) | refine WL.skp rfl rfl ?_ | refine WL.sku rfl ?_ | (refine rgs_nil ?_; intro vs wk hE; replace H := H.ext hE; clear hE) | refine RGs.skp (fun _ => rfl) rfl ?_ | (refine RGs.bq (fun _ => rfl) rfl (by intro vs w hE hP; have H := H.ext hE; first | exact dbQ | fail) (fun hc => ?_) (fun hc => ?_) <;> ((try simp only [cmpP, decide_eq_true_eq, decide_eq_false_iff_not, dcd_iff, dcd_no] at hc); try exact prDQ)) | refine RGs.pq (fun _ => rfl) rfl (by intro vs w hE hP; have H := H.ext hE; first | exact dvQ | fail) ?_)
          have hTL : (p.kids.map (·.toNat)).map cZ ++ rest.map cZ = (p.kids.map (·.toNat) ++ rest).map cZ := List.map_append.symm
          have hTl : ((p.kids.map (·.toNat)).map cZ ++ rest.map cZ).length = (p.kids.map (·.toNat) ++ rest).length := by rw [hTL, List.length_map]
          rw [hTl, hTL] at H
          rw [hTl]
          have hTlt : ∀ x, x ∈ p.kids.map (·.toNat) ++ rest → x < 4294967296 := fun y hy => by
            rcases List.mem_append.1 hy with h | h
            · obtain ⟨z, -, rfl⟩ := List.mem_map.1 h; exact UInt32.toNat_lt _
            · exact hlt y (List.mem_cons_of_mem _ h)
          have hTll : (p.kids.map (·.toNat) ++ rest).length = p.kids.length + rest.length := by simp
          generalize p.kids.map (·.toNat) ++ rest = TL at *
          obtain ⟨a8, c8, h8, e8, hle8, hN8, H7⟩ := H.freezeR (rows_lenZ TL)
          clear H
          injection e8 with e81 e82 e83
          subst e81; subst e83
          have hP8 := (show PgR hfk p ⟨ak, ck, al, cl, ad, cd⟩ from hP).mono hle8
          have hil := itemsP_len hs1
          refine Wc.loopE (fun s0 m s w' => ∃ (j : Nat) (ai : Option Addr) (ci : Nat), m = p.locs.length - j ∧ j ≤ p.locs.length ∧ Agree [6, 14, 58, 59, 60, 61, 62, 63, 64, 65, 66, 67, 68, 69, 70, 71, 72, 73, 74, 75, 76, 77, 78] s s0 ∧ s 6 = .slice ai (acc ++ (itemsP p).take j).length ci ∧ s 14 = .int .i64 j ∧
            St w [] h0 h8 [.blk bp (.cells (pgV p ⟨ak, ck, al, cl, ad, cd⟩).toArray 134 (0, 0)), ownR (.slice ai (acc ++ (itemsP p).take j).length ci) 83 5 ((acc ++ (itemsP p).take j).map cItem)] w') _ ⟨0, ai, ci, rfl, by omega, Agree.refl _ _, by rw [List.take_zero, List.append_nil]; rfl, rfl, by rw [List.take_zero, List.append_nil]; exact H7⟩ ?_
          clear H7
          rintro m s w' ⟨j2, ai, ci, rfl, hj2, hA, e1, e2, H⟩
          obtain ⟨j9, rfl⟩ := hA.env2 e1 e2
          clear hA e1 e2
          by_cases hlt2 : j2 < p.locs.length
          · have hjk : j2 < p.keys.length := by omega
            obtain ⟨b5, off5, l5, T5, fr5, e5, eb5, eg5⟩ := hP8.l.getM (by decide) (by omega)
            obtain ⟨b6, off6, l6, T6, fr6, e6, eb6, eg6⟩ := hP8.k.getM (by decide) (by omega)
            dsimp only at e5 e6
            subst e5
            subst e6
            have g5 : (l5.drop (off5 + (j2 : Int).toNat * 2)).take 2 = cLoc p.locs[j2] := eg5 (j2 : Int).toNat j2 hlt2 rfl
            have g6 : (l6.drop (off6 + (j2 : Int).toNat * 3)).take 3 = cKey p.keys[j2] := eg6 (j2 : Int).toNat j2 hjk rfl
            clear eg5 eg6
            have hsn : acc ++ (itemsP p).take (j2 + 1) = acc ++ (itemsP p).take j2 ++ [⟨p.keys[j2], p.locs[j2]⟩] := by rw [itemsP_take hjk hlt2, List.append_assoc]
            have hIl : ((acc ++ (itemsP p).take j2).map cItem).length ≤ 65536 + 8 := by rw [List.length_map, List.length_append, List.length_take]; omega
            generalize acc ++ (itemsP p).take j2 = II at H hsn hIl ⊢
            generalize p.keys[j2] = kj at g6 hsn ⊢
            generalize p.locs[j2] = lj at g5 hsn ⊢
            have oi := allOne_of (cItem_one ⟨kj, lj⟩)
            have li := cItem_len ⟨kj, lj⟩
            repeat' (first | ((first | refine WL.p rfl ?_ | refine WL.u ?_ | refine WL.g rfl rfl ?_ | refine WL.gu rfl ?_); first | (refine opk 1 rfl ?_; (refine ost_appR (rows := II.map cItem) (row := cItem ⟨kj, lj⟩) H rfl rfl rfl (by (exact ixQ)) (by (exact ixQ)) (by rfl) (by first | simp; done | exact Nat.succ_pos _) rfl (allOne_of rfl) rfl (by omega) ?_; clear H; intro aa ca wk H; simp only [List.set_cons_zero, List.set_cons_succ] at H)) | refine pvQ ?_ | (refine opk 3 rfl ?_; (refine ost_cmp rfl rfl rfl rfl (fun hc => ?_) (fun hc => ?_) <;> (simp only [cmpP] at hc; try exact prIQ))) | (refine opk 4 rfl ?_; (refine ost_cmp rfl rfl rfl rfl (fun hc => ?_) (fun hc => ?_) <;> (simp only [cmpP] at hc; try exact prIQ))) | (refine opk 8 rfl ?_; (refine ost_storeW H rfl rfl rfl rfl lQ ixQ lQ okQ ?_; clear H; intro wk H; simp only [List.set_cons_zero, List.set_cons_succ, Nat.reduceAdd] at H)) | (refine opk 9 rfl ?_; first | (refine ost_allocA H rfl ?_; clear H; intro bk wk H) | (refine ost_build1 H rfl rfl rfl evQ lsQ rfl ?_; clear H; intro bk wk H))) | refine Wc.seq ?_ | refine then_n ?_ | refine WL.nil ?_ | refine Wc.region ?_ | refine Wc.block ?_ | refine then_r ?_ | refine then_e ?_ | refine inb_e rfl ?_ | refine inb_o rfl ?_ | refine inb_n ?_ | refine inb_r ?_ | refine Wc.skip ?_ | refine Wc.exit ?_ | refine Wc.ret ?_ | refine Wc.cond_true rfl ?_ | refine Wc.cond_false rfl ?_ | refine WL.skp rfl rfl ?_ | refine WL.sku rfl ?_ | (refine Wc.drawM (id := 20) 13 [(12, [], fun v L' => ∃ b, v = Value.slice (some ⟨b, 0, none⟩) 1 1 ∧ L' = [ownR (Value.slice (some ⟨b, 0, none⟩) 1 1) 83 5 [cItem ⟨kj, lj⟩]])] [.blk _ _, ownR _ _ _ _] [12] H (by kernel_rfl) rfl (by kernel_rfl) (by simp only [inpL, List.nil_append, List.cons_append, List.append_nil]; first | exact List.Perm.refl _ | exact List.Perm.swap _ _ _ | exact (List.Perm.swap _ _ _).trans ((List.Perm.swap _ _ _).cons _) | exact ((List.Perm.swap _ _ _).cons _) | exact ((List.Perm.swap _ _ _).cons _).trans (List.Perm.swap _ _ _)) ?_) | (refine rgm_nil ?_; intro vs wk outs HM hR; obtain ⟨v9, ⟨b9_12, e9, o9⟩, h9⟩ := hR 12 _ rfl; have hv9 : vs (0 + 1 + 1 + 1 + 1 + 1 + 1 + 1 + 1 + 1 + 1 + 1 + 1) = _ := (h9 (by kernel_rfl)).trans e9; simp only [outsL, o9, List.cons_append, List.nil_append, List.append_nil] at HM; (try dsimp only); rw [hv9]; replace H := HM; clear HM hR) | refine RGm.skp (fun _ => rfl) rfl ?_ | (refine RGm.bq (fun _ => rfl) rfl (by intro vs w TT hP H; simp only [List.cons_append, List.nil_append] at H; first | exact dbQ | fail) (fun hc => ?_) (fun hc => ?_) <;> ((try simp only [cmpP, decide_eq_true_eq, decide_eq_false_iff_not, dcd_iff, dcd_no] at hc); try exact prDQ)) | refine RGm.pq (fun _ => rfl) rfl (by intro vs w TT hP H; simp only [List.cons_append, List.nil_append] at H; first | exact dvQ | fail) ?_ | refine RGm.mq (fun _ => rfl) rfl (by intro vs w TT hP H; simp only [List.cons_append, List.nil_append] at H; first | (refine ost_buildR (rows := [cItem ⟨kj, lj⟩]) H rfl (by decide) rfl (by rfl) (evP1 vxQ) (.cons rfl .nil) rfl (by simp [li]) ?_; intro bk wk H2; exact ⟨[_], ⟨_, rfl, rfl⟩, H2⟩) | fail) ?_ | refine RGm.mu rfl (by intro vs w TT hP H; simp only [List.cons_append, List.nil_append] at H; first | (refine ost_buildR (rows := [cItem ⟨kj, lj⟩]) H rfl (by decide) rfl (by rfl) (evP1 vxQ) (.cons rfl .nil) rfl (by simp [li]) ?_; intro bk wk H2; exact ⟨[_], ⟨_, rfl, rfl⟩, H2⟩) | fail) ?_)
            have hmp : II.map cItem ++ [cItem ⟨kj, lj⟩] = (II ++ [(⟨kj, lj⟩ : ItemT)]).map cItem := by rw [List.map_append]; rfl
            have hml : (II.map cItem ++ [cItem ⟨kj, lj⟩]).length = (II ++ [(⟨kj, lj⟩ : ItemT)]).length := by simp
            rw [hml, hmp, ← hsn] at H
            exact ⟨p.locs.length - (j2 + 1), by omega, j2 + 1, _, _, rfl, by omega, by (repeat' (first | exact Agree.refl _ _ | exact Agree.havoc | refine Agree.upd rfl ?_ | refine Agree.hav2 rfl ?_)), by rw [hsn, ← hml]; rfl, rfl, H.picks [0, 1] rfl (by decide)⟩
          · obtain rfl : j2 = p.locs.length := by omega
            repeat' (first | ((first | refine WL.p rfl ?_ | refine WL.u ?_ | refine WL.g rfl rfl ?_ | refine WL.gu rfl ?_); first | refine pvQ ?_ | (refine opk 3 rfl ?_; (refine ost_cmp rfl rfl rfl rfl (fun hc => ?_) (fun hc => ?_) <;> (simp only [cmpP] at hc; try exact prIQ))) | (refine opk 4 rfl ?_; (refine ost_cmp rfl rfl rfl rfl (fun hc => ?_) (fun hc => ?_) <;> (simp only [cmpP] at hc; try exact prIQ))) | (refine opk 8 rfl ?_; (refine ost_storeW H rfl rfl rfl rfl lQ ixQ lQ okQ ?_; clear H; intro wk H; simp only [List.set_cons_zero, List.set_cons_succ, Nat.reduceAdd] at H)) | (refine opk 9 rfl ?_; first | (refine ost_allocA H rfl ?_; clear H; intro bk wk H) | (refine ost_build1 H rfl rfl rfl evQ lsQ rfl ?_; clear H; intro bk wk H))) | refine Wc.seq ?_ | refine then_n ?_ | refine WL.nil ?_ | refine Wc.region ?_ | refine Wc.block ?_ | refine then_r ?_ | refine then_e ?_ | refine inb_e rfl ?_ | refine inb_o rfl ?_ | refine inb_n ?_ | refine inb_r ?_ | refine Wc.skip ?_ | refine Wc.exit ?_ | refine Wc.ret ?_ | refine Wc.cond_true rfl ?_ | refine Wc.cond_false rfl ?_ | (refine Wc.drawn (id := 20) 13 (by kernel_rfl) ?_) | refine WL.skp rfl rfl ?_ | refine WL.sku rfl ?_ | (refine rgs_nil ?_; intro vs wk hE; replace H := H.ext hE; clear hE) | refine RGs.skp (fun _ => rfl) rfl ?_ | (refine RGs.bq (fun _ => rfl) rfl (by intro vs w hE hP; have H := H.ext hE; first | exact dbQ | fail) (fun hc => ?_) (fun hc => ?_) <;> ((try simp only [cmpP, decide_eq_true_eq, decide_eq_false_iff_not, dcd_iff, dcd_no] at hc); try exact prDQ)) | refine RGs.pq (fun _ => rfl) rfl (by intro vs w hE hP; have H := H.ext hE; first | exact dvQ | fail) ?_)
            have htk2 : (itemsP p).take p.locs.length = itemsP p := List.take_of_length_le (by omega)
            rw [htk2] at H ⊢
            exact ⟨8193 - (k + 1), by omega, k + 1, TL, acc ++ itemsP p, _, _, _, _, h8, rfl, by omega, (hle7.trans hle).trans hle8, by (repeat' (first | exact Agree.refl _ _ | exact Agree.havoc | refine Agree.upd rfl ?_ | refine Agree.hav2 rfl ?_)), rfl, rfl, rfl, hN8, hTlt, by omega, by rw [List.length_append]; omega, by rw [hrd]; cases rdF b (8192 - (k + 1)) TL <;> simp, H.picks [1] rfl (by decide)⟩
    · have hnone : rdF b 8192 [root] = none := by rw [hrd, rdF_no hpa]; rfl
      repeat' (first | ((first | refine WL.p rfl ?_ | refine WL.u ?_ | refine WL.g rfl rfl ?_ | refine WL.gu rfl ?_); first | refine pvQ ?_ | (refine opk 3 rfl ?_; (refine ost_cmp rfl rfl rfl rfl (fun hc => ?_) (fun hc => ?_) <;> (simp only [cmpP] at hc; try exact prIQ))) | (refine opk 4 rfl ?_; (refine ost_cmp rfl rfl rfl rfl (fun hc => ?_) (fun hc => ?_) <;> (simp only [cmpP] at hc; try exact prIQ))) | (refine opk 8 rfl ?_; (refine ost_storeW H rfl rfl rfl rfl lQ ixQ lQ okQ ?_; clear H; intro wk H; simp only [List.set_cons_zero, List.set_cons_succ, Nat.reduceAdd] at H)) | (refine opk 9 rfl ?_; first | (refine ost_allocA H rfl ?_; clear H; intro bk wk H) | (refine ost_build1 H rfl rfl rfl evQ lsQ rfl ?_; clear H; intro bk wk H))) | refine Wc.seq ?_ | refine then_n ?_ | refine WL.nil ?_ | refine Wc.region ?_ | refine Wc.block ?_ | refine then_r ?_ | refine then_e ?_ | refine inb_e rfl ?_ | refine inb_o rfl ?_ | refine inb_n ?_ | refine inb_r ?_ | refine Wc.skip ?_ | refine Wc.exit ?_ | refine Wc.ret ?_ | refine Wc.cond_true rfl ?_ | refine Wc.cond_false rfl ?_ | (refine Wc.drawn (id := 20) 13 (by kernel_rfl) ?_) | refine WL.skp rfl rfl ?_ | refine WL.sku rfl ?_ | (refine rgs_nil ?_; intro vs wk hE; replace H := H.ext hE; clear hE) | refine RGs.skp (fun _ => rfl) rfl ?_ | (refine RGs.bq (fun _ => rfl) rfl (by intro vs w hE hP; have H := H.ext hE; first | exact dbQ | fail) (fun hc => ?_) (fun hc => ?_) <;> ((try simp only [cmpP, decide_eq_true_eq, decide_eq_false_iff_not, dcd_iff, dcd_no] at hc); try exact prDQ)) | refine RGs.pq (fun _ => rfl) rfl (by intro vs w hE hP; have H := H.ext hE; first | exact dvQ | fail) ?_)
      all_goals first | (exfalso; omega) | exact fn_ret2 (v1 := .slice _ _ _) (v2 := .bool _) rfl rfl rfl ⟨h0, _, ((H.picks (L' := []) [] rfl (by decide)).nilOwn 83 5).forget (hle7.trans hle) (fun _ _ _ => rfl), rfl, none, 0, [], false, rfl, rfl, .inr ⟨rfl, rfl, hnone⟩⟩
end Go.Tg

set_option linter.unusedVariables false
set_option linter.unusedSimpArgs false
set_option maxRecDepth 100000
set_option maxHeartbeats 4000000
namespace Go.Tg
open Go Go.Proofs
theorem tupP0 (x y : Value) : tupG 0 (.tuple #[x, y]) = x := rfl
theorem tupP1 (x y : Value) : tupG 1 (.tuple #[x, y]) = y := rfl
def cmC (i : Nat) (l : List ItemT) (q : Bool) : Cm := ⟨i, 999, [], fun v L' => ∃ a c, v = .tuple #[.slice a l.length c, .bool q] ∧ L' = [ownR (.slice a l.length c) 83 5 (l.map cItem)], fun _ _ => True⟩
theorem r15_Load (h0 : FH) (a : Option Addr) (c : Nat) (b : List UInt8) (s : SlotT) (w : World) (hs : Sat h0 w) (hr : BS h0 a c b) (hb : b.length ≤ 1000000) :
    Spec Tryd.prog 14 #[.slice a b.length c, .agg (cSlot s).toArray] w [] h0 (fun v h' L' => ∃ a' c', v = .tuple #[.slice a' (loadL b s).1.length c', .int .i64 (loadL b s).2] ∧ L' = [] ∧ Sl h' 5 a' c' ((loadL b s).1.map cItem)) := by
  have H := St.start hs
  have lS := cSlot_len s
  have hcap := hr.le
  have hE4 := s.end_.toNat_lt
  have hA4 := s.at_.toNat_lt
  unfold Spec
  refine calls_of Tryd.func14 rfl Tryd.ntmps14 (by simp) ?_
  have g2 : (cSlot s)[0 + 2]? = some (.int .u32 (s.end_.toNat : Nat)) := rfl
  have g1 : (cSlot s)[0 + 1]? = some (.int .u32 (s.at_.toNat : Nat)) := rfl
  have g0 : (cSlot s)[0 + 0]? = some (.int .u64 (s.ver.toNat : Nat)) := rfl
  by_cases hlt : b.length < s.end_.toNat
  · rw [loadL_4 hlt]
    repeat' (first | ((first | refine WL.p rfl ?_ | refine WL.u ?_ | refine WL.g rfl rfl ?_ | refine WL.gu rfl ?_); first | refine pvQ ?_ | (refine opk 3 rfl ?_; first | (refine ost_eqA rfl (by decide) rfl rfl tyQ tyQ (fun hc => ?_) (fun hc => ?_) <;> try exact prEQ) | (refine ost_neA rfl (by decide) rfl rfl tyQ tyQ (fun hc => ?_) (fun hc => ?_) <;> try exact prEQ) | (refine ost_cmp rfl rfl rfl rfl (fun hc => ?_) (fun hc => ?_) <;> (simp only [cmpP] at hc; try exact prIQ)) | (refine ost_streqB rfl rfl rfl (fun hc => ?_) (fun hc => ?_) <;> try exact prEQ) | (refine ost_strneB rfl rfl rfl (fun hc => ?_) (fun hc => ?_) <;> try exact prEQ) | (refine ost_streq rfl rfl rfl (fun hc => ?_) (fun hc => ?_) <;> try exact absurd rfl hc) | (refine ost_strne rfl rfl rfl (fun hc => ?_) (fun hc => ?_))) | (refine opk 4 rfl ?_; (refine ost_cmp rfl rfl rfl rfl (fun hc => ?_) (fun hc => ?_) <;> (simp only [cmpP] at hc; try exact prIQ))) | (refine opk 8 rfl ?_; (refine ost_storeW H rfl rfl rfl rfl lQ ixQ lQ okQ ?_; clear H; intro wk H; simp only [List.set_cons_zero, List.set_cons_succ, Nat.reduceAdd] at H)) | (refine opk 9 rfl ?_; first | (refine ost_boxq H rfl ?_; clear H; intro bk wk H) | (refine ost_allocA H rfl ?_; clear H; intro bk wk H))) | refine Wc.seq ?_ | refine then_n ?_ | refine WL.nil ?_ | refine Wc.region ?_ | refine Wc.block ?_ | refine then_r ?_ | refine then_e ?_ | refine inb_e rfl ?_ | refine inb_o rfl ?_ | refine inb_n ?_ | refine inb_r ?_ | refine Wc.skip ?_ | refine Wc.exit ?_ | refine Wc.ret ?_ | refine Wc.cond_true rfl ?_ | refine Wc.cond_false rfl ?_ | (refine Wc.drawn (id := 10) 16 (by kernel_rfl) ?_) | refine WL.skp rfl rfl ?_ | refine WL.sku rfl ?_ | (refine rgs_nil ?_; intro vs wk hE; replace H := H.ext hE; clear hE) | refine RGs.skp (fun _ => rfl) rfl ?_ | (refine RGs.bq (fun _ => rfl) rfl (by intro vs w hE hP; have H := H.ext hE; first | exact dbQ | fail) (fun hc => ?_) (fun hc => ?_) <;> ((try simp only [cmpP, decide_eq_true_eq, decide_eq_false_iff_not, dcd_iff, dcd_no] at hc); try exact prDQ)) | refine RGs.pq (fun _ => rfl) rfl (by intro vs w hE hP; have H := H.ext hE; first | exact dvQ | fail) ?_)
    all_goals first | (exfalso; omega) | exact fn_ret2 (v1 := .slice _ _ _) (v2 := .int _ _) rfl rfl rfl ⟨_, _, H.picks [] rfl (by decide), _, _, rfl, rfl, Sl.nil _ _⟩
  · have hbl : (b.take s.end_.toNat).length = s.end_.toNat := by rw [List.length_take]; omega
    have hrb : BS h0 a c (b.take s.end_.toNat) := hr.take _
    have hL1 := @loadL_none b s hlt
    have hL2 := fun r => @loadL_no b s r hlt
    have hL3 := fun r => @loadL_yes b s r hlt
    have hCC := fun g w hs hr => r15_collect g a c (b.take s.end_.toNat) s.at_.toNat w hs hr (by omega) (by omega)
    generalize hbb : b.take s.end_.toNat = b' at *
    have hEn : ((s.end_.toNat : Int)).toNat = b'.length := by rw [hbl]; rfl
    cases hrd : rdF b' 8192 [s.at_.toNat] with
    | none =>
      rw [hL1 hrd]
      have hC : ∀ g w, Sat g w → BS g a c b' → Spec Tryd.prog 29 #[.slice a b'.length c, .int .i64 (s.at_.toNat : Int)] w [] g (fun v h' L' => h' = g ∧ ∃ a' c', v = .tuple #[.slice a' ([] : List ItemT).length c', .bool false] ∧ L' = [ownR (.slice a' ([] : List ItemT).length c') 83 5 (([] : List ItemT).map cItem)]) := fun g w hs hr => by
        refine (hCC g w hs hr).mono fun v h' L' ⟨h1, a', c', l, q, h2, h3, h4⟩ => ⟨h1, a', c', ?_⟩
        rcases h4 with ⟨-, lf, h5⟩ | ⟨rfl, rfl, -⟩
        · rw [hrd] at h5; cases h5
        · exact ⟨h2, h3⟩
      rw [← hEn] at hC
      repeat' (first | ((first | refine WL.p rfl ?_ | refine WL.u ?_ | refine WL.g rfl rfl ?_ | refine WL.gu rfl ?_); first | refine pvQ ?_ | (refine opk 3 rfl ?_; first | (refine ost_eqA rfl (by decide) rfl rfl tyQ tyQ (fun hc => ?_) (fun hc => ?_) <;> try exact prEQ) | (refine ost_neA rfl (by decide) rfl rfl tyQ tyQ (fun hc => ?_) (fun hc => ?_) <;> try exact prEQ) | (refine ost_cmp rfl rfl rfl rfl (fun hc => ?_) (fun hc => ?_) <;> (simp only [cmpP] at hc; try exact prIQ)) | (refine ost_streqB rfl rfl rfl (fun hc => ?_) (fun hc => ?_) <;> try exact prEQ) | (refine ost_strneB rfl rfl rfl (fun hc => ?_) (fun hc => ?_) <;> try exact prEQ) | (refine ost_streq rfl rfl rfl (fun hc => ?_) (fun hc => ?_) <;> try exact absurd rfl hc) | (refine ost_strne rfl rfl rfl (fun hc => ?_) (fun hc => ?_))) | (refine opk 4 rfl ?_; (refine ost_cmp rfl rfl rfl rfl (fun hc => ?_) (fun hc => ?_) <;> (simp only [cmpP] at hc; try exact prIQ))) | (refine opk 8 rfl ?_; (refine ost_storeW H rfl rfl rfl rfl lQ ixQ lQ okQ ?_; clear H; intro wk H; simp only [List.set_cons_zero, List.set_cons_succ, Nat.reduceAdd] at H)) | (refine opk 9 rfl ?_; first | (refine ost_boxq H rfl ?_; clear H; intro bk wk H) | (refine ost_allocA H rfl ?_; clear H; intro bk wk H))) | refine Wc.seq ?_ | refine then_n ?_ | refine WL.nil ?_ | refine Wc.region ?_ | refine Wc.block ?_ | refine then_r ?_ | refine then_e ?_ | refine inb_e rfl ?_ | refine inb_o rfl ?_ | refine inb_n ?_ | refine inb_r ?_ | refine Wc.skip ?_ | refine Wc.exit ?_ | refine Wc.ret ?_ | refine Wc.cond_true rfl ?_ | refine Wc.cond_false rfl ?_ | (refine Wc.drawn (id := 10) 16 (by kernel_rfl) ?_) | refine WL.skp rfl rfl ?_ | refine WL.sku rfl ?_ | (refine rgs_nil ?_; intro vs wk hE; replace H := H.ext hE; clear hE) | refine RGs.skp (fun _ => rfl) rfl ?_ | (refine RGs.bq (fun _ => rfl) rfl (by intro vs w hE hP; have H := H.ext hE; first | exact dbQ | fail) (fun hc => ?_) (fun hc => ?_) <;> ((try simp only [cmpP, decide_eq_true_eq, decide_eq_false_iff_not, dcd_iff, dcd_no] at hc); try exact prDQ)) | refine RGs.pq (fun _ => rfl) rfl (by intro vs w hE hP; have H := H.ext hE; first | exact dvQ | fail) ?_)
      all_goals first | (exfalso; omega) | skip
      refine Wc.drawC (id := 3) 12 [cmC 7 [] false] [.blk _ _] [(7, 999)] H (by kernel_rfl) rfl (by kernel_rfl) (by first | exact List.Perm.refl _ | (simp [inpC, cmC]; done)) ?_
      refine RGc.p rfl rfl (by intro vs w T hP H; simp only [List.cons_append, List.nil_append] at H; exact dvQ) ?_
      refine RGc.p rfl rfl (by intro vs w T hP H; simp only [List.cons_append, List.nil_append] at H; exact dvQ) ?_
      refine RGc.p rfl rfl (by intro vs w T hP H; simp only [List.cons_append, List.nil_append] at H; exact dvQ) ?_
      refine RGc.p rfl rfl (by intro vs w T hP H; simp only [List.cons_append, List.nil_append] at H; exact dvQ) ?_
      refine RGc.p rfl rfl (by intro vs w T hP H; simp only [List.cons_append, List.nil_append] at H; exact dvQ) ?_
      refine RGc.p rfl rfl (by intro vs w T hP H; simp only [List.cons_append, List.nil_append] at H; exact dvQ) ?_
      refine RGc.p rfl rfl (by intro vs w T hP H; simp only [List.cons_append, List.nil_append] at H; exact dvQ) ?_
      refine RGc.m (m := (cmC 7 [] false)) rfl (by intro vs w T hP H; simp only [List.cons_append, List.nil_append] at H; refine ost_C H rfl (hC _ _ (sat_full _) (hrb.full H)) rfl ?_; rintro vk wk hfk Lk ⟨rfl, a9, c9, rfl, rfl⟩ H2; exact ⟨[_], ⟨a9, c9, rfl, rfl⟩, H2⟩) ?_
      refine RGc.v (fun v => v) 7 [] (by kernel_rfl) rfl rfl rfl (by intro vs w T hP H; exact dvQ) ?_
      refine RGc.v (tupG 0) 7 [8] (by kernel_rfl) rfl rfl rfl (by intro vs w T hP H; obtain ⟨L9, ⟨a9, c9, e9, -⟩, -⟩ := hP 7 _ ⟨[8], by kernel_rfl⟩ rfl; refine ost_extract rfl e9 rfl ?_; exact ⟨Fr.refl _ _, by rw [e9]; rfl⟩) ?_
      refine RGc.v (tupG 1) 7 [8] (by kernel_rfl) rfl rfl rfl (by intro vs w T hP H; obtain ⟨L9, ⟨a9, c9, e9, -⟩, -⟩ := hP 7 _ ⟨[8], by kernel_rfl⟩ rfl; refine ost_extract rfl e9 rfl ?_; exact ⟨Fr.refl _ _, by rw [e9]; rfl⟩) ?_
      refine RGc.v (tupG 0) 7 [9, 8] (by kernel_rfl) rfl rfl rfl (by intro vs w T hP H; exact dvQ) ?_
      refine RGc.nil ?_
      intro vs wk outs HM hR
      obtain ⟨a6, c6, e6, o6⟩ := (hR (cmC 7 [] false) (by simp)).2 (by simp [cmC])
      have o6' : outs 7 = _ := o6
      have e6' : vs 7 = _ := e6
      have e6'' : vs (0 + 1 + 1 + 1 + 1 + 1 + 1 + 1) = _ := e6
      simp only [outsC, cmC, o6', List.cons_append, List.nil_append, List.append_nil] at HM
      dsimp only
      rw [e6']
      try rw [e6'']
      simp only [tupP0, tupP1]
      replace H := HM
      clear HM hR o6 e6 e6' e6'' o6'
      repeat' (first | ((first | refine WL.p rfl ?_ | refine WL.u ?_ | refine WL.g rfl rfl ?_ | refine WL.gu rfl ?_); first | refine pvQ ?_ | (refine opk 3 rfl ?_; first | (refine ost_eqA rfl (by decide) rfl rfl tyQ tyQ (fun hc => ?_) (fun hc => ?_) <;> try exact prEQ) | (refine ost_neA rfl (by decide) rfl rfl tyQ tyQ (fun hc => ?_) (fun hc => ?_) <;> try exact prEQ) | (refine ost_cmp rfl rfl rfl rfl (fun hc => ?_) (fun hc => ?_) <;> (simp only [cmpP] at hc; try exact prIQ)) | (refine ost_streqB rfl rfl rfl (fun hc => ?_) (fun hc => ?_) <;> try exact prEQ) | (refine ost_strneB rfl rfl rfl (fun hc => ?_) (fun hc => ?_) <;> try exact prEQ) | (refine ost_streq rfl rfl rfl (fun hc => ?_) (fun hc => ?_) <;> try exact absurd rfl hc) | (refine ost_strne rfl rfl rfl (fun hc => ?_) (fun hc => ?_))) | (refine opk 4 rfl ?_; (refine ost_cmp rfl rfl rfl rfl (fun hc => ?_) (fun hc => ?_) <;> (simp only [cmpP] at hc; try exact prIQ))) | (refine opk 8 rfl ?_; (refine ost_storeW H rfl rfl rfl rfl lQ ixQ lQ okQ ?_; clear H; intro wk H; simp only [List.set_cons_zero, List.set_cons_succ, Nat.reduceAdd] at H)) | (refine opk 9 rfl ?_; first | (refine ost_boxq H rfl ?_; clear H; intro bk wk H) | (refine ost_allocA H rfl ?_; clear H; intro bk wk H))) | refine Wc.seq ?_ | refine then_n ?_ | refine WL.nil ?_ | refine Wc.region ?_ | refine Wc.block ?_ | refine then_r ?_ | refine then_e ?_ | refine inb_e rfl ?_ | refine inb_o rfl ?_ | refine inb_n ?_ | refine inb_r ?_ | refine Wc.skip ?_ | refine Wc.exit ?_ | refine Wc.ret ?_ | refine Wc.cond_true rfl ?_ | refine Wc.cond_false rfl ?_ | (refine Wc.drawn (id := 3) 12 (by kernel_rfl) ?_) | (refine Wc.drawn (id := 10) 16 (by kernel_rfl) ?_) | refine WL.skp rfl rfl ?_ | refine WL.sku rfl ?_ | (refine rgs_nil ?_; intro vs wk hE; replace H := H.ext hE; clear hE) | refine RGs.skp (fun _ => rfl) rfl ?_ | (refine RGs.bq (fun _ => rfl) rfl (by intro vs w hE hP; have H := H.ext hE; first | exact dbQ | fail) (fun hc => ?_) (fun hc => ?_) <;> ((try simp only [cmpP, decide_eq_true_eq, decide_eq_false_iff_not, dcd_iff, dcd_no] at hc); try exact prDQ)) | refine RGs.pq (fun _ => rfl) rfl (by intro vs w hE hP; have H := H.ext hE; first | exact dvQ | fail) ?_)
      all_goals first | (exfalso; omega) | exact fn_ret2 (v1 := .slice _ _ _) (v2 := .int _ _) rfl rfl rfl ⟨_, _, H.picks [] rfl (by decide), _, _, rfl, rfl, Sl.nil _ _⟩
    | some r =>
      obtain ⟨l, lf⟩ := r
      have hC : ∀ g w, Sat g w → BS g a c b' → Spec Tryd.prog 29 #[.slice a b'.length c, .int .i64 (s.at_.toNat : Int)] w [] g (fun v h' L' => h' = g ∧ ∃ a' c', v = .tuple #[.slice a' l.length c', .bool true] ∧ L' = [ownR (.slice a' l.length c') 83 5 (l.map cItem)]) := fun g w hs hr => by
        refine (hCC g w hs hr).mono fun v h' L' ⟨h1, a', c', l', q, h2, h3, h4⟩ => ⟨h1, a', c', ?_⟩
        rcases h4 with ⟨rfl, lf', h5⟩ | ⟨-, -, h5⟩
        · rw [hrd] at h5; injection h5 with h5; injection h5 with h5 h6; subst h5; exact ⟨h2, h3⟩
        · rw [hrd] at h5; cases h5
      rw [← hEn] at hC
      repeat' (first | ((first | refine WL.p rfl ?_ | refine WL.u ?_ | refine WL.g rfl rfl ?_ | refine WL.gu rfl ?_); first | refine pvQ ?_ | (refine opk 3 rfl ?_; first | (refine ost_eqA rfl (by decide) rfl rfl tyQ tyQ (fun hc => ?_) (fun hc => ?_) <;> try exact prEQ) | (refine ost_neA rfl (by decide) rfl rfl tyQ tyQ (fun hc => ?_) (fun hc => ?_) <;> try exact prEQ) | (refine ost_cmp rfl rfl rfl rfl (fun hc => ?_) (fun hc => ?_) <;> (simp only [cmpP] at hc; try exact prIQ)) | (refine ost_streqB rfl rfl rfl (fun hc => ?_) (fun hc => ?_) <;> try exact prEQ) | (refine ost_strneB rfl rfl rfl (fun hc => ?_) (fun hc => ?_) <;> try exact prEQ) | (refine ost_streq rfl rfl rfl (fun hc => ?_) (fun hc => ?_) <;> try exact absurd rfl hc) | (refine ost_strne rfl rfl rfl (fun hc => ?_) (fun hc => ?_))) | (refine opk 4 rfl ?_; (refine ost_cmp rfl rfl rfl rfl (fun hc => ?_) (fun hc => ?_) <;> (simp only [cmpP] at hc; try exact prIQ))) | (refine opk 8 rfl ?_; (refine ost_storeW H rfl rfl rfl rfl lQ ixQ lQ okQ ?_; clear H; intro wk H; simp only [List.set_cons_zero, List.set_cons_succ, Nat.reduceAdd] at H)) | (refine opk 9 rfl ?_; first | (refine ost_boxq H rfl ?_; clear H; intro bk wk H) | (refine ost_allocA H rfl ?_; clear H; intro bk wk H))) | refine Wc.seq ?_ | refine then_n ?_ | refine WL.nil ?_ | refine Wc.region ?_ | refine Wc.block ?_ | refine then_r ?_ | refine then_e ?_ | refine inb_e rfl ?_ | refine inb_o rfl ?_ | refine inb_n ?_ | refine inb_r ?_ | refine Wc.skip ?_ | refine Wc.exit ?_ | refine Wc.ret ?_ | refine Wc.cond_true rfl ?_ | refine Wc.cond_false rfl ?_ | (refine Wc.drawn (id := 10) 16 (by kernel_rfl) ?_) | refine WL.skp rfl rfl ?_ | refine WL.sku rfl ?_ | (refine rgs_nil ?_; intro vs wk hE; replace H := H.ext hE; clear hE) | refine RGs.skp (fun _ => rfl) rfl ?_ | (refine RGs.bq (fun _ => rfl) rfl (by intro vs w hE hP; have H := H.ext hE; first | exact dbQ | fail) (fun hc => ?_) (fun hc => ?_) <;> ((try simp only [cmpP, decide_eq_true_eq, decide_eq_false_iff_not, dcd_iff, dcd_no] at hc); try exact prDQ)) | refine RGs.pq (fun _ => rfl) rfl (by intro vs w hE hP; have H := H.ext hE; first | exact dvQ | fail) ?_)
      all_goals first | (exfalso; omega) | skip
      refine Wc.drawC (id := 3) 12 [cmC 7 l true] [.blk _ _] [(7, 999)] H (by kernel_rfl) rfl (by kernel_rfl) (by first | exact List.Perm.refl _ | (simp [inpC, cmC]; done)) ?_
      refine RGc.p rfl rfl (by intro vs w T hP H; simp only [List.cons_append, List.nil_append] at H; exact dvQ) ?_
      refine RGc.p rfl rfl (by intro vs w T hP H; simp only [List.cons_append, List.nil_append] at H; exact dvQ) ?_
      refine RGc.p rfl rfl (by intro vs w T hP H; simp only [List.cons_append, List.nil_append] at H; exact dvQ) ?_
      refine RGc.p rfl rfl (by intro vs w T hP H; simp only [List.cons_append, List.nil_append] at H; exact dvQ) ?_
      refine RGc.p rfl rfl (by intro vs w T hP H; simp only [List.cons_append, List.nil_append] at H; exact dvQ) ?_
      refine RGc.p rfl rfl (by intro vs w T hP H; simp only [List.cons_append, List.nil_append] at H; exact dvQ) ?_
      refine RGc.p rfl rfl (by intro vs w T hP H; simp only [List.cons_append, List.nil_append] at H; exact dvQ) ?_
      refine RGc.m (m := (cmC 7 l true)) rfl (by intro vs w T hP H; simp only [List.cons_append, List.nil_append] at H; refine ost_C H rfl (hC _ _ (sat_full _) (hrb.full H)) rfl ?_; rintro vk wk hfk Lk ⟨rfl, a9, c9, rfl, rfl⟩ H2; exact ⟨[_], ⟨a9, c9, rfl, rfl⟩, H2⟩) ?_
      refine RGc.v (fun v => v) 7 [] (by kernel_rfl) rfl rfl rfl (by intro vs w T hP H; exact dvQ) ?_
      refine RGc.v (tupG 0) 7 [8] (by kernel_rfl) rfl rfl rfl (by intro vs w T hP H; obtain ⟨L9, ⟨a9, c9, e9, -⟩, -⟩ := hP 7 _ ⟨[8], by kernel_rfl⟩ rfl; refine ost_extract rfl e9 rfl ?_; exact ⟨Fr.refl _ _, by rw [e9]; rfl⟩) ?_
      refine RGc.v (tupG 1) 7 [8] (by kernel_rfl) rfl rfl rfl (by intro vs w T hP H; obtain ⟨L9, ⟨a9, c9, e9, -⟩, -⟩ := hP 7 _ ⟨[8], by kernel_rfl⟩ rfl; refine ost_extract rfl e9 rfl ?_; exact ⟨Fr.refl _ _, by rw [e9]; rfl⟩) ?_
      refine RGc.v (tupG 0) 7 [9, 8] (by kernel_rfl) rfl rfl rfl (by intro vs w T hP H; exact dvQ) ?_
      refine RGc.nil ?_
      intro vs wk outs HM hR
      obtain ⟨a6, c6, e6, o6⟩ := (hR (cmC 7 l true) (by simp)).2 (by simp [cmC])
      have o6' : outs 7 = _ := o6
      have e6' : vs 7 = _ := e6
      have e6'' : vs (0 + 1 + 1 + 1 + 1 + 1 + 1 + 1) = _ := e6
      simp only [outsC, cmC, o6', List.cons_append, List.nil_append, List.append_nil] at HM
      dsimp only
      rw [e6']
      try rw [e6'']
      simp only [tupP0, tupP1]
      replace H := HM
      clear HM hR o6 e6 e6' e6'' o6'
      replace H := H.picks (L' := [_, _]) [1, 0] rfl (by decide)
      obtain ⟨a8, c8, h7, e8, hle7, hI7, H7⟩ := H.freezeR (rows_len5 _)
      clear H
      have H := H7
      clear H7
      injection e8 with e81 e82 e83
      subst e81; subst e83
      have hno4 := hL2 _ hrd
      dsimp only at hno4
      by_cases hok : riseL l = true ∧ l.length ≤ 4096
      · obtain ⟨hri, hl4⟩ := hok
        have hrs : ∀ w, Sat h7 w → SpecV Tryd.prog 24 #[.slice a6 l.length c6] w (.bool true) := fun w hs => by
          have := r15_rise h7 w hs a6 c6 l hI7
          rw [hri] at this; exact this
        repeat' (first | ((first | refine WL.p rfl ?_ | refine WL.u ?_ | refine WL.g rfl rfl ?_ | refine WL.gu rfl ?_); first | (refine opk 1 rfl ?_; (refine ost_V H rfl (hrs _ H.sat) rfl ?_; clear H; intro wk H)) | refine pvQ ?_ | (refine opk 3 rfl ?_; first | (refine ost_eqA rfl (by decide) rfl rfl tyQ tyQ (fun hc => ?_) (fun hc => ?_) <;> try exact prEQ) | (refine ost_neA rfl (by decide) rfl rfl tyQ tyQ (fun hc => ?_) (fun hc => ?_) <;> try exact prEQ) | (refine ost_cmp rfl rfl rfl rfl (fun hc => ?_) (fun hc => ?_) <;> (simp only [cmpP] at hc; try exact prIQ)) | (refine ost_streqB rfl rfl rfl (fun hc => ?_) (fun hc => ?_) <;> try exact prEQ) | (refine ost_strneB rfl rfl rfl (fun hc => ?_) (fun hc => ?_) <;> try exact prEQ) | (refine ost_streq rfl rfl rfl (fun hc => ?_) (fun hc => ?_) <;> try exact absurd rfl hc) | (refine ost_strne rfl rfl rfl (fun hc => ?_) (fun hc => ?_))) | (refine opk 4 rfl ?_; (refine ost_cmp rfl rfl rfl rfl (fun hc => ?_) (fun hc => ?_) <;> (simp only [cmpP] at hc; try exact prIQ))) | (refine opk 8 rfl ?_; (refine ost_storeW H rfl rfl rfl rfl lQ ixQ lQ okQ ?_; clear H; intro wk H; simp only [List.set_cons_zero, List.set_cons_succ, Nat.reduceAdd] at H)) | (refine opk 9 rfl ?_; first | (refine ost_boxq H rfl ?_; clear H; intro bk wk H) | (refine ost_allocA H rfl ?_; clear H; intro bk wk H))) | refine Wc.seq ?_ | refine then_n ?_ | refine WL.nil ?_ | refine Wc.region ?_ | refine Wc.block ?_ | refine then_r ?_ | refine then_e ?_ | refine inb_e rfl ?_ | refine inb_o rfl ?_ | refine inb_n ?_ | refine inb_r ?_ | refine Wc.skip ?_ | refine Wc.exit ?_ | refine Wc.ret ?_ | refine Wc.cond_true rfl ?_ | refine Wc.cond_false rfl ?_ | (refine Wc.drawn (id := 3) 12 (by kernel_rfl) ?_) | (refine Wc.drawn (id := 10) 16 (by kernel_rfl) ?_) | refine WL.skp rfl rfl ?_ | refine WL.sku rfl ?_ | (refine rgs_nil ?_; intro vs wk hE; replace H := H.ext hE; clear hE) | refine RGs.skp (fun _ => rfl) rfl ?_ | (refine RGs.bq (fun _ => rfl) rfl (by intro vs w hE hP; have H := H.ext hE; first | exact dbQ | fail) (fun hc => ?_) (fun hc => ?_) <;> ((try simp only [cmpP, decide_eq_true_eq, decide_eq_false_iff_not, dcd_iff, dcd_no] at hc); try exact prDQ)) | refine RGs.pq (fun _ => rfl) rfl (by intro vs w hE hP; have H := H.ext hE; first | exact dvQ | fail) ?_)
        all_goals first | (exfalso; omega) | skip
        have hE9 : b'.length ≤ 1000000 := by omega
        have hD := fun (x : Int) h w hs hN => r15_Dump h w hs a6 c6 l hN s.ver x
        have hde := fun (x y : Nat) (hx : x ≤ 1073741824) (hy : y ≤ 1073741824) => dumpM_err l s.ver s.ver hx hy
        have hd00 : ∀ (x : Nat), x ≤ 1073741824 → (dumpM l s.ver x).2.2 = 0 := fun x hx => by
          unfold dumpM
          rw [if_neg (by rw [hri]; simp; omega), if_neg (by omega)]
        obtain ⟨bt, ebt⟩ := H.nameB idx0
        subst ebt
        refine Wc.loopE (fun s0 m s9 w' => ∃ (j : Nat), m = b'.length + 1 - j ∧ j ≤ b'.length + 1 ∧ Agree [4, 5, 8, 9, 10, 11, 42, 43, 44, 45, 46, 47, 48, 49, 50, 51, 52, 53, 54, 55, 56, 57, 58, 59, 60, 61, 62, 63, 64, 65, 66, 67, 68, 69, 70, 71, 72, 73, 74, 75, 76] s9 s0 ∧ s9 8 = .int .i64 j ∧ (∀ x, x < j → dumpM l s.ver (x : Nat) ≠ (b'.drop x, s, 0)) ∧
          St w [] h0 h7 [.blk bt (.cells (cSlot s).toArray 34 (0, 0))] w') _ ⟨0, rfl, by omega, Agree.refl _ _, rfl, fun x hx => absurd hx (by omega), H⟩ ?_
        clear H
        rintro m s9 w' ⟨j, rfl, hj, hA, e1, hno, H⟩
        obtain ⟨j9, rfl⟩ := hA.env1 e1
        clear hA e1
        by_cases hjl : j ≤ b'.length
        · have hyes : dumpM l s.ver (j : Int) = (b'.drop j, s, 0) → loadL b s = (l, 0) := fun h => hL3 _ hrd ⟨hl4, j, by omega, h⟩
          have hdj := hd00 j (by omega)
          have hdl9 := dumpM_len l s.ver (j : Int)
          have hnx : dumpM l s.ver (j : Int) ≠ (b'.drop j, s, 0) → ∀ x, x < j + 1 → dumpM l s.ver (x : Nat) ≠ (b'.drop x, s, 0) := fun h x hx => by
            by_cases hxj : x = j
            · subst hxj; exact h
            · exact hno x (by omega)
          have hDj := hD (j : Int)
          clear hno hde hd00 hD
          generalize dumpM l s.ver (j : Int) = D at *
          obtain ⟨B9, s9, e9⟩ := D
          dsimp only at hdj hdl9 hDj
          subst hdj
          have hrj := (hrb.mono hle7).drop (n := j) (by omega)
          have hnj : (b'.drop j).length = b'.length - j := by rw [List.length_drop]
          have lS9 := cSlot_len s9
          repeat' (first | ((first | refine WL.p rfl ?_ | refine WL.u ?_ | refine WL.g rfl rfl ?_ | refine WL.gu rfl ?_); first | (refine opk 1 rfl ?_; (refine ost_C H rfl (hDj _ _ (sat_full _) (hI7.mono H.sat.le)) rfl ?_; clear H; rintro vk wk hfk Lk ⟨rfl, a2, c2, rfl, rfl⟩ H; simp only [List.cons_append, List.nil_append] at H)) | refine pvQ ?_ | (refine opk 3 rfl ?_; first | (refine ost_eqA rfl (by decide) rfl rfl tyQ tyQ (fun hc => ?_) (fun hc => ?_) <;> try exact prEQ) | (refine ost_neA rfl (by decide) rfl rfl tyQ tyQ (fun hc => ?_) (fun hc => ?_) <;> try exact prEQ) | (refine ost_cmp rfl rfl rfl rfl (fun hc => ?_) (fun hc => ?_) <;> (simp only [cmpP] at hc; try exact prIQ)) | (refine ost_streqB rfl rfl rfl (fun hc => ?_) (fun hc => ?_) <;> try exact prEQ) | (refine ost_strneB rfl rfl rfl (fun hc => ?_) (fun hc => ?_) <;> try exact prEQ) | (refine ost_streq rfl rfl rfl (fun hc => ?_) (fun hc => ?_) <;> try exact absurd rfl hc) | (refine ost_strne rfl rfl rfl (fun hc => ?_) (fun hc => ?_))) | (refine opk 4 rfl ?_; (refine ost_cmp rfl rfl rfl rfl (fun hc => ?_) (fun hc => ?_) <;> (simp only [cmpP] at hc; try exact prIQ))) | (refine opk 8 rfl ?_; (refine ost_storeW H rfl rfl rfl rfl lQ ixQ lQ okQ ?_; clear H; intro wk H; simp only [List.set_cons_zero, List.set_cons_succ, Nat.reduceAdd] at H)) | (refine opk 9 rfl ?_; first | (refine ost_boxq H rfl ?_; clear H; intro bk wk H) | (refine ost_allocA H rfl ?_; clear H; intro bk wk H))) | refine Wc.seq ?_ | refine then_n ?_ | refine WL.nil ?_ | refine Wc.region ?_ | refine Wc.block ?_ | refine then_r ?_ | refine then_e ?_ | refine inb_e rfl ?_ | refine inb_o rfl ?_ | refine inb_n ?_ | refine inb_r ?_ | refine Wc.skip ?_ | refine Wc.exit ?_ | refine Wc.ret ?_ | refine Wc.cond_true rfl ?_ | refine Wc.cond_false rfl ?_ | (refine Wc.drawn (id := 3) 12 (by kernel_rfl) ?_) | refine WL.skp rfl rfl ?_ | refine WL.sku rfl ?_ | (refine rgs_nil ?_; intro vs wk hE; replace H := H.ext hE; clear hE) | refine RGs.skp (fun _ => rfl) rfl ?_ | (refine RGs.bq (fun _ => rfl) rfl (by intro vs w hE hP; have H := H.ext hE; first | exact dbQ | fail) (fun hc => ?_) (fun hc => ?_) <;> ((try simp only [cmpP, decide_eq_true_eq, decide_eq_false_iff_not, dcd_iff, dcd_no] at hc); try exact prDQ)) | refine RGs.pq (fun _ => rfl) rfl (by intro vs w hE hP; have H := H.ext hE; first | exact dvQ | fail) ?_)
          all_goals first | (exfalso; omega) | skip
          by_cases h1 : s9 = s
          · subst h1
            by_cases h2 : B9 = b'.drop j
            · subst h2
              rw [hyes rfl]
              repeat' (first | ((first | refine WL.p rfl ?_ | refine WL.u ?_ | refine WL.g rfl rfl ?_ | refine WL.gu rfl ?_); first | refine pvQ ?_ | (refine opk 3 rfl ?_; first | (refine ost_eqA rfl (by decide) rfl rfl tyQ tyQ (fun hc => ?_) (fun hc => ?_) <;> try exact prEQ) | (refine ost_neA rfl (by decide) rfl rfl tyQ tyQ (fun hc => ?_) (fun hc => ?_) <;> try exact prEQ) | (refine ost_cmp rfl rfl rfl rfl (fun hc => ?_) (fun hc => ?_) <;> (simp only [cmpP] at hc; try exact prIQ)) | (refine ost_streqB rfl rfl rfl (fun hc => ?_) (fun hc => ?_) <;> try exact prEQ) | (refine ost_strneB rfl rfl rfl (fun hc => ?_) (fun hc => ?_) <;> try exact prEQ) | (refine ost_streq rfl rfl rfl (fun hc => ?_) (fun hc => ?_) <;> try exact absurd rfl hc) | (refine ost_strne rfl rfl rfl (fun hc => ?_) (fun hc => ?_))) | (refine opk 4 rfl ?_; (refine ost_cmp rfl rfl rfl rfl (fun hc => ?_) (fun hc => ?_) <;> (simp only [cmpP] at hc; try exact prIQ))) | (refine opk 8 rfl ?_; (refine ost_storeW H rfl rfl rfl rfl lQ ixQ lQ okQ ?_; clear H; intro wk H; simp only [List.set_cons_zero, List.set_cons_succ, Nat.reduceAdd] at H)) | (refine opk 9 rfl ?_; first | (refine ost_boxq H rfl ?_; clear H; intro bk wk H) | (refine ost_allocA H rfl ?_; clear H; intro bk wk H))) | refine Wc.seq ?_ | refine then_n ?_ | refine WL.nil ?_ | refine Wc.region ?_ | refine Wc.block ?_ | refine then_r ?_ | refine then_e ?_ | refine inb_e rfl ?_ | refine inb_o rfl ?_ | refine inb_n ?_ | refine inb_r ?_ | refine Wc.skip ?_ | refine Wc.exit ?_ | refine Wc.ret ?_ | refine Wc.cond_true rfl ?_ | refine Wc.cond_false rfl ?_ | (refine Wc.drawn (id := 3) 12 (by kernel_rfl) ?_) | (refine Wc.drawn (id := 10) 16 (by kernel_rfl) ?_) | refine WL.skp rfl rfl ?_ | refine WL.sku rfl ?_ | (refine rgs_nil ?_; intro vs wk hE; replace H := H.ext hE; clear hE) | refine RGs.skp (fun _ => rfl) rfl ?_ | (refine RGs.bq (fun _ => rfl) rfl (by intro vs w hE hP; have H := H.ext hE; first | exact dbQ | fail) (fun hc => ?_) (fun hc => ?_) <;> ((try simp only [cmpP, decide_eq_true_eq, decide_eq_false_iff_not, dcd_iff, dcd_no] at hc); try exact prDQ)) | refine RGs.pq (fun _ => rfl) rfl (by intro vs w hE hP; have H := H.ext hE; first | (refine opk 6 rfl ?_; first | (refine ost_toStrN (xs := b'.drop j) rfl rfl (by first | rfl | (simp; omega)) (H.own8rd (by (exact ixQ))) ?_; exact ⟨Fr.refl _ _, rfl⟩) | (refine ost_toStrN (xs := b'.drop j) rfl rfl (by rw [hnj, hbl]; rfl) (hrj.full H) ?_; exact ⟨Fr.refl _ _, rfl⟩)) | exact dvQ | fail) ?_)
              all_goals first | (exfalso; omega) | exact fn_ret2 (v1 := .slice _ _ _) (v2 := .int _ _) rfl rfl rfl ⟨_, _, H.picks [] rfl (by decide), _, _, rfl, rfl, hI7⟩ | exact absurd rfl ‹¬ _ = _›
            · have hnx := hnx (by intro h; injection h with h3 h4; exact h2 h3)
              repeat' (first | ((first | refine WL.p rfl ?_ | refine WL.u ?_ | refine WL.g rfl rfl ?_ | refine WL.gu rfl ?_); first | refine pvQ ?_ | (refine opk 3 rfl ?_; first | (refine ost_eqA rfl (by decide) rfl rfl tyQ tyQ (fun hc => ?_) (fun hc => ?_) <;> try exact prEQ) | (refine ost_neA rfl (by decide) rfl rfl tyQ tyQ (fun hc => ?_) (fun hc => ?_) <;> try exact prEQ) | (refine ost_cmp rfl rfl rfl rfl (fun hc => ?_) (fun hc => ?_) <;> (simp only [cmpP] at hc; try exact prIQ)) | (refine ost_streqB rfl rfl rfl (fun hc => ?_) (fun hc => ?_) <;> try exact prEQ) | (refine ost_strneB rfl rfl rfl (fun hc => ?_) (fun hc => ?_) <;> try exact prEQ) | (refine ost_streq rfl rfl rfl (fun hc => ?_) (fun hc => ?_) <;> try exact absurd rfl hc) | (refine ost_strne rfl rfl rfl (fun hc => ?_) (fun hc => ?_))) | (refine opk 4 rfl ?_; (refine ost_cmp rfl rfl rfl rfl (fun hc => ?_) (fun hc => ?_) <;> (simp only [cmpP] at hc; try exact prIQ))) | (refine opk 8 rfl ?_; (refine ost_storeW H rfl rfl rfl rfl lQ ixQ lQ okQ ?_; clear H; intro wk H; simp only [List.set_cons_zero, List.set_cons_succ, Nat.reduceAdd] at H)) | (refine opk 9 rfl ?_; first | (refine ost_boxq H rfl ?_; clear H; intro bk wk H) | (refine ost_allocA H rfl ?_; clear H; intro bk wk H))) | refine Wc.seq ?_ | refine then_n ?_ | refine WL.nil ?_ | refine Wc.region ?_ | refine Wc.block ?_ | refine then_r ?_ | refine then_e ?_ | refine inb_e rfl ?_ | refine inb_o rfl ?_ | refine inb_n ?_ | refine inb_r ?_ | refine Wc.skip ?_ | refine Wc.exit ?_ | refine Wc.ret ?_ | refine Wc.cond_true rfl ?_ | refine Wc.cond_false rfl ?_ | (refine Wc.drawn (id := 3) 12 (by kernel_rfl) ?_) | (refine Wc.drawn (id := 10) 16 (by kernel_rfl) ?_) | refine WL.skp rfl rfl ?_ | refine WL.sku rfl ?_ | (refine rgs_nil ?_; intro vs wk hE; replace H := H.ext hE; clear hE) | refine RGs.skp (fun _ => rfl) rfl ?_ | (refine RGs.bq (fun _ => rfl) rfl (by intro vs w hE hP; have H := H.ext hE; first | exact dbQ | fail) (fun hc => ?_) (fun hc => ?_) <;> ((try simp only [cmpP, decide_eq_true_eq, decide_eq_false_iff_not, dcd_iff, dcd_no] at hc); try exact prDQ)) | refine RGs.pq (fun _ => rfl) rfl (by intro vs w hE hP; have H := H.ext hE; first | (refine opk 6 rfl ?_; first | (refine ost_toStrN (xs := B9) rfl rfl (by first | rfl | (simp; omega)) (H.own8rd (by (exact ixQ))) ?_; exact ⟨Fr.refl _ _, rfl⟩) | (refine ost_toStrN (xs := b'.drop j) rfl rfl (by rw [hnj, hbl]; rfl) (hrj.full H) ?_; exact ⟨Fr.refl _ _, rfl⟩)) | exact dvQ | fail) ?_)
              all_goals first | (exfalso; omega) | exact ⟨b'.length + 1 - (j + 1), by omega, j + 1, rfl, by omega, by (repeat' (first | exact Agree.refl _ _ | exact Agree.havoc | refine Agree.upd rfl ?_ | refine Agree.hav2 rfl ?_)), rfl, hnx, H.picks [2] rfl (by decide)⟩ | exact absurd rfl ‹¬ _ = _›
          · have hnx := hnx (by intro h; injection h with h3 h4; injection h4 with h4 h5; exact h1 h4)
            have hsn : cSlot s9 ≠ cSlot s := fun h => h1 (cSlot_inj.1 h)
            repeat' (first | ((first | refine WL.p rfl ?_ | refine WL.u ?_ | refine WL.g rfl rfl ?_ | refine WL.gu rfl ?_); first | refine pvQ ?_ | (refine opk 3 rfl ?_; first | (refine ost_eqA rfl (by decide) rfl rfl tyQ tyQ (fun hc => ?_) (fun hc => ?_) <;> try exact prEQ) | (refine ost_neA rfl (by decide) rfl rfl tyQ tyQ (fun hc => ?_) (fun hc => ?_) <;> try exact prEQ) | (refine ost_cmp rfl rfl rfl rfl (fun hc => ?_) (fun hc => ?_) <;> (simp only [cmpP] at hc; try exact prIQ)) | (refine ost_streqB rfl rfl rfl (fun hc => ?_) (fun hc => ?_) <;> try exact prEQ) | (refine ost_strneB rfl rfl rfl (fun hc => ?_) (fun hc => ?_) <;> try exact prEQ) | (refine ost_streq rfl rfl rfl (fun hc => ?_) (fun hc => ?_) <;> try exact absurd rfl hc) | (refine ost_strne rfl rfl rfl (fun hc => ?_) (fun hc => ?_))) | (refine opk 4 rfl ?_; (refine ost_cmp rfl rfl rfl rfl (fun hc => ?_) (fun hc => ?_) <;> (simp only [cmpP] at hc; try exact prIQ))) | (refine opk 8 rfl ?_; (refine ost_storeW H rfl rfl rfl rfl lQ ixQ lQ okQ ?_; clear H; intro wk H; simp only [List.set_cons_zero, List.set_cons_succ, Nat.reduceAdd] at H)) | (refine opk 9 rfl ?_; first | (refine ost_boxq H rfl ?_; clear H; intro bk wk H) | (refine ost_allocA H rfl ?_; clear H; intro bk wk H))) | refine Wc.seq ?_ | refine then_n ?_ | refine WL.nil ?_ | refine Wc.region ?_ | refine Wc.block ?_ | refine then_r ?_ | refine then_e ?_ | refine inb_e rfl ?_ | refine inb_o rfl ?_ | refine inb_n ?_ | refine inb_r ?_ | refine Wc.skip ?_ | refine Wc.exit ?_ | refine Wc.ret ?_ | refine Wc.cond_true rfl ?_ | refine Wc.cond_false rfl ?_ | (refine Wc.drawn (id := 3) 12 (by kernel_rfl) ?_) | (refine Wc.drawn (id := 10) 16 (by kernel_rfl) ?_) | refine WL.skp rfl rfl ?_ | refine WL.sku rfl ?_ | (refine rgs_nil ?_; intro vs wk hE; replace H := H.ext hE; clear hE) | refine RGs.skp (fun _ => rfl) rfl ?_ | (refine RGs.bq (fun _ => rfl) rfl (by intro vs w hE hP; have H := H.ext hE; first | exact dbQ | fail) (fun hc => ?_) (fun hc => ?_) <;> ((try simp only [cmpP, decide_eq_true_eq, decide_eq_false_iff_not, dcd_iff, dcd_no] at hc); try exact prDQ)) | refine RGs.pq (fun _ => rfl) rfl (by intro vs w hE hP; have H := H.ext hE; first | exact dvQ | fail) ?_)
            all_goals first | (exfalso; omega) | exact ⟨b'.length + 1 - (j + 1), by omega, j + 1, rfl, by omega, by (repeat' (first | exact Agree.refl _ _ | exact Agree.havoc | refine Agree.upd rfl ?_ | refine Agree.hav2 rfl ?_)), rfl, hnx, H.picks [2] rfl (by decide)⟩ | exact absurd ‹cSlot s9 = cSlot s› hsn
        · have hjE : j = b'.length + 1 := by omega
          rw [hno4 fun ⟨_, x, hx, e⟩ => hno x (by omega) e]
          repeat' (first | ((first | refine WL.p rfl ?_ | refine WL.u ?_ | refine WL.g rfl rfl ?_ | refine WL.gu rfl ?_); first | refine pvQ ?_ | (refine opk 3 rfl ?_; first | (refine ost_eqA rfl (by decide) rfl rfl tyQ tyQ (fun hc => ?_) (fun hc => ?_) <;> try exact prEQ) | (refine ost_neA rfl (by decide) rfl rfl tyQ tyQ (fun hc => ?_) (fun hc => ?_) <;> try exact prEQ) | (refine ost_cmp rfl rfl rfl rfl (fun hc => ?_) (fun hc => ?_) <;> (simp only [cmpP] at hc; try exact prIQ)) | (refine ost_streqB rfl rfl rfl (fun hc => ?_) (fun hc => ?_) <;> try exact prEQ) | (refine ost_strneB rfl rfl rfl (fun hc => ?_) (fun hc => ?_) <;> try exact prEQ) | (refine ost_streq rfl rfl rfl (fun hc => ?_) (fun hc => ?_) <;> try exact absurd rfl hc) | (refine ost_strne rfl rfl rfl (fun hc => ?_) (fun hc => ?_))) | (refine opk 4 rfl ?_; (refine ost_cmp rfl rfl rfl rfl (fun hc => ?_) (fun hc => ?_) <;> (simp only [cmpP] at hc; try exact prIQ))) | (refine opk 8 rfl ?_; (refine ost_storeW H rfl rfl rfl rfl lQ ixQ lQ okQ ?_; clear H; intro wk H; simp only [List.set_cons_zero, List.set_cons_succ, Nat.reduceAdd] at H)) | (refine opk 9 rfl ?_; first | (refine ost_boxq H rfl ?_; clear H; intro bk wk H) | (refine ost_allocA H rfl ?_; clear H; intro bk wk H))) | refine Wc.seq ?_ | refine then_n ?_ | refine WL.nil ?_ | refine Wc.region ?_ | refine Wc.block ?_ | refine then_r ?_ | refine then_e ?_ | refine inb_e rfl ?_ | refine inb_o rfl ?_ | refine inb_n ?_ | refine inb_r ?_ | refine Wc.skip ?_ | refine Wc.exit ?_ | refine Wc.ret ?_ | refine Wc.cond_true rfl ?_ | refine Wc.cond_false rfl ?_ | (refine Wc.drawn (id := 3) 12 (by kernel_rfl) ?_) | (refine Wc.drawn (id := 10) 16 (by kernel_rfl) ?_) | refine WL.skp rfl rfl ?_ | refine WL.sku rfl ?_ | (refine rgs_nil ?_; intro vs wk hE; replace H := H.ext hE; clear hE) | refine RGs.skp (fun _ => rfl) rfl ?_ | (refine RGs.bq (fun _ => rfl) rfl (by intro vs w hE hP; have H := H.ext hE; first | exact dbQ | fail) (fun hc => ?_) (fun hc => ?_) <;> ((try simp only [cmpP, decide_eq_true_eq, decide_eq_false_iff_not, dcd_iff, dcd_no] at hc); try exact prDQ)) | refine RGs.pq (fun _ => rfl) rfl (by intro vs w hE hP; have H := H.ext hE; first | exact dvQ | fail) ?_)
          all_goals first | (exfalso; omega) | exact fn_ret2 (v1 := .slice _ _ _) (v2 := .int _ _) rfl rfl rfl ⟨_, _, H.picks [] rfl (by decide), _, _, rfl, rfl, Sl.nil _ _⟩
      · have hlno : loadL b s = ([], 15) := hno4 fun ⟨h1, x, hx, e⟩ => hok (dumpM_ok (x := x) (v := s.ver) (by rw [e]))
        rw [hlno]
        cases hri : riseL l with
        | false =>
          have hrs : ∀ w, Sat h7 w → SpecV Tryd.prog 24 #[.slice a6 l.length c6] w (.bool false) := fun w hs => by
            have := r15_rise h7 w hs a6 c6 l hI7
            rw [hri] at this; exact this
          repeat' (first | ((first | refine WL.p rfl ?_ | refine WL.u ?_ | refine WL.g rfl rfl ?_ | refine WL.gu rfl ?_); first | (refine opk 1 rfl ?_; (refine ost_V H rfl (hrs _ H.sat) rfl ?_; clear H; intro wk H)) | refine pvQ ?_ | (refine opk 3 rfl ?_; first | (refine ost_eqA rfl (by decide) rfl rfl tyQ tyQ (fun hc => ?_) (fun hc => ?_) <;> try exact prEQ) | (refine ost_neA rfl (by decide) rfl rfl tyQ tyQ (fun hc => ?_) (fun hc => ?_) <;> try exact prEQ) | (refine ost_cmp rfl rfl rfl rfl (fun hc => ?_) (fun hc => ?_) <;> (simp only [cmpP] at hc; try exact prIQ)) | (refine ost_streqB rfl rfl rfl (fun hc => ?_) (fun hc => ?_) <;> try exact prEQ) | (refine ost_strneB rfl rfl rfl (fun hc => ?_) (fun hc => ?_) <;> try exact prEQ) | (refine ost_streq rfl rfl rfl (fun hc => ?_) (fun hc => ?_) <;> try exact absurd rfl hc) | (refine ost_strne rfl rfl rfl (fun hc => ?_) (fun hc => ?_))) | (refine opk 4 rfl ?_; (refine ost_cmp rfl rfl rfl rfl (fun hc => ?_) (fun hc => ?_) <;> (simp only [cmpP] at hc; try exact prIQ))) | (refine opk 8 rfl ?_; (refine ost_storeW H rfl rfl rfl rfl lQ ixQ lQ okQ ?_; clear H; intro wk H; simp only [List.set_cons_zero, List.set_cons_succ, Nat.reduceAdd] at H)) | (refine opk 9 rfl ?_; first | (refine ost_boxq H rfl ?_; clear H; intro bk wk H) | (refine ost_allocA H rfl ?_; clear H; intro bk wk H))) | refine Wc.seq ?_ | refine then_n ?_ | refine WL.nil ?_ | refine Wc.region ?_ | refine Wc.block ?_ | refine then_r ?_ | refine then_e ?_ | refine inb_e rfl ?_ | refine inb_o rfl ?_ | refine inb_n ?_ | refine inb_r ?_ | refine Wc.skip ?_ | refine Wc.exit ?_ | refine Wc.ret ?_ | refine Wc.cond_true rfl ?_ | refine Wc.cond_false rfl ?_ | (refine Wc.drawn (id := 3) 12 (by kernel_rfl) ?_) | (refine Wc.drawn (id := 10) 16 (by kernel_rfl) ?_) | refine WL.skp rfl rfl ?_ | refine WL.sku rfl ?_ | (refine rgs_nil ?_; intro vs wk hE; replace H := H.ext hE; clear hE) | refine RGs.skp (fun _ => rfl) rfl ?_ | (refine RGs.bq (fun _ => rfl) rfl (by intro vs w hE hP; have H := H.ext hE; first | exact dbQ | fail) (fun hc => ?_) (fun hc => ?_) <;> ((try simp only [cmpP, decide_eq_true_eq, decide_eq_false_iff_not, dcd_iff, dcd_no] at hc); try exact prDQ)) | refine RGs.pq (fun _ => rfl) rfl (by intro vs w hE hP; have H := H.ext hE; first | exact dvQ | fail) ?_)
          all_goals first | (exfalso; omega) | exact fn_ret2 (v1 := .slice _ _ _) (v2 := .int _ _) rfl rfl rfl ⟨_, _, H.picks [] rfl (by decide), _, _, rfl, rfl, Sl.nil _ _⟩
        | true =>
          have hl4 : ¬ l.length ≤ 4096 := fun h => hok ⟨hri, h⟩
          have hrs : ∀ w, Sat h7 w → SpecV Tryd.prog 24 #[.slice a6 l.length c6] w (.bool true) := fun w hs => by
            have := r15_rise h7 w hs a6 c6 l hI7
            rw [hri] at this; exact this
          repeat' (first | ((first | refine WL.p rfl ?_ | refine WL.u ?_ | refine WL.g rfl rfl ?_ | refine WL.gu rfl ?_); first | (refine opk 1 rfl ?_; (refine ost_V H rfl (hrs _ H.sat) rfl ?_; clear H; intro wk H)) | refine pvQ ?_ | (refine opk 3 rfl ?_; first | (refine ost_eqA rfl (by decide) rfl rfl tyQ tyQ (fun hc => ?_) (fun hc => ?_) <;> try exact prEQ) | (refine ost_neA rfl (by decide) rfl rfl tyQ tyQ (fun hc => ?_) (fun hc => ?_) <;> try exact prEQ) | (refine ost_cmp rfl rfl rfl rfl (fun hc => ?_) (fun hc => ?_) <;> (simp only [cmpP] at hc; try exact prIQ)) | (refine ost_streqB rfl rfl rfl (fun hc => ?_) (fun hc => ?_) <;> try exact prEQ) | (refine ost_strneB rfl rfl rfl (fun hc => ?_) (fun hc => ?_) <;> try exact prEQ) | (refine ost_streq rfl rfl rfl (fun hc => ?_) (fun hc => ?_) <;> try exact absurd rfl hc) | (refine ost_strne rfl rfl rfl (fun hc => ?_) (fun hc => ?_))) | (refine opk 4 rfl ?_; (refine ost_cmp rfl rfl rfl rfl (fun hc => ?_) (fun hc => ?_) <;> (simp only [cmpP] at hc; try exact prIQ))) | (refine opk 8 rfl ?_; (refine ost_storeW H rfl rfl rfl rfl lQ ixQ lQ okQ ?_; clear H; intro wk H; simp only [List.set_cons_zero, List.set_cons_succ, Nat.reduceAdd] at H)) | (refine opk 9 rfl ?_; first | (refine ost_boxq H rfl ?_; clear H; intro bk wk H) | (refine ost_allocA H rfl ?_; clear H; intro bk wk H))) | refine Wc.seq ?_ | refine then_n ?_ | refine WL.nil ?_ | refine Wc.region ?_ | refine Wc.block ?_ | refine then_r ?_ | refine then_e ?_ | refine inb_e rfl ?_ | refine inb_o rfl ?_ | refine inb_n ?_ | refine inb_r ?_ | refine Wc.skip ?_ | refine Wc.exit ?_ | refine Wc.ret ?_ | refine Wc.cond_true rfl ?_ | refine Wc.cond_false rfl ?_ | (refine Wc.drawn (id := 3) 12 (by kernel_rfl) ?_) | (refine Wc.drawn (id := 10) 16 (by kernel_rfl) ?_) | refine WL.skp rfl rfl ?_ | refine WL.sku rfl ?_ | (refine rgs_nil ?_; intro vs wk hE; replace H := H.ext hE; clear hE) | refine RGs.skp (fun _ => rfl) rfl ?_ | (refine RGs.bq (fun _ => rfl) rfl (by intro vs w hE hP; have H := H.ext hE; first | exact dbQ | fail) (fun hc => ?_) (fun hc => ?_) <;> ((try simp only [cmpP, decide_eq_true_eq, decide_eq_false_iff_not, dcd_iff, dcd_no] at hc); try exact prDQ)) | refine RGs.pq (fun _ => rfl) rfl (by intro vs w hE hP; have H := H.ext hE; first | exact dvQ | fail) ?_)
          all_goals first | (exfalso; omega) | exact fn_ret2 (v1 := .slice _ _ _) (v2 := .int _ _) rfl rfl rfl ⟨_, _, H.picks [] rfl (by decide), _, _, rfl, rfl, Sl.nil _ _⟩
end Go.Tg

