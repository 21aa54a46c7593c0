/- Contracts of Go functions that the laws reach: what each call answers and leaves in memory, for all arguments within the bounds that each theorem names. -/
import Derived.Test.YtbfilhaigbebpaaDoorInst
import Derived.Test.YtbfilhaigbebpaaDoorAuto
import Derived.Test.YtbfilhaigbebpaaDoorR3
import Derived.Test.YtbfilhaigbebpaaDoorCpy
set_option linter.unusedVariables false
set_option linter.unusedSimpArgs false
set_option maxRecDepth 100000
set_option maxHeartbeats 4000000
namespace Go.Tg
open Go Go.Proofs
theorem range_pre {k n : Nat} (h : k < n) : List.range k ++ [k] <+: List.range n := by
  rw [← List.range_succ]
  exact ⟨(List.range n).drop (k + 1), by
    have := List.take_append_drop (k + 1) (List.range n)
    rw [List.take_range, Nat.min_eq_left (by omega)] at this
    exact this⟩
def chN (n : Nat) : Nat := (n + 7) / 8
def chL (n k : Nat) : Nat := min 8 (n - 8 * k)
def chV (sz : Nat) (a : Option Addr) (n k : Nat) : Value := .slice (a.map (·.add (8 * k * sz))) (chL n k) (chL n k)
theorem Sl.part {h : FH} {sz : Nat} {a : Option Addr} {c : Nat} {rows : List (List Value)} (r : Sl h sz a c rows) (k : Nat) (hk : k < chN rows.length) : Sl h sz (a.map (·.add (8 * k * sz))) (chL rows.length k) ((rows.drop (8 * k)).take 8) := by
  unfold chN at hk
  have h1 := (r.drop (n := 8 * k) (by omega)).take 8
  have hl := r.le
  rw [if_neg (by omega)] at h1
  have hlen : ((rows.drop (8 * k)).take 8).length = chL rows.length k := by simp [chL]
  exact ⟨h1.rd, h1.sz, by rw [hlen]; exact Nat.le_refl _, by have := h1.mx; unfold chL; omega, fun e => by have := h1.nn e; unfold chL; omega⟩
theorem chunk_it (h : FH) (b2 b3 : Nat) (a : Option Addr) (n c : Nat) (T2 T3 : TypeId) (fr2 fr3 : Nat × Nat) (hb2 : h b2 = some (.cells [Value.slice a n c].toArray T2 fr2)) (hb3 : h b3 = some (.cells [Value.int .i64 8].toArray T3 fr3)) (hnc : n ≤ c) (hc : c ≤ maxLen) (hn9 : n ≤ 1000000000) :
    ItSp Tryd.prog 62 [pt b2, pt b3] h (chV 5 a n) (List.range (chN n)) := by
  intro l J X g A W hle HO hJ hY
  have hb2 : g b2 = some (.cells [Value.slice a n c].toArray T2 fr2) := hle _ _ hb2
  have hb3 : g b3 = some (.cells [Value.int .i64 8].toArray T3 fr3) := hle _ _ hb3
  have H := HO
  have g1 : [Value.slice a n c][0]? = some (.slice a n c) := rfl
  unfold Spec
  refine calls_of Tryd.func62 rfl Tryd.ntmps62 (by simp) ?_
  repeat' (first | ((first | refine WL.p rfl ?_ | refine WL.u ?_); first | refine pvQ ?_ | (refine opk 3 rfl ?_; (refine ost_cmp rfl rfl rfl rfl (fun hc => ?_) (fun hc => ?_) <;> (simp only [cmpP] at hc; try exact prIQ))) | (refine opk 4 rfl ?_; (refine ost_cmp rfl rfl rfl rfl (fun hc => ?_) (fun hc => ?_) <;> (simp only [cmpP] at hc; try exact prIQ)))) | refine Wc.seq ?_ | refine then_n ?_ | refine WL.nil ?_ | refine Wc.region ?_ | refine Wc.block ?_ | refine then_r ?_ | refine then_e ?_ | refine inb_e rfl ?_ | refine inb_o rfl ?_ | refine inb_n ?_ | refine inb_r ?_ | refine Wc.skip ?_ | refine Wc.exit ?_ | refine Wc.ret ?_ | refine Wc.cond_true rfl ?_ | refine Wc.cond_false rfl ?_ | (refine Wc.drawn (id := 3) 5 (by kernel_rfl) ?_) | (refine rgs_nil ?_; intro vs wk hE; replace H := H.ext hE; clear hE) | (refine RGs.bq (fun _ => rfl) rfl (by intro vs w hE hP; have H := H.ext hE; first | exact dbQ | fail) (fun hc => ?_) (fun hc => ?_) <;> ((try simp only [cmpP, decide_eq_true_eq, decide_eq_false_iff_not, dcd_iff, dcd_no] at hc); try exact prDQ)) | refine RGs.pq (fun _ => rfl) rfl (by intro vs w hE hP; have H := H.ext hE; first | exact dvQ | fail) ?_)
  refine Wc.loopE (fun s0 m s w' => ∃ (k : Nat) (A1 : HA) (g1 : FH), m = chN n - k ∧ k ≤ chN n ∧ Agree [4, 5, 6, 7, 8, 9, 10, 11, 12, 13, 14, 15, 16, 17, 18, 19, 20, 21, 22, 23, 24, 25, 26, 27, 28, 29, 30] s s0 ∧ s 4 = .int .i64 ((8 * k : Nat) : Int) ∧ FLe g g1 ∧ J (List.range k) A1 ∧
    St W A.fp g g1 [A1] w') (chN n) ⟨0, A, g, rfl, by omega, Agree.refl _ _, rfl, FLe.refl _, hJ, H⟩ ?_
  clear H
  rintro m s w' ⟨k, A1, g1, rfl, hk, hA9, e1, hle1, hJ1, H⟩
  obtain ⟨j, rfl⟩ := hA9.env1 e1
  clear hA9 e1
  have hb2 := hle1 _ _ hb2
  have hb3 := hle1 _ _ hb3
  have hmx9 : (maxLen : Nat) ≤ 9223372036854775807 := by decide
  by_cases hlt : k < chN n
  · have hN : 8 * k < n := by unfold chN at hlt; omega
    have hmn : min (8 : Int) (((n - ((8 * k : Nat) : Int).toNat : Nat)) : Int) = ((chL n k : Nat) : Int) := by unfold chL; omega
    have hch : 0 < chL n k ∧ chL n k ≤ 8 ∧ 8 * k + chL n k ≤ n := by unfold chL; omega
    have hcv : ∀ sz, chV sz a n k = .slice (a.map (·.add (8 * k * sz))) (chL n k) (chL n k) := fun _ => rfl
    have hn2 : (List.range k) ++ [k] = List.range (k + 1) := List.range_succ.symm
    have hY1 := fun w => hY (List.range k) k A1 g1 w (hle.trans hle1) (range_pre hlt) hJ1
    have hwz : IntKind.i64.wrap 8 = 8 := by decide
    generalize chL n k = cl at hmn hch hcv
    have hsl : ∀ sz, Value.slice (if (((8 * k : Nat) : Int) + min (8 : Int) (((n - ((8 * k : Nat) : Int).toNat : Nat)) : Int)).toNat = ((8 * k : Nat) : Int).toNat then a else a.map (fun x => x.add (((8 * k : Nat) : Int).toNat * sz))) ((((8 * k : Nat) : Int) + min (8 : Int) (((n - ((8 * k : Nat) : Int).toNat : Nat)) : Int)).toNat - ((8 * k : Nat) : Int).toNat) ((((8 * k : Nat) : Int) + min (8 : Int) (((n - ((8 * k : Nat) : Int).toNat : Nat)) : Int)).toNat - ((8 * k : Nat) : Int).toNat) = chV sz a n k := by
      intro sz
      rw [hmn, hcv, if_neg (by omega), show (((8 * k : Nat) : Int) + (cl : Int)).toNat - ((8 * k : Nat) : Int).toNat = cl by omega, show ((8 * k : Nat) : Int).toNat = 8 * k by omega]
    repeat' (first | ((first | refine WL.p rfl ?_ | refine WL.u ?_); first | (refine opk 1 rfl ?_; (refine ost_Y (i := 0) (vs := [chV 5 a n k]) H rfl rfl rfl rfl (fun HC => hY1 _ HC) ?_; clear H; rintro vk wk hfk Lk ⟨A2, rfl, (⟨rfl, hJ2⟩ | ⟨rfl, hX2⟩)⟩ hle2 H <;> (simp only [List.cons_append, List.nil_append, List.eraseIdx_cons_zero] at H; have hb3 := hle2 _ _ hb3))) | (refine opk 10 rfl ?_; (refine ost_slice3 rfl rfl rfl rfl rfl (by omega) (by omega) (by omega) (by omega) ?_; rw [hsl 5])) | refine pvQ ?_ | (refine opk 3 rfl ?_; (refine ost_cmp rfl rfl rfl rfl (fun hc => ?_) (fun hc => ?_) <;> (simp only [cmpP] at hc; try exact prIQ))) | (refine opk 4 rfl ?_; (refine ost_cmp rfl rfl rfl rfl (fun hc => ?_) (fun hc => ?_) <;> (simp only [cmpP] at hc; try exact prIQ)))) | refine Wc.seq ?_ | refine then_n ?_ | refine WL.nil ?_ | refine Wc.region ?_ | refine Wc.block ?_ | refine then_r ?_ | refine then_e ?_ | refine inb_e rfl ?_ | refine inb_o rfl ?_ | refine inb_n ?_ | refine inb_r ?_ | refine Wc.skip ?_ | refine Wc.exit ?_ | refine Wc.ret ?_ | refine Wc.cond_true rfl ?_ | refine Wc.cond_false rfl ?_ | (refine Wc.drawn (id := 3) 5 (by kernel_rfl) ?_) | (refine rgs_nil ?_; intro vs wk hE; replace H := H.ext hE; clear hE) | (refine RGs.bq (fun _ => rfl) rfl (by intro vs w hE hP; have H := H.ext hE; first | exact dbQ | fail) (fun hc => ?_) (fun hc => ?_) <;> ((try simp only [cmpP, decide_eq_true_eq, decide_eq_false_iff_not, dcd_iff, dcd_no] at hc); try exact prDQ)) | refine RGs.pq (fun _ => rfl) rfl (by intro vs w hE hP; have H := H.ext hE; first | exact dvQ | fail) ?_)
    · rw [hn2] at hJ2
      exact ⟨chN n - (k + 1), by omega, k + 1, A2, hfk, rfl, by omega, by (repeat' (first | exact Agree.refl _ _ | exact Agree.havoc | refine Agree.upd rfl ?_ | refine Agree.hav2 rfl ?_)), by show Value.int _ _ = _; congr 1, hle1.trans hle2, hJ2, H⟩
    · rw [hn2] at hX2
      exact fn_ret0 rfl ⟨_, _, H, A2, rfl, .inr ⟨_, ⟨(List.range (chN n)).drop (k + 1), by
        have := List.take_append_drop (k + 1) (List.range (chN n))
        rw [List.take_range, Nat.min_eq_left (by omega)] at this
        exact this⟩, hX2⟩⟩
  · obtain rfl : k = chN n := by omega
    have hN : n ≤ 8 * chN n := by unfold chN; omega
    repeat' (first | ((first | refine WL.p rfl ?_ | refine WL.u ?_); first | refine pvQ ?_ | (refine opk 3 rfl ?_; (refine ost_cmp rfl rfl rfl rfl (fun hc => ?_) (fun hc => ?_) <;> (simp only [cmpP] at hc; try exact prIQ))) | (refine opk 4 rfl ?_; (refine ost_cmp rfl rfl rfl rfl (fun hc => ?_) (fun hc => ?_) <;> (simp only [cmpP] at hc; try exact prIQ)))) | refine Wc.seq ?_ | refine then_n ?_ | refine WL.nil ?_ | refine Wc.region ?_ | refine Wc.block ?_ | refine then_r ?_ | refine then_e ?_ | refine inb_e rfl ?_ | refine inb_o rfl ?_ | refine inb_n ?_ | refine inb_r ?_ | refine Wc.skip ?_ | refine Wc.exit ?_ | refine Wc.ret ?_ | refine Wc.cond_true rfl ?_ | refine Wc.cond_false rfl ?_ | (refine Wc.drawn (id := 3) 5 (by kernel_rfl) ?_) | (refine rgs_nil ?_; intro vs wk hE; replace H := H.ext hE; clear hE) | (refine RGs.bq (fun _ => rfl) rfl (by intro vs w hE hP; have H := H.ext hE; first | exact dbQ | fail) (fun hc => ?_) (fun hc => ?_) <;> ((try simp only [cmpP, decide_eq_true_eq, decide_eq_false_iff_not, dcd_iff, dcd_no] at hc); try exact prDQ)) | refine RGs.pq (fun _ => rfl) rfl (by intro vs w hE hP; have H := H.ext hE; first | exact dvQ | fail) ?_)
    exact fn_end0 rfl ⟨_, _, H, A1, rfl, .inl hJ1⟩
theorem chunk_fn (h0 : FH) (w : World) (hs : Sat h0 w) (a : Option Addr) (n c : Nat) :
    Spec Tryd.prog 45 #[.slice a n c, .int .i64 8] w [] h0 (fun v h' L' => ∃ b2 b3, v = .func (.func 62) #[] #[pt b2, pt b3] ∧ L' = [] ∧ h' b2 = some (.cells [Value.slice a n c].toArray 32 (0, 0)) ∧ h' b3 = some (.cells [Value.int .i64 8].toArray 3 (0, 0))) := by
  have H := St.start hs
  unfold Spec
  refine calls_of Tryd.func45 rfl Tryd.ntmps45 (by simp) ?_
  repeat' (first | ((first | refine WL.p rfl ?_ | refine WL.u ?_); first | refine pvQ ?_ | (refine opk 3 rfl ?_; (refine ost_cmp rfl rfl rfl rfl (fun hc => ?_) (fun hc => ?_) <;> (simp only [cmpP] at hc; try exact prIQ))) | (refine opk 4 rfl ?_; (refine ost_cmp rfl rfl rfl rfl (fun hc => ?_) (fun hc => ?_) <;> (simp only [cmpP] at hc; try exact prIQ))) | (refine opk 9 rfl ?_; (refine ost_boxq H rfl ?_; clear H; intro bk wk H))) | refine Wc.seq ?_ | refine then_n ?_ | refine WL.nil ?_ | refine Wc.region ?_ | refine Wc.block ?_ | refine then_r ?_ | refine then_e ?_ | refine inb_e rfl ?_ | refine inb_o rfl ?_ | refine inb_n ?_ | refine inb_r ?_ | refine Wc.skip ?_ | refine Wc.exit ?_ | refine Wc.ret ?_ | refine Wc.cond_true rfl ?_ | refine Wc.cond_false rfl ?_)
  obtain ⟨b3, eb3⟩ := H.nameB idx0
  subst eb3
  obtain ⟨b2, eb2⟩ := H.nameB idx1
  subst eb2
  generalize hfv : Value.func (Fn.func 62) _ _ = fv
  replace hfv : fv = .func (Fn.func 62) #[] #[pt b2, pt b3] := hfv.symm.trans (by kernel_rfl)
  subst hfv
  obtain ⟨h1, hle1, hb3, H⟩ := H.freezeB
  obtain ⟨h2, hle2, hb2, H⟩ := H.freezeB
  refine fn_ret1 (v := .func _ _ _) rfl rfl ⟨_, _, H, b2, b3, rfl, rfl, hb2, hle2 _ _ hb3⟩
theorem chunk_pl (h : FH) (b2 b3 : Nat) (a : Option Addr) (n c : Nat) (T2 T3 : TypeId) (fr2 fr3 : Nat × Nat) (hb2 : h b2 = some (.cells [Value.slice a n c].toArray T2 fr2)) (hb3 : h b3 = some (.cells [Value.int .i64 8].toArray T3 fr3)) (hnc : n ≤ c) (hc : c ≤ maxLen) (hn9 : n ≤ 1000000000) :
    ItSp Tryd.prog 63 [pt b2, pt b3] h (chV 4 a n) (List.range (chN n)) := by
  intro l J X g A W hle HO hJ hY
  have hb2 : g b2 = some (.cells [Value.slice a n c].toArray T2 fr2) := hle _ _ hb2
  have hb3 : g b3 = some (.cells [Value.int .i64 8].toArray T3 fr3) := hle _ _ hb3
  have H := HO
  have g1 : [Value.slice a n c][0]? = some (.slice a n c) := rfl
  unfold Spec
  refine calls_of Tryd.func63 rfl Tryd.ntmps63 (by simp) ?_
  repeat' (first | ((first | refine WL.p rfl ?_ | refine WL.u ?_); first | refine pvQ ?_ | (refine opk 3 rfl ?_; (refine ost_cmp rfl rfl rfl rfl (fun hc => ?_) (fun hc => ?_) <;> (simp only [cmpP] at hc; try exact prIQ))) | (refine opk 4 rfl ?_; (refine ost_cmp rfl rfl rfl rfl (fun hc => ?_) (fun hc => ?_) <;> (simp only [cmpP] at hc; try exact prIQ)))) | refine Wc.seq ?_ | refine then_n ?_ | refine WL.nil ?_ | refine Wc.region ?_ | refine Wc.block ?_ | refine then_r ?_ | refine then_e ?_ | refine inb_e rfl ?_ | refine inb_o rfl ?_ | refine inb_n ?_ | refine inb_r ?_ | refine Wc.skip ?_ | refine Wc.exit ?_ | refine Wc.ret ?_ | refine Wc.cond_true rfl ?_ | refine Wc.cond_false rfl ?_ | (refine Wc.drawn (id := 3) 5 (by kernel_rfl) ?_) | (refine rgs_nil ?_; intro vs wk hE; replace H := H.ext hE; clear hE) | (refine RGs.bq (fun _ => rfl) rfl (by intro vs w hE hP; have H := H.ext hE; first | exact dbQ | fail) (fun hc => ?_) (fun hc => ?_) <;> ((try simp only [cmpP, decide_eq_true_eq, decide_eq_false_iff_not, dcd_iff, dcd_no] at hc); try exact prDQ)) | refine RGs.pq (fun _ => rfl) rfl (by intro vs w hE hP; have H := H.ext hE; first | exact dvQ | fail) ?_)
  refine Wc.loopE (fun s0 m s w' => ∃ (k : Nat) (A1 : HA) (g1 : FH), m = chN n - k ∧ k ≤ chN n ∧ Agree [4, 5, 6, 7, 8, 9, 10, 11, 12, 13, 14, 15, 16, 17, 18, 19, 20, 21, 22, 23, 24, 25, 26, 27, 28, 29, 30] s s0 ∧ s 4 = .int .i64 ((8 * k : Nat) : Int) ∧ FLe g g1 ∧ J (List.range k) A1 ∧
    St W A.fp g g1 [A1] w') (chN n) ⟨0, A, g, rfl, by omega, Agree.refl _ _, rfl, FLe.refl _, hJ, H⟩ ?_
  clear H
  rintro m s w' ⟨k, A1, g1, rfl, hk, hA9, e1, hle1, hJ1, H⟩
  obtain ⟨j, rfl⟩ := hA9.env1 e1
  clear hA9 e1
  have hb2 := hle1 _ _ hb2
  have hb3 := hle1 _ _ hb3
  have hmx9 : (maxLen : Nat) ≤ 9223372036854775807 := by decide
  by_cases hlt : k < chN n
  · have hN : 8 * k < n := by unfold chN at hlt; omega
    have hmn : min (8 : Int) (((n - ((8 * k : Nat) : Int).toNat : Nat)) : Int) = ((chL n k : Nat) : Int) := by unfold chL; omega
    have hch : 0 < chL n k ∧ chL n k ≤ 8 ∧ 8 * k + chL n k ≤ n := by unfold chL; omega
    have hcv : ∀ sz, chV sz a n k = .slice (a.map (·.add (8 * k * sz))) (chL n k) (chL n k) := fun _ => rfl
    have hn2 : (List.range k) ++ [k] = List.range (k + 1) := List.range_succ.symm
    have hY1 := fun w => hY (List.range k) k A1 g1 w (hle.trans hle1) (range_pre hlt) hJ1
    have hwz : IntKind.i64.wrap 8 = 8 := by decide
    generalize chL n k = cl at hmn hch hcv
    have hsl : ∀ sz, Value.slice (if (((8 * k : Nat) : Int) + min (8 : Int) (((n - ((8 * k : Nat) : Int).toNat : Nat)) : Int)).toNat = ((8 * k : Nat) : Int).toNat then a else a.map (fun x => x.add (((8 * k : Nat) : Int).toNat * sz))) ((((8 * k : Nat) : Int) + min (8 : Int) (((n - ((8 * k : Nat) : Int).toNat : Nat)) : Int)).toNat - ((8 * k : Nat) : Int).toNat) ((((8 * k : Nat) : Int) + min (8 : Int) (((n - ((8 * k : Nat) : Int).toNat : Nat)) : Int)).toNat - ((8 * k : Nat) : Int).toNat) = chV sz a n k := by
      intro sz
      rw [hmn, hcv, if_neg (by omega), show (((8 * k : Nat) : Int) + (cl : Int)).toNat - ((8 * k : Nat) : Int).toNat = cl by omega, show ((8 * k : Nat) : Int).toNat = 8 * k by omega]
    repeat' (first | ((first | refine WL.p rfl ?_ | refine WL.u ?_); first | (refine opk 1 rfl ?_; (refine ost_Y (i := 0) (vs := [chV 4 a n k]) H rfl rfl rfl rfl (fun HC => hY1 _ HC) ?_; clear H; rintro vk wk hfk Lk ⟨A2, rfl, (⟨rfl, hJ2⟩ | ⟨rfl, hX2⟩)⟩ hle2 H <;> (simp only [List.cons_append, List.nil_append, List.eraseIdx_cons_zero] at H; have hb3 := hle2 _ _ hb3))) | (refine opk 10 rfl ?_; (refine ost_slice3 rfl rfl rfl rfl rfl (by omega) (by omega) (by omega) (by omega) ?_; rw [hsl 4])) | refine pvQ ?_ | (refine opk 3 rfl ?_; (refine ost_cmp rfl rfl rfl rfl (fun hc => ?_) (fun hc => ?_) <;> (simp only [cmpP] at hc; try exact prIQ))) | (refine opk 4 rfl ?_; (refine ost_cmp rfl rfl rfl rfl (fun hc => ?_) (fun hc => ?_) <;> (simp only [cmpP] at hc; try exact prIQ)))) | refine Wc.seq ?_ | refine then_n ?_ | refine WL.nil ?_ | refine Wc.region ?_ | refine Wc.block ?_ | refine then_r ?_ | refine then_e ?_ | refine inb_e rfl ?_ | refine inb_o rfl ?_ | refine inb_n ?_ | refine inb_r ?_ | refine Wc.skip ?_ | refine Wc.exit ?_ | refine Wc.ret ?_ | refine Wc.cond_true rfl ?_ | refine Wc.cond_false rfl ?_ | (refine Wc.drawn (id := 3) 5 (by kernel_rfl) ?_) | (refine rgs_nil ?_; intro vs wk hE; replace H := H.ext hE; clear hE) | (refine RGs.bq (fun _ => rfl) rfl (by intro vs w hE hP; have H := H.ext hE; first | exact dbQ | fail) (fun hc => ?_) (fun hc => ?_) <;> ((try simp only [cmpP, decide_eq_true_eq, decide_eq_false_iff_not, dcd_iff, dcd_no] at hc); try exact prDQ)) | refine RGs.pq (fun _ => rfl) rfl (by intro vs w hE hP; have H := H.ext hE; first | exact dvQ | fail) ?_)
    · rw [hn2] at hJ2
      exact ⟨chN n - (k + 1), by omega, k + 1, A2, hfk, rfl, by omega, by (repeat' (first | exact Agree.refl _ _ | exact Agree.havoc | refine Agree.upd rfl ?_ | refine Agree.hav2 rfl ?_)), by show Value.int _ _ = _; congr 1, hle1.trans hle2, hJ2, H⟩
    · rw [hn2] at hX2
      exact fn_ret0 rfl ⟨_, _, H, A2, rfl, .inr ⟨_, ⟨(List.range (chN n)).drop (k + 1), by
        have := List.take_append_drop (k + 1) (List.range (chN n))
        rw [List.take_range, Nat.min_eq_left (by omega)] at this
        exact this⟩, hX2⟩⟩
  · obtain rfl : k = chN n := by omega
    have hN : n ≤ 8 * chN n := by unfold chN; omega
    repeat' (first | ((first | refine WL.p rfl ?_ | refine WL.u ?_); first | refine pvQ ?_ | (refine opk 3 rfl ?_; (refine ost_cmp rfl rfl rfl rfl (fun hc => ?_) (fun hc => ?_) <;> (simp only [cmpP] at hc; try exact prIQ))) | (refine opk 4 rfl ?_; (refine ost_cmp rfl rfl rfl rfl (fun hc => ?_) (fun hc => ?_) <;> (simp only [cmpP] at hc; try exact prIQ)))) | refine Wc.seq ?_ | refine then_n ?_ | refine WL.nil ?_ | refine Wc.region ?_ | refine Wc.block ?_ | refine then_r ?_ | refine then_e ?_ | refine inb_e rfl ?_ | refine inb_o rfl ?_ | refine inb_n ?_ | refine inb_r ?_ | refine Wc.skip ?_ | refine Wc.exit ?_ | refine Wc.ret ?_ | refine Wc.cond_true rfl ?_ | refine Wc.cond_false rfl ?_ | (refine Wc.drawn (id := 3) 5 (by kernel_rfl) ?_) | (refine rgs_nil ?_; intro vs wk hE; replace H := H.ext hE; clear hE) | (refine RGs.bq (fun _ => rfl) rfl (by intro vs w hE hP; have H := H.ext hE; first | exact dbQ | fail) (fun hc => ?_) (fun hc => ?_) <;> ((try simp only [cmpP, decide_eq_true_eq, decide_eq_false_iff_not, dcd_iff, dcd_no] at hc); try exact prDQ)) | refine RGs.pq (fun _ => rfl) rfl (by intro vs w hE hP; have H := H.ext hE; first | exact dvQ | fail) ?_)
    exact fn_end0 rfl ⟨_, _, H, A1, rfl, .inl hJ1⟩
theorem chunk_fp (h0 : FH) (w : World) (hs : Sat h0 w) (a : Option Addr) (n c : Nat) :
    Spec Tryd.prog 46 #[.slice a n c, .int .i64 8] w [] h0 (fun v h' L' => ∃ b2 b3, v = .func (.func 63) #[] #[pt b2, pt b3] ∧ L' = [] ∧ h' b2 = some (.cells [Value.slice a n c].toArray 75 (0, 0)) ∧ h' b3 = some (.cells [Value.int .i64 8].toArray 3 (0, 0))) := by
  have H := St.start hs
  unfold Spec
  refine calls_of Tryd.func46 rfl Tryd.ntmps46 (by simp) ?_
  repeat' (first | ((first | refine WL.p rfl ?_ | refine WL.u ?_); first | refine pvQ ?_ | (refine opk 3 rfl ?_; (refine ost_cmp rfl rfl rfl rfl (fun hc => ?_) (fun hc => ?_) <;> (simp only [cmpP] at hc; try exact prIQ))) | (refine opk 4 rfl ?_; (refine ost_cmp rfl rfl rfl rfl (fun hc => ?_) (fun hc => ?_) <;> (simp only [cmpP] at hc; try exact prIQ))) | (refine opk 9 rfl ?_; (refine ost_boxq H rfl ?_; clear H; intro bk wk H))) | refine Wc.seq ?_ | refine then_n ?_ | refine WL.nil ?_ | refine Wc.region ?_ | refine Wc.block ?_ | refine then_r ?_ | refine then_e ?_ | refine inb_e rfl ?_ | refine inb_o rfl ?_ | refine inb_n ?_ | refine inb_r ?_ | refine Wc.skip ?_ | refine Wc.exit ?_ | refine Wc.ret ?_ | refine Wc.cond_true rfl ?_ | refine Wc.cond_false rfl ?_)
  obtain ⟨b3, eb3⟩ := H.nameB idx0
  subst eb3
  obtain ⟨b2, eb2⟩ := H.nameB idx1
  subst eb2
  generalize hfv : Value.func (Fn.func 63) _ _ = fv
  replace hfv : fv = .func (Fn.func 63) #[] #[pt b2, pt b3] := hfv.symm.trans (by kernel_rfl)
  subst hfv
  obtain ⟨h1, hle1, hb3, H⟩ := H.freezeB
  obtain ⟨h2, hle2, hb2, H⟩ := H.freezeB
  refine fn_ret1 (v := .func _ _ _) rfl rfl ⟨_, _, H, b2, b3, rfl, rfl, hb2, hle2 _ _ hb3⟩
end Go.Tg

set_option linter.unusedVariables false
set_option linter.unusedSimpArgs false
set_option maxRecDepth 100000
set_option maxHeartbeats 4000000
namespace Go.Tg
open Go Go.Proofs
noncomputable def bytesP (ps : List PageT) : List UInt8 := (ps.map fun p => (outP p).1).flatten
noncomputable def placesP (off : Nat) : List PageT → List PlT
  | [] => []
  | p :: ps => (key0 p, off) :: placesP (off + (outP p).1.length) ps
theorem bytesP_snoc (ps : List PageT) (p : PageT) : bytesP (ps ++ [p]) = bytesP ps ++ (outP p).1 := by
  unfold bytesP
  rw [List.map_append, List.flatten_append]; simp
theorem bytesP_len : ∀ ps : List PageT, (bytesP ps).length ≤ 500 * ps.length
  | [] => by simp [bytesP]
  | p :: ps => by
    have h1 := bytesP_len ps
    have h2 := outP_len p
    have : bytesP (p :: ps) = (outP p).1 ++ bytesP ps := rfl
    rw [this, List.length_append, List.length_cons]; omega
theorem placesP_len : ∀ (off : Nat) (ps : List PageT), (placesP off ps).length = ps.length
  | _, [] => rfl
  | off, p :: ps => by
    unfold placesP
    rw [List.length_cons, placesP_len, List.length_cons]
theorem placesP_snoc : ∀ (off : Nat) (ps : List PageT) (p : PageT), placesP off (ps ++ [p]) = placesP off ps ++ [(key0 p, off + (bytesP ps).length)]
  | off, [], p => by simp [placesP, bytesP]
  | off, q :: ps, p => by
    have : bytesP (q :: ps) = (outP q).1 ++ bytesP ps := rfl
    rw [List.cons_append]
    unfold placesP
    rw [placesP_snoc, this, List.length_append, Nat.add_assoc]; rfl
def partK {α : Type} (l : List α) (k : Nat) : List α := (l.drop (8 * k)).take 8
theorem partK_len {α : Type} (l : List α) (k : Nat) : (partK l k).length = chL l.length k := by simp [partK, chL]
theorem partK_map {α β : Type} (f : α → β) (l : List α) (k : Nat) : ((l.map f).drop (8 * k)).take 8 = (partK l k).map f := by
  unfold partK
  rw [List.map_take, List.map_drop]
def leafP (its : List ItemT) : PageT := ⟨true, its.map (·.key), its.map (·.loc), []⟩
def nodeP (ks : List PlT) : PageT := ⟨false, ks.map (·.1), [], ks.map fun x => UInt32.ofNat x.2⟩
def leafPs (l : List ItemT) : List PageT := if l = [] then [leafP []] else (List.range (chN l.length)).map fun k => leafP (partK l k)
def nodePs (l : List PlT) : List PageT := (List.range (chN l.length)).map fun k => nodeP (partK l k)
noncomputable def lvI (pg : Nat → PageT) (b5 wb : Nat) (xs : List UInt8) (base : Nat) (pre : List Nat) (L : List HA) : Prop :=
  ∃ a c ao co, L = [.blk b5 (.cells [Value.slice ao ((placesP (base + xs.length) (pre.map pg)).map cPl).length co].toArray 75 (0, 0)), ownR (.slice ao ((placesP (base + xs.length) (pre.map pg)).map cPl).length co) 79 4 ((placesP (base + xs.length) (pre.map pg)).map cPl), wrt wb a c (xs ++ bytesP (pre.map pg)) base]
theorem ro_leaves (wb : Nat) (a : Option Addr) (c : Nat) (xs : List UInt8) (base : Nat) (al : Option Addr) (cl : Nat) (l : List ItemT) (hx : xs.length ≤ 10000000) (hb : base ≤ 1073741824) (hl : l.length ≤ 65536) (g : FH) (w : World) (hT : Half g) (hN : Sl g 5 al cl (l.map cItem)) (HO : St w (wrt wb a c xs base).fp g g [wrt wb a c xs base] w) :
    Spec Tryd.prog 22 #[pt wb, .slice al l.length cl] w (wrt wb a c xs base).fp g (fun v h' L' => FLe g h' ∧ ∃ a' c' ao co, v = .slice ao (placesP (base + xs.length) (leafPs l)).length co ∧ L' = [ownR v 79 4 ((placesP (base + xs.length) (leafPs l)).map cPl), wrt wb a' c' (xs ++ bytesP (leafPs l)) base]) := by
  have H := HO
  have q1 := hN.lenM
  generalize hF9 : (wrt wb a c xs base).fp = F9 at H ⊢
  unfold Spec
  refine calls_ofD Tryd.func22 rfl Tryd.ntmps22 (by simp) ?_
  refine WcD.seqW ?_
  repeat' (first | ((first | refine WL.p rfl ?_ | refine WL.u ?_); first | refine pvQ ?_ | (refine opk 3 rfl ?_; (refine ost_cmp rfl rfl rfl rfl (fun hc => ?_) (fun hc => ?_) <;> (simp only [cmpP] at hc; try exact prIQ))) | (refine opk 4 rfl ?_; (refine ost_cmp rfl rfl rfl rfl (fun hc => ?_) (fun hc => ?_) <;> (simp only [cmpP] at hc; try exact prIQ))) | (refine opk 8 rfl ?_; first | (refine ost_store1 H rfl rfl vlQ gvQ ixQ (by first | decide | (simp; omega) | (simp; done) | omega) ?_; clear H; intro wk H; simp only [List.set_cons_zero, List.set_cons_succ, Nat.reduceAdd] at H) | (refine ost_storeW H rfl rfl rfl rfl lQ ixQ lQ okQ ?_; clear H; intro wk H; simp only [List.set_cons_zero, List.set_cons_succ, Nat.reduceAdd] at H)) | (refine opk 9 rfl ?_; first | (refine ost_boxq H rfl ?_; clear H; intro bk wk H) | (refine ost_allocA H rfl ?_; clear H; intro bk wk H) | (refine ost_alloc1 H rfl rfl ?_; clear H; intro bk wk H) | (refine ost_build1 H rfl rfl rfl evQ lsQ rfl ?_; clear H; intro bk wk H))) | refine Wc.seq ?_ | refine then_n ?_ | refine WL.nil ?_ | refine Wc.region ?_ | refine Wc.block ?_ | refine then_r ?_ | refine then_e ?_ | refine inb_e rfl ?_ | refine inb_o rfl ?_ | refine inb_n ?_ | refine inb_r ?_ | refine Wc.skip ?_ | refine Wc.exit ?_ | refine Wc.ret ?_ | refine Wc.cond_true rfl ?_ | refine Wc.cond_false rfl ?_ | (refine Wc.drawn (id := 13) 5 (by kernel_rfl) ?_) | (refine rgs_nil ?_; intro vs wk hE; replace H := H.ext hE; clear hE) | (refine RGs.bq (fun _ => rfl) rfl (by intro vs w hE hP; have H := H.ext hE; first | exact dbQ | fail) (fun hc => ?_) (fun hc => ?_) <;> ((try simp only [cmpP, decide_eq_true_eq, decide_eq_false_iff_not, dcd_iff, dcd_no] at hc); try exact prDQ)) | refine RGs.pq (fun _ => rfl) rfl (by intro vs w hE hP; have H := H.ext hE; first | exact dvQ | fail) ?_)
  by_cases hl0 : l = []
  · subst hl0
    refine WcD.seqW ?_
    have hlay := fun w HO => ro_lay wb a c xs base (leafP []) zeroA (by omega) hb g w hT ⟨Sl.nil _ _, Sl.nil _ _, Sl.nil _ _⟩ HO
    repeat' (first | ((first | refine WL.p rfl ?_ | refine WL.u ?_); first | (refine opk 1 rfl ?_; (refine ost_H (A := wrt _ _ _ _ _) H rfl (by (exact ixQ)) (fun HO => hlay _ HO) rfl ?_; clear H; rintro vk wk hfk Lk ⟨e9, rfl, a9, c9, rfl⟩ hle H; simp only [List.cons_append, List.nil_append, List.eraseIdx_cons_zero, List.eraseIdx_cons_succ] at H)) | (refine opk 9 rfl ?_; first | (refine ost_buildS rfl (evP_cons (rfl : _ = Value.bool _) evP_nil) rfl (rfl : _ = pgV (leafP []) zeroA) ?_) | (refine ost_buildR (rows := [cPl (key0 (leafP []), base + xs.length)]) H rfl (by decide) rfl (by rfl) (evP1 vxQ) (.cons rfl .nil) rfl (fun r hr => by rw [List.mem_singleton.1 hr]; rfl) ?_; clear H; intro bk wk H)) | refine pvQ ?_ | (refine opk 3 rfl ?_; (refine ost_cmp rfl rfl rfl rfl (fun hc => ?_) (fun hc => ?_) <;> (simp only [cmpP] at hc; try exact prIQ))) | (refine opk 4 rfl ?_; (refine ost_cmp rfl rfl rfl rfl (fun hc => ?_) (fun hc => ?_) <;> (simp only [cmpP] at hc; try exact prIQ))) | (refine opk 8 rfl ?_; first | (refine ost_store1 H rfl rfl vlQ gvQ ixQ (by first | decide | (simp; omega) | (simp; done) | omega) ?_; clear H; intro wk H; simp only [List.set_cons_zero, List.set_cons_succ, Nat.reduceAdd] at H) | (refine ost_storeW H rfl rfl rfl rfl lQ ixQ lQ okQ ?_; clear H; intro wk H; simp only [List.set_cons_zero, List.set_cons_succ, Nat.reduceAdd] at H)) | (refine opk 9 rfl ?_; first | (refine ost_boxq H rfl ?_; clear H; intro bk wk H) | (refine ost_allocA H rfl ?_; clear H; intro bk wk H) | (refine ost_alloc1 H rfl rfl ?_; clear H; intro bk wk H) | (refine ost_build1 H rfl rfl rfl evQ lsQ rfl ?_; clear H; intro bk wk H))) | refine Wc.seq ?_ | refine then_n ?_ | refine WL.nil ?_ | refine Wc.region ?_ | refine Wc.block ?_ | refine then_r ?_ | refine then_e ?_ | refine inb_e rfl ?_ | refine inb_o rfl ?_ | refine inb_n ?_ | refine inb_r ?_ | refine Wc.skip ?_ | refine Wc.exit ?_ | refine Wc.ret ?_ | refine Wc.cond_true rfl ?_ | refine Wc.cond_false rfl ?_ | (refine Wc.drawn (id := 13) 5 (by kernel_rfl) ?_) | (refine rgs_nil ?_; intro vs wk hE; replace H := H.ext hE; clear hE) | (refine RGs.bq (fun _ => rfl) rfl (by intro vs w hE hP; have H := H.ext hE; first | exact dbQ | fail) (fun hc => ?_) (fun hc => ?_) <;> ((try simp only [cmpP, decide_eq_true_eq, decide_eq_false_iff_not, dcd_iff, dcd_no] at hc); try exact prDQ)) | refine RGs.pq (fun _ => rfl) rfl (by intro vs w hE hP; have H := H.ext hE; first | exact dvQ | fail) ?_)
    · have e1 : leafPs [] = [leafP []] := rfl
      have e2 : bytesP [leafP []] = (outP (leafP [])).1 := by simp [bytesP]
      have e3 : placesP (base + xs.length) [leafP []] = [(key0 (leafP []), base + xs.length)] := rfl
      rw [e1, e2, e3]
      exact .inl ⟨rfl, fn_ret1 (v := .slice _ _ _) rfl rfl ⟨_, _, H.picks [0, 1] rfl (by decide), hle, a9, c9, _, _, rfl, rfl⟩⟩
    · exact absurd rfl hc
  · refine WcD.seqW ?_
    have hln : 0 < l.length := List.length_pos_iff.2 hl0
    repeat' (first | ((first | refine WL.p rfl ?_ | refine WL.u ?_); first | refine pvQ ?_ | (refine opk 3 rfl ?_; (refine ost_cmp rfl rfl rfl rfl (fun hc => ?_) (fun hc => ?_) <;> (simp only [cmpP] at hc; try exact prIQ))) | (refine opk 4 rfl ?_; (refine ost_cmp rfl rfl rfl rfl (fun hc => ?_) (fun hc => ?_) <;> (simp only [cmpP] at hc; try exact prIQ))) | (refine opk 8 rfl ?_; first | (refine ost_store1 H rfl rfl vlQ gvQ ixQ (by first | decide | (simp; omega) | (simp; done) | omega) ?_; clear H; intro wk H; simp only [List.set_cons_zero, List.set_cons_succ, Nat.reduceAdd] at H) | (refine ost_storeW H rfl rfl rfl rfl lQ ixQ lQ okQ ?_; clear H; intro wk H; simp only [List.set_cons_zero, List.set_cons_succ, Nat.reduceAdd] at H)) | (refine opk 9 rfl ?_; first | (refine ost_boxq H rfl ?_; clear H; intro bk wk H) | (refine ost_allocA H rfl ?_; clear H; intro bk wk H) | (refine ost_alloc1 H rfl rfl ?_; clear H; intro bk wk H) | (refine ost_build1 H rfl rfl rfl evQ lsQ rfl ?_; clear H; intro bk wk H))) | refine Wc.seq ?_ | refine then_n ?_ | refine WL.nil ?_ | refine Wc.region ?_ | refine Wc.block ?_ | refine then_r ?_ | refine then_e ?_ | refine inb_e rfl ?_ | refine inb_o rfl ?_ | refine inb_n ?_ | refine inb_r ?_ | refine Wc.skip ?_ | refine Wc.exit ?_ | refine Wc.ret ?_ | refine Wc.cond_true rfl ?_ | refine Wc.cond_false rfl ?_ | (refine Wc.drawn (id := 13) 5 (by kernel_rfl) ?_) | (refine rgs_nil ?_; intro vs wk hE; replace H := H.ext hE; clear hE) | (refine RGs.bq (fun _ => rfl) rfl (by intro vs w hE hP; have H := H.ext hE; first | exact dbQ | fail) (fun hc => ?_) (fun hc => ?_) <;> ((try simp only [cmpP, decide_eq_true_eq, decide_eq_false_iff_not, dcd_iff, dcd_no] at hc); try exact prDQ)) | refine RGs.pq (fun _ => rfl) rfl (by intro vs w hE hP; have H := H.ext hE; first | exact dvQ | fail) ?_)
    refine WcD.seqW ?_
    repeat' (first | ((first | refine WL.p rfl ?_ | refine WL.u ?_); first | refine pvQ ?_ | (refine opk 3 rfl ?_; (refine ost_cmp rfl rfl rfl rfl (fun hc => ?_) (fun hc => ?_) <;> (simp only [cmpP] at hc; try exact prIQ))) | (refine opk 4 rfl ?_; (refine ost_cmp rfl rfl rfl rfl (fun hc => ?_) (fun hc => ?_) <;> (simp only [cmpP] at hc; try exact prIQ))) | (refine opk 8 rfl ?_; first | (refine ost_store1 H rfl rfl vlQ gvQ ixQ (by first | decide | (simp; omega) | (simp; done) | omega) ?_; clear H; intro wk H; simp only [List.set_cons_zero, List.set_cons_succ, Nat.reduceAdd] at H) | (refine ost_storeW H rfl rfl rfl rfl lQ ixQ lQ okQ ?_; clear H; intro wk H; simp only [List.set_cons_zero, List.set_cons_succ, Nat.reduceAdd] at H)) | (refine opk 9 rfl ?_; first | (refine ost_boxq H rfl ?_; clear H; intro bk wk H) | (refine ost_allocA H rfl ?_; clear H; intro bk wk H) | (refine ost_alloc1 H rfl rfl ?_; clear H; intro bk wk H) | (refine ost_build1 H rfl rfl rfl evQ lsQ rfl ?_; clear H; intro bk wk H))) | refine Wc.seq ?_ | refine then_n ?_ | refine WL.nil ?_ | refine Wc.region ?_ | refine Wc.block ?_ | refine then_r ?_ | refine then_e ?_ | refine inb_e rfl ?_ | refine inb_o rfl ?_ | refine inb_n ?_ | refine inb_r ?_ | refine Wc.skip ?_ | refine Wc.exit ?_ | refine Wc.ret ?_ | refine Wc.cond_true rfl ?_ | refine Wc.cond_false rfl ?_ | (refine Wc.drawn (id := 13) 5 (by kernel_rfl) ?_) | (refine rgs_nil ?_; intro vs wk hE; replace H := H.ext hE; clear hE) | (refine RGs.bq (fun _ => rfl) rfl (by intro vs w hE hP; have H := H.ext hE; first | exact dbQ | fail) (fun hc => ?_) (fun hc => ?_) <;> ((try simp only [cmpP, decide_eq_true_eq, decide_eq_false_iff_not, dcd_iff, dcd_no] at hc); try exact prDQ)) | refine RGs.pq (fun _ => rfl) rfl (by intro vs w hE hP; have H := H.ext hE; first | exact dvQ | fail) ?_)
    obtain ⟨b5, eb5⟩ := H.nameB idx0
    subst eb5
    obtain ⟨b2, eb2⟩ := H.nameB idx1
    subst eb2
    refine WcD.seq ?_
    refine WcD.seqW ?_
    repeat' (first | ((first | refine WL.p rfl ?_ | refine WL.u ?_); first | (refine opk 1 rfl ?_; (refine ost_Sk H rfl (chunk_fn _ _ H.sat al l.length cl) rfl ?_; clear H; rintro vk wk hfk Lk ⟨c2, c3, rfl, rfl, hc2, hc3⟩ hle H; simp only [List.cons_append, List.nil_append] at H)) | refine pvQ ?_ | (refine opk 3 rfl ?_; (refine ost_cmp rfl rfl rfl rfl (fun hc => ?_) (fun hc => ?_) <;> (simp only [cmpP] at hc; try exact prIQ))) | (refine opk 4 rfl ?_; (refine ost_cmp rfl rfl rfl rfl (fun hc => ?_) (fun hc => ?_) <;> (simp only [cmpP] at hc; try exact prIQ))) | (refine opk 8 rfl ?_; first | (refine ost_store1 H rfl rfl vlQ gvQ ixQ (by first | decide | (simp; omega) | (simp; done) | omega) ?_; clear H; intro wk H; simp only [List.set_cons_zero, List.set_cons_succ, Nat.reduceAdd] at H) | (refine ost_storeW H rfl rfl rfl rfl lQ ixQ lQ okQ ?_; clear H; intro wk H; simp only [List.set_cons_zero, List.set_cons_succ, Nat.reduceAdd] at H)) | (refine opk 9 rfl ?_; first | (refine ost_boxq H rfl ?_; clear H; intro bk wk H) | (refine ost_allocA H rfl ?_; clear H; intro bk wk H) | (refine ost_alloc1 H rfl rfl ?_; clear H; intro bk wk H) | (refine ost_build1 H rfl rfl rfl evQ lsQ rfl ?_; clear H; intro bk wk H))) | refine Wc.seq ?_ | refine then_n ?_ | refine WL.nil ?_ | refine Wc.region ?_ | refine Wc.block ?_ | refine then_r ?_ | refine then_e ?_ | refine inb_e rfl ?_ | refine inb_o rfl ?_ | refine inb_n ?_ | refine inb_r ?_ | refine Wc.skip ?_ | refine Wc.exit ?_ | refine Wc.ret ?_ | refine Wc.cond_true rfl ?_ | refine Wc.cond_false rfl ?_ | (refine Wc.drawn (id := 13) 5 (by kernel_rfl) ?_) | (refine rgs_nil ?_; intro vs wk hE; replace H := H.ext hE; clear hE) | (refine RGs.bq (fun _ => rfl) rfl (by intro vs w hE hP; have H := H.ext hE; first | exact dbQ | fail) (fun hc => ?_) (fun hc => ?_) <;> ((try simp only [cmpP, decide_eq_true_eq, decide_eq_false_iff_not, dcd_iff, dcd_no] at hc); try exact prDQ)) | refine RGs.pq (fun _ => rfl) rfl (by intro vs w hE hP; have H := H.ext hE; first | exact dvQ | fail) ?_)
    refine WcD.block ?_
    obtain ⟨h2, hle2, hb2, H⟩ := (H.front 1 rfl).freezeB
    have hleg := hle.trans hle2
    have hIt := chunk_it h2 c2 c3 al l.length cl _ _ _ _ (hle2 _ _ hc2) (hle2 _ _ hc3) q1.1 (by have := hN.mx; simpa using this) (by omega)
    refine WcD.nameS fun S0 hS0 => ?_
    refine WcD.rangeB (Lb := [.blk b5 (.cells [Value.slice none 0 0].toArray 75 (0, 0)), ownR (.slice none 0 0) 79 4 [], wrt wb a c xs base]) (Lr := []) ((H.nilOwn 79 4).picks [1, 0, 2] rfl (by decide)) (by rw [← hS0]; rfl) hIt rfl (lvI (fun k => leafP (partK l k)) b5 wb xs base) (fun _ _ _ => False)
      (fun pre x s' L => s' = upd (upd S0 19 (chV 5 al l.length x)) 6 (chV 5 al l.length x) ∧ lvI (fun k => leafP (partK l k)) b5 wb xs base pre L) ⟨a, c, none, 0, by simp [placesP, bytesP]⟩ ?_ ?_ ?_ (fun _ _ _ _ _ _ _ hX => hX.elim)
    · intro pre x ws W S g1 L B hpre hle9 hI H
      repeat' (first | ((first | refine WL.p rfl ?_ | refine WL.u ?_); first | refine pvQ ?_ | (refine opk 3 rfl ?_; (refine ost_cmp rfl rfl rfl rfl (fun hc => ?_) (fun hc => ?_) <;> (simp only [cmpP] at hc; try exact prIQ))) | (refine opk 4 rfl ?_; (refine ost_cmp rfl rfl rfl rfl (fun hc => ?_) (fun hc => ?_) <;> (simp only [cmpP] at hc; try exact prIQ))) | (refine opk 8 rfl ?_; first | (refine ost_store1 H rfl rfl vlQ gvQ ixQ (by first | decide | (simp; omega) | (simp; done) | omega) ?_; clear H; intro wk H; simp only [List.set_cons_zero, List.set_cons_succ, Nat.reduceAdd] at H) | (refine ost_storeW H rfl rfl rfl rfl lQ ixQ lQ okQ ?_; clear H; intro wk H; simp only [List.set_cons_zero, List.set_cons_succ, Nat.reduceAdd] at H)) | (refine opk 9 rfl ?_; first | (refine ost_boxq H rfl ?_; clear H; intro bk wk H) | (refine ost_allocA H rfl ?_; clear H; intro bk wk H) | (refine ost_alloc1 H rfl rfl ?_; clear H; intro bk wk H) | (refine ost_build1 H rfl rfl rfl evQ lsQ rfl ?_; clear H; intro bk wk H))) | refine Wc.seq ?_ | refine then_n ?_ | refine WL.nil ?_ | refine Wc.region ?_ | refine Wc.block ?_ | refine then_r ?_ | refine then_e ?_ | refine inb_e rfl ?_ | refine inb_o rfl ?_ | refine inb_n ?_ | refine inb_r ?_ | refine Wc.skip ?_ | refine Wc.exit ?_ | refine Wc.ret ?_ | refine Wc.cond_true rfl ?_ | refine Wc.cond_false rfl ?_ | (refine Wc.drawn (id := 13) 5 (by kernel_rfl) ?_) | (refine rgs_nil ?_; intro vs wk hE; replace H := H.ext hE; clear hE) | (refine RGs.bq (fun _ => rfl) rfl (by intro vs w hE hP; have H := H.ext hE; first | exact dbQ | fail) (fun hc => ?_) (fun hc => ?_) <;> ((try simp only [cmpP, decide_eq_true_eq, decide_eq_false_iff_not, dcd_iff, dcd_no] at hc); try exact prDQ)) | refine RGs.pq (fun _ => rfl) rfl (by intro vs w hE hP; have H := H.ext hE; first | exact dvQ | fail) ?_)
      exact ⟨rfl, L, g1, FLe.refl _, ⟨rfl, hI⟩, H⟩
    · rintro pre x s' ws W S g1 g2 L B hpre hle9 ⟨rfl, a1, c1, ao, co, rfl⟩ H
      subst hS0
      have hxn := range_mem hpre
      have hPt := (hN.mono (hleg.trans hle9)).part x (by rw [List.length_map]; exact hxn)
      rw [partK_map, List.length_map] at hPt
      have hpl := partK_len l x
      have hb2 := hle9 _ _ hb2
      have hT2 := hT.mono (hleg.trans hle9)
      have hpre9 : pre.length + 1 ≤ chN l.length := by
        have := hpre.length_le
        simpa using this
      have hcv : chV 5 al l.length x = .slice (al.map (·.add (8 * x * 5))) (chL l.length x) (chL l.length x) := rfl
      rw [hcv]
      rw [← hpl] at hPt ⊢
      have hpg : (pre ++ [x]).map (fun k => leafP (partK l k)) = pre.map (fun k => leafP (partK l k)) ++ [leafP (partK l x)] := by rw [List.map_append]; rfl
      generalize partK l x = its at *
      generalize al.map (·.add (8 * x * 5)) = ap at hPt ⊢
      generalize hPS : pre.map (fun k => leafP (partK l k)) = PS at *
      simp only [List.cons_append, List.nil_append] at H
      have hPL : (placesP (base + xs.length) PS).length = pre.length := by rw [placesP_len, ← hPS, List.length_map]
      have hBL := bytesP_len PS
      have hPL2 : PS.length = pre.length := by rw [← hPS, List.length_map]
      have hsn := placesP_snoc (base + xs.length) PS (leafP its)
      have hsb := bytesP_snoc PS (leafP its)
      have hch : chL l.length x ≤ 8 := by unfold chL; omega
      have hcn : chN l.length ≤ 10000 := by unfold chN; omega
      have q2 := hPt.lenM
      clear hPS
      generalize hRR : placesP (base + xs.length) PS = RR at H hPL hsn
      clear hRR
      generalize bytesP PS = BB at H hBL hsn hsb
      have hRl : (RR.map cPl).length = RR.length := List.length_map ..
      repeat' (first | ((first | refine WL.p rfl ?_ | refine WL.u ?_); first | (refine opk 9 rfl ?_; (refine ost_buildS rfl (evP_cons (rfl : _ = Value.bool _) evP_nil) rfl (rfl : _ = [_, _, _, _]) ?_)) | refine pvQ ?_ | (refine opk 3 rfl ?_; (refine ost_cmp rfl rfl rfl rfl (fun hc => ?_) (fun hc => ?_) <;> (simp only [cmpP] at hc; try exact prIQ))) | (refine opk 4 rfl ?_; (refine ost_cmp rfl rfl rfl rfl (fun hc => ?_) (fun hc => ?_) <;> (simp only [cmpP] at hc; try exact prIQ))) | (refine opk 8 rfl ?_; first | (refine ost_store1 H rfl rfl vlQ gvQ ixQ (by first | decide | (simp; omega) | (simp; done) | omega) ?_; clear H; intro wk H; simp only [List.set_cons_zero, List.set_cons_succ, Nat.reduceAdd] at H) | (refine ost_storeW H rfl rfl rfl rfl lQ ixQ lQ okQ ?_; clear H; intro wk H; simp only [List.set_cons_zero, List.set_cons_succ, Nat.reduceAdd] at H)) | (refine opk 9 rfl ?_; first | (refine ost_boxq H rfl ?_; clear H; intro bk wk H) | (refine ost_allocA H rfl ?_; clear H; intro bk wk H) | (refine ost_alloc1 H rfl rfl ?_; clear H; intro bk wk H) | (refine ost_build1 H rfl rfl rfl evQ lsQ rfl ?_; clear H; intro bk wk H))) | refine Wc.seq ?_ | refine then_n ?_ | refine WL.nil ?_ | refine Wc.region ?_ | refine Wc.block ?_ | refine then_r ?_ | refine then_e ?_ | refine inb_e rfl ?_ | refine inb_o rfl ?_ | refine inb_n ?_ | refine inb_r ?_ | refine Wc.skip ?_ | refine Wc.exit ?_ | refine Wc.ret ?_ | refine Wc.cond_true rfl ?_ | refine Wc.cond_false rfl ?_ | (refine Wc.drawn (id := 13) 5 (by kernel_rfl) ?_) | (refine rgs_nil ?_; intro vs wk hE; replace H := H.ext hE; clear hE) | (refine RGs.bq (fun _ => rfl) rfl (by intro vs w hE hP; have H := H.ext hE; first | exact dbQ | fail) (fun hc => ?_) (fun hc => ?_) <;> ((try simp only [cmpP, decide_eq_true_eq, decide_eq_false_iff_not, dcd_iff, dcd_no] at hc); try exact prDQ)) | refine RGs.pq (fun _ => rfl) rfl (by intro vs w hE hP; have H := H.ext hE; first | exact dvQ | fail) ?_)
      obtain ⟨bp, ebp⟩ := H.nameB idx0
      subst ebp
      replace H : St ws S g1 g2 [ownR (.slice none ((its.take 0).map fun i => cKey i.key).length 0) 66 3 ((its.take 0).map fun i => cKey i.key), ownR (.slice none ((its.take 0).map fun i => cLoc i.loc).length 0) 68 2 ((its.take 0).map fun i => cLoc i.loc), .blk bp (.cells [Value.bool true, .slice none ((its.take 0).map fun i => cKey i.key).length 0, .slice none ((its.take 0).map fun i => cLoc i.loc).length 0, .slice none 0 0].toArray 59 (0, 0)),
        .blk b5 (.cells [Value.slice ao (RR.map cPl).length co].toArray 75 (0, 0)), ownR (.slice ao (RR.map cPl).length co) 79 4 (RR.map cPl), wrt wb a1 c1 (xs ++ BB) base, B] _ := (H.nilOwn 68 2).nilOwn 66 3
      refine Wc.loopE (fun s0 m s w' => ∃ (k : Nat) (ak : Option Addr) (ck : Nat) (aq : Option Addr) (cq : Nat), m = its.length - k ∧ k ≤ its.length ∧ Agree [9, 23, 24, 25, 26, 27, 28, 29, 30, 31, 32, 33, 34, 35, 36, 37, 38, 39, 40, 41] s s0 ∧ s 23 = .int .i64 k ∧
        St ws S g1 g2 [ownR (.slice ak ((its.take k).map fun i => cKey i.key).length ck) 66 3 ((its.take k).map fun i => cKey i.key), ownR (.slice aq ((its.take k).map fun i => cLoc i.loc).length cq) 68 2 ((its.take k).map fun i => cLoc i.loc), .blk bp (.cells [Value.bool true, .slice ak ((its.take k).map fun i => cKey i.key).length ck, .slice aq ((its.take k).map fun i => cLoc i.loc).length cq, .slice none 0 0].toArray 59 (0, 0)),
          .blk b5 (.cells [Value.slice ao (RR.map cPl).length co].toArray 75 (0, 0)), ownR (.slice ao (RR.map cPl).length co) 79 4 (RR.map cPl), wrt wb a1 c1 (xs ++ BB) base, B] w') its.length ⟨0, _, _, _, _, rfl, by omega, Agree.refl _ _, rfl, H⟩ ?_
      clear H
      rintro m s w' ⟨k, ak, ck, aq, cq, rfl, hk, hA, e1, H⟩
      obtain ⟨j, rfl⟩ := hA.env1 e1
      clear hA e1
      have hKl : ((its.take k).map fun i => cKey i.key).length = k := by simp; omega
      have hQl : ((its.take k).map fun i => cLoc i.loc).length = k := by simp; omega
      by_cases hlt : k < its.length
      · obtain ⟨b, off, L9, T, fr, e2, eb, eg⟩ := hPt.getM (by decide) (Nat.lt_of_le_of_lt (Nat.zero_le _) hlt)
        subst e2
        have g9 := eg (k : Int).toNat k hlt (by omega)
        have hs1 := takeM_succ (fun i : ItemT => cKey i.key) its hlt
        have hs2 := takeM_succ (fun i : ItemT => cLoc i.loc) its hlt
        clear eg
        generalize its[k] = y at g9 hs1 hs2
        have lx := cItem_len y
        have ox := allOne_of (cItem_one y)
        have k1 := cItem_key y
        have k2 := cItem_loc y
        have l1 := cKey_len y.key
        have l2 := cLoc_len y.loc
        have o1 := allOne_of (cKey_one y.key)
        have o2 := allOne_of (cLoc_one y.loc)
        generalize ((its.take k).map fun i => cKey i.key) = KS at H hKl hs1
        generalize ((its.take k).map fun i => cLoc i.loc) = QS at H hQl hs2
        repeat' (first | ((first | refine WL.p rfl ?_ | refine WL.u ?_); first | (refine opk 1 rfl ?_; first | (refine ost_appR (rows := KS) (row := cKey y.key) H rfl rfl rfl (by (exact ixQ)) (by (exact ixQ)) (by rfl) (by first | simp; done | exact Nat.succ_pos _) rfl (allOne_of rfl) rfl (by omega) ?_; clear H; intro aa ca wk H; simp only [List.set_cons_zero, List.set_cons_succ] at H) | (refine ost_appR (rows := QS) (row := cLoc y.loc) H rfl rfl rfl (by (exact ixQ)) (by (exact ixQ)) (by rfl) (by first | simp; done | exact Nat.succ_pos _) rfl (allOne_of rfl) rfl (by omega) ?_; clear H; intro aa ca wk H; simp only [List.set_cons_zero, List.set_cons_succ] at H)) | (refine opk 9 rfl ?_; first | (refine ost_buildR (rows := [cKey y.key]) H rfl (by decide) rfl (by rfl) (evP1 vxQ) (.cons rfl .nil) rfl (fun r hr => by rw [List.mem_singleton.1 hr]; rfl) ?_; clear H; intro bk wk H) | (refine ost_buildR (rows := [cLoc y.loc]) H rfl (by decide) rfl (by rfl) (evP1 vxQ) (.cons rfl .nil) rfl (fun r hr => by rw [List.mem_singleton.1 hr]; rfl) ?_; clear H; intro bk wk H)) | refine pvQ ?_ | (refine opk 3 rfl ?_; (refine ost_cmp rfl rfl rfl rfl (fun hc => ?_) (fun hc => ?_) <;> (simp only [cmpP] at hc; try exact prIQ))) | (refine opk 4 rfl ?_; (refine ost_cmp rfl rfl rfl rfl (fun hc => ?_) (fun hc => ?_) <;> (simp only [cmpP] at hc; try exact prIQ))) | (refine opk 8 rfl ?_; first | (refine ost_store1 H rfl rfl vlQ gvQ ixQ (by first | decide | (simp; omega) | (simp; done) | omega) ?_; clear H; intro wk H; simp only [List.set_cons_zero, List.set_cons_succ, Nat.reduceAdd] at H) | (refine ost_storeW H rfl rfl rfl rfl lQ ixQ lQ okQ ?_; clear H; intro wk H; simp only [List.set_cons_zero, List.set_cons_succ, Nat.reduceAdd] at H)) | (refine opk 9 rfl ?_; first | (refine ost_boxq H rfl ?_; clear H; intro bk wk H) | (refine ost_allocA H rfl ?_; clear H; intro bk wk H) | (refine ost_alloc1 H rfl rfl ?_; clear H; intro bk wk H) | (refine ost_build1 H rfl rfl rfl evQ lsQ rfl ?_; clear H; intro bk wk H))) | refine Wc.seq ?_ | refine then_n ?_ | refine WL.nil ?_ | refine Wc.region ?_ | refine Wc.block ?_ | refine then_r ?_ | refine then_e ?_ | refine inb_e rfl ?_ | refine inb_o rfl ?_ | refine inb_n ?_ | refine inb_r ?_ | refine Wc.skip ?_ | refine Wc.exit ?_ | refine Wc.ret ?_ | refine Wc.cond_true rfl ?_ | refine Wc.cond_false rfl ?_ | (refine Wc.drawn (id := 13) 5 (by kernel_rfl) ?_) | (refine rgs_nil ?_; intro vs wk hE; replace H := H.ext hE; clear hE) | (refine RGs.bq (fun _ => rfl) rfl (by intro vs w hE hP; have H := H.ext hE; first | exact dbQ | fail) (fun hc => ?_) (fun hc => ?_) <;> ((try simp only [cmpP, decide_eq_true_eq, decide_eq_false_iff_not, dcd_iff, dcd_no] at hc); try exact prDQ)) | refine RGs.pq (fun _ => rfl) rfl (by intro vs w hE hP; have H := H.ext hE; first | exact dvQ | fail) ?_)
        rw [← hs1, ← hs2] at H
        exact ⟨its.length - (k + 1), by omega, k + 1, _, _, _, _, rfl, by omega, by (repeat' (first | exact Agree.refl _ _ | exact Agree.havoc | refine Agree.upd rfl ?_ | refine Agree.hav2 rfl ?_)), rfl, H.picks [3, 4, 5, 6, 7, 8, 9] rfl (by decide)⟩
      · obtain rfl : k = its.length := by omega
        have hm1 : (its.map fun i => cKey i.key) = (its.map (·.key)).map cKey := by rw [List.map_map]; rfl
        have hm2 : (its.map fun i => cLoc i.loc) = (its.map (·.loc)).map cLoc := by rw [List.map_map]; rfl
        rw [List.take_length, hm1, hm2] at H
        clear hKl hQl
        obtain ⟨ak2, ck2, h7, e7, hle7, hK7, H⟩ := H.freezeR (rows_len3 (its.map (·.key)))
        cases e7
        obtain ⟨aq2, cq2, h8, e8, hle8, hL8, H⟩ := H.freezeR (rows_len2 (its.map (·.loc)))
        cases e8
        simp only [List.length_map] at H
        have hle28 := hle7.trans hle8
        have hb2 := hle28 _ _ hb2
        have hP : PgR h8 (leafP its) ⟨ak, ck, aq, cq, none, 0⟩ := ⟨hK7.mono hle8, hL8, Sl.nil _ _⟩
        have hlay := fun w HO => ro_lay wb a1 c1 (xs ++ BB) base (leafP its) _ (by rw [List.length_append]; omega) hb h8 w (hT2.mono hle28) hP HO
        have hpv : pgV (leafP its) ⟨ak, ck, aq, cq, none, 0⟩ = [Value.bool true, .slice ak its.length ck, .slice aq its.length cq, .slice none 0 0] := by simp [pgV, leafP]
        have hoff : base + (xs ++ BB).length = base + xs.length + BB.length := by rw [List.length_append]; omega
        rw [hpv] at hlay
        rw [hoff] at hlay
        rw [← hRl] at H
        obtain ⟨y0, hy0⟩ : ∃ y0 : PlT, y0 = (key0 (leafP its), base + xs.length + BB.length) := ⟨_, rfl⟩
        rw [← hy0] at hlay hsn
        rw [List.append_assoc, ← hsb] at hlay
        have oy := allOne_of (cPl_one y0)
        have ly := cPl_len y0
        repeat' (first | ((first | refine WL.p rfl ?_ | refine WL.u ?_); first | (refine opk 1 rfl ?_; (refine ost_appR (rows := RR.map cPl) (row := cPl y0) H rfl rfl rfl (by (exact ixQ)) (by (exact ixQ)) (by rfl) (by first | simp; done | exact Nat.succ_pos _) rfl (allOne_of rfl) rfl (by omega) ?_; clear H; intro aa ca wk H; simp only [List.set_cons_zero, List.set_cons_succ] at H)) | refine pvQ ?_ | (refine opk 3 rfl ?_; (refine ost_cmp rfl rfl rfl rfl (fun hc => ?_) (fun hc => ?_) <;> (simp only [cmpP] at hc; try exact prIQ))) | (refine opk 4 rfl ?_; (refine ost_cmp rfl rfl rfl rfl (fun hc => ?_) (fun hc => ?_) <;> (simp only [cmpP] at hc; try exact prIQ))) | (refine opk 8 rfl ?_; first | (refine ost_store1 H rfl rfl vlQ gvQ ixQ (by first | decide | (simp; omega) | (simp; done) | omega) ?_; clear H; intro wk H; simp only [List.set_cons_zero, List.set_cons_succ, Nat.reduceAdd] at H) | (refine ost_storeW H rfl rfl rfl rfl lQ ixQ lQ okQ ?_; clear H; intro wk H; simp only [List.set_cons_zero, List.set_cons_succ, Nat.reduceAdd] at H)) | (refine opk 9 rfl ?_; first | (refine ost_boxq H rfl ?_; clear H; intro bk wk H) | (refine ost_allocA H rfl ?_; clear H; intro bk wk H) | (refine ost_alloc1 H rfl rfl ?_; clear H; intro bk wk H) | (refine ost_build1 H rfl rfl rfl evQ lsQ rfl ?_; clear H; intro bk wk H))) | refine Wc.seq ?_ | refine then_n ?_ | refine WL.nil ?_ | refine Wc.region ?_ | refine Wc.block ?_ | refine then_r ?_ | refine then_e ?_ | refine inb_e rfl ?_ | refine inb_o rfl ?_ | refine inb_n ?_ | refine inb_r ?_ | refine Wc.skip ?_ | refine Wc.exit ?_ | refine Wc.ret ?_ | refine Wc.cond_true rfl ?_ | refine Wc.cond_false rfl ?_ | (refine Wc.drawM (id := 13) 5 [(3, [wrt wb a1 c1 (xs ++ BB) base], fun v L' => v = .agg (cPl y0).toArray ∧ ∃ a' c', L' = [wrt wb a' c' (xs ++ bytesP (PS ++ [leafP its])) base]), (4, [], fun v L' => ∃ b, v = Value.slice (some ⟨b, 0, none⟩) 1 1 ∧ L' = [ownR (Value.slice (some ⟨b, 0, none⟩) 1 1) 79 4 [cPl y0]])] [.blk _ _, .blk _ _, ownR _ _ _ _, B] [3, 4] H (by kernel_rfl) rfl (by kernel_rfl) (perm_pick [0, 1, 2, 4, 3] 5 rfl (by decide) rfl) ?_) | (refine rgm_nil ?_; intro vs wk outs HM hR; obtain ⟨v3, ⟨e3, a2, c2, o3⟩, h3⟩ := hR 3 _ rfl; have hv3 : vs (0 + 1 + 1 + 1) = _ := (h3 (by kernel_rfl)).trans e3; obtain ⟨v4, ⟨b4, e4, o4⟩, h4⟩ := hR 4 _ rfl; have hv4 : vs (0 + 1 + 1 + 1 + 1) = _ := (h4 (by kernel_rfl)).trans e4; simp only [outsL, o3, o4, List.cons_append, List.nil_append, List.append_nil] at HM; (try dsimp only); rw [hv3, hv4]; replace H := HM; clear HM hR) | (refine RGm.bq (fun _ => rfl) rfl (by intro vs w TT hP H; simp only [List.cons_append, List.nil_append] at H; first | exact dbQ | fail) (fun hc => ?_) (fun hc => ?_) <;> ((try simp only [cmpP, decide_eq_true_eq, decide_eq_false_iff_not, dcd_iff, dcd_no] at hc); try exact prDQ)) | refine RGm.pq (fun _ => rfl) rfl (by intro vs w TT hP H; simp only [List.cons_append, List.nil_append] at H; first | exact dvQ | fail) ?_ | refine RGm.mq (fun _ => rfl) rfl (by intro vs w TT hP H; simp only [List.cons_append, List.nil_append] at H; first | (refine ost_H (A := wrt _ _ _ _ _) H rfl ixQ (fun HO => hlay _ HO) rfl ?_; rintro vk wk hfk2 Lk ⟨rfl, rfl, a8, c8, rfl⟩ hle2 H2; simp only [List.cons_append, List.nil_append, List.eraseIdx_cons_zero, List.eraseIdx_cons_succ] at H2; exact ⟨_, ⟨rfl, a8, c8, rfl⟩, H2⟩) | (obtain ⟨L9, ⟨e9, -⟩, -⟩ := hP 3 _ (by kernel_rfl) rfl rfl; have e8 : vs (0 + 1 + 1 + 1) = _ := e9; rw [e8]; refine ost_buildR (rows := [cPl y0]) H rfl (by decide) rfl (by rfl) (evP1 vxQ) (.cons rfl .nil) rfl (by simp [ly]) ?_; intro bk wk H2; exact ⟨[_], ⟨_, rfl, rfl⟩, H2⟩) | fail) ?_ | refine RGm.mu rfl (by intro vs w TT hP H; simp only [List.cons_append, List.nil_append] at H; first | (refine ost_H (A := wrt _ _ _ _ _) H rfl ixQ (fun HO => hlay _ HO) rfl ?_; rintro vk wk hfk2 Lk ⟨rfl, rfl, a8, c8, rfl⟩ hle2 H2; simp only [List.cons_append, List.nil_append, List.eraseIdx_cons_zero, List.eraseIdx_cons_succ] at H2; exact ⟨_, ⟨rfl, a8, c8, rfl⟩, H2⟩) | (obtain ⟨L9, ⟨e9, -⟩, -⟩ := hP 3 _ (by kernel_rfl) rfl rfl; have e8 : vs (0 + 1 + 1 + 1) = _ := e9; rw [e8]; refine ost_buildR (rows := [cPl y0]) H rfl (by decide) rfl (by rfl) (evP1 vxQ) (.cons rfl .nil) rfl (by simp [ly]) ?_; intro bk wk H2; exact ⟨[_], ⟨_, rfl, rfl⟩, H2⟩) | fail) ?_)
        have hRn : RR.map cPl ++ [cPl y0] = (placesP (base + xs.length) (PS ++ [leafP its])).map cPl := by rw [hsn, List.map_append]; rfl
        rw [hRn] at H
        exact RndPost.nn (L' := [_, _, _]) (H.picks [1, 2, 4, 3] rfl (by decide)) ⟨a2, c2, _, _, by rw [hpg]; rfl⟩
    · rintro k L' h' W ⟨a', c', ao, co, rfl⟩ hle9 H
      refine inbD_n (thenD_n ?_)
      refine WcD.of ?_
      have e1 : leafPs l = (List.range (chN l.length)).map fun k => leafP (partK l k) := if_neg hl0
      rw [e1]
      generalize (List.range (chN l.length)).map (fun k => leafP (partK l k)) = PS at H ⊢
      simp only [List.cons_append, List.nil_append, List.append_nil] at H
      subst hS0
      repeat' (first | ((first | refine WL.p rfl ?_ | refine WL.u ?_); first | refine pvQ ?_ | (refine opk 3 rfl ?_; (refine ost_cmp rfl rfl rfl rfl (fun hc => ?_) (fun hc => ?_) <;> (simp only [cmpP] at hc; try exact prIQ))) | (refine opk 4 rfl ?_; (refine ost_cmp rfl rfl rfl rfl (fun hc => ?_) (fun hc => ?_) <;> (simp only [cmpP] at hc; try exact prIQ))) | (refine opk 8 rfl ?_; first | (refine ost_store1 H rfl rfl vlQ gvQ ixQ (by first | decide | (simp; omega) | (simp; done) | omega) ?_; clear H; intro wk H; simp only [List.set_cons_zero, List.set_cons_succ, Nat.reduceAdd] at H) | (refine ost_storeW H rfl rfl rfl rfl lQ ixQ lQ okQ ?_; clear H; intro wk H; simp only [List.set_cons_zero, List.set_cons_succ, Nat.reduceAdd] at H)) | (refine opk 9 rfl ?_; first | (refine ost_boxq H rfl ?_; clear H; intro bk wk H) | (refine ost_allocA H rfl ?_; clear H; intro bk wk H) | (refine ost_alloc1 H rfl rfl ?_; clear H; intro bk wk H) | (refine ost_build1 H rfl rfl rfl evQ lsQ rfl ?_; clear H; intro bk wk H))) | refine Wc.seq ?_ | refine then_n ?_ | refine WL.nil ?_ | refine Wc.region ?_ | refine Wc.block ?_ | refine then_r ?_ | refine then_e ?_ | refine inb_e rfl ?_ | refine inb_o rfl ?_ | refine inb_n ?_ | refine inb_r ?_ | refine Wc.skip ?_ | refine Wc.exit ?_ | refine Wc.ret ?_ | refine Wc.cond_true rfl ?_ | refine Wc.cond_false rfl ?_ | (refine Wc.drawn (id := 13) 5 (by kernel_rfl) ?_) | (refine rgs_nil ?_; intro vs wk hE; replace H := H.ext hE; clear hE) | (refine RGs.bq (fun _ => rfl) rfl (by intro vs w hE hP; have H := H.ext hE; first | exact dbQ | fail) (fun hc => ?_) (fun hc => ?_) <;> ((try simp only [cmpP, decide_eq_true_eq, decide_eq_false_iff_not, dcd_iff, dcd_no] at hc); try exact prDQ)) | refine RGs.pq (fun _ => rfl) rfl (by intro vs w hE hP; have H := H.ext hE; first | exact dvQ | fail) ?_)
      exact fn_retD H fun w' H' => fn_ret1 (v := .slice _ _ _) rfl rfl ⟨_, _, H'.picks (L' := [_, _]) [1, 2] rfl (by decide), hleg.trans hle9, a', c', ao, co, by rw [List.length_map], by rw [List.length_map]⟩
end Go.Tg

set_option linter.unusedVariables false
set_option linter.unusedSimpArgs false
set_option maxRecDepth 100000
set_option maxHeartbeats 4000000
namespace Go.Tg
open Go Go.Proofs
theorem u32_1 (n : Nat) : Value.int .u32 (IntKind.u32.wrap (n : Int)) = .int .u32 (UInt32.ofNat n).toNat := by
  simp [IntKind.wrap, IntKind.bits, IntKind.signed]
theorem ro_above (wb : Nat) (a : Option Addr) (c : Nat) (xs : List UInt8) (base : Nat) (al : Option Addr) (cl : Nat) (l : List PlT) (hx : xs.length ≤ 10000000) (hb : base ≤ 1073741824) (hl : l.length ≤ 65536) (g : FH) (w : World) (hT : Half g) (hN : Sl g 4 al cl (l.map cPl)) (HO : St w (wrt wb a c xs base).fp g g [wrt wb a c xs base] w) :
    Spec Tryd.prog 23 #[pt wb, .slice al l.length cl] w (wrt wb a c xs base).fp g (fun v h' L' => FLe g h' ∧ ∃ a' c' ao co, v = .slice ao (placesP (base + xs.length) (nodePs l)).length co ∧ L' = [ownR v 79 4 ((placesP (base + xs.length) (nodePs l)).map cPl), wrt wb a' c' (xs ++ bytesP (nodePs l)) base]) := by
  have H := HO
  have q1 := hN.lenM
  generalize hF9 : (wrt wb a c xs base).fp = F9 at H ⊢
  unfold Spec
  refine calls_ofD Tryd.func23 rfl Tryd.ntmps23 (by simp) ?_
  refine WcD.seqW ?_
  repeat' (first | ((first | refine WL.p rfl ?_ | refine WL.u ?_); first | refine pvQ ?_ | (refine opk 3 rfl ?_; (refine ost_cmp rfl rfl rfl rfl (fun hc => ?_) (fun hc => ?_) <;> (simp only [cmpP] at hc; try exact prIQ))) | (refine opk 4 rfl ?_; (refine ost_cmp rfl rfl rfl rfl (fun hc => ?_) (fun hc => ?_) <;> (simp only [cmpP] at hc; try exact prIQ))) | (refine opk 8 rfl ?_; first | (refine ost_store1 H rfl rfl vlQ gvQ ixQ (by first | decide | (simp; omega) | (simp; done) | omega) ?_; clear H; intro wk H; simp only [List.set_cons_zero, List.set_cons_succ, Nat.reduceAdd] at H) | (refine ost_storeW H rfl rfl rfl rfl lQ ixQ lQ okQ ?_; clear H; intro wk H; simp only [List.set_cons_zero, List.set_cons_succ, Nat.reduceAdd] at H)) | (refine opk 9 rfl ?_; first | (refine ost_boxq H rfl ?_; clear H; intro bk wk H) | (refine ost_allocA H rfl ?_; clear H; intro bk wk H) | (refine ost_alloc1 H rfl rfl ?_; clear H; intro bk wk H) | (refine ost_build1 H rfl rfl rfl evQ lsQ rfl ?_; clear H; intro bk wk H))) | refine Wc.seq ?_ | refine then_n ?_ | refine WL.nil ?_ | refine Wc.region ?_ | refine Wc.block ?_ | refine then_r ?_ | refine then_e ?_ | refine inb_e rfl ?_ | refine inb_o rfl ?_ | refine inb_n ?_ | refine inb_r ?_ | refine Wc.skip ?_ | refine Wc.exit ?_ | refine Wc.ret ?_ | refine Wc.cond_true rfl ?_ | refine Wc.cond_false rfl ?_ | (refine Wc.drawn (id := 11) 5 (by kernel_rfl) ?_) | (refine rgs_nil ?_; intro vs wk hE; replace H := H.ext hE; clear hE) | (refine RGs.bq (fun _ => rfl) rfl (by intro vs w hE hP; have H := H.ext hE; first | exact dbQ | fail) (fun hc => ?_) (fun hc => ?_) <;> ((try simp only [cmpP, decide_eq_true_eq, decide_eq_false_iff_not, dcd_iff, dcd_no] at hc); try exact prDQ)) | refine RGs.pq (fun _ => rfl) rfl (by intro vs w hE hP; have H := H.ext hE; first | exact dvQ | fail) ?_)
  refine WcD.seqW ?_
  repeat' (first | ((first | refine WL.p rfl ?_ | refine WL.u ?_); first | refine pvQ ?_ | (refine opk 3 rfl ?_; (refine ost_cmp rfl rfl rfl rfl (fun hc => ?_) (fun hc => ?_) <;> (simp only [cmpP] at hc; try exact prIQ))) | (refine opk 4 rfl ?_; (refine ost_cmp rfl rfl rfl rfl (fun hc => ?_) (fun hc => ?_) <;> (simp only [cmpP] at hc; try exact prIQ))) | (refine opk 8 rfl ?_; first | (refine ost_store1 H rfl rfl vlQ gvQ ixQ (by first | decide | (simp; omega) | (simp; done) | omega) ?_; clear H; intro wk H; simp only [List.set_cons_zero, List.set_cons_succ, Nat.reduceAdd] at H) | (refine ost_storeW H rfl rfl rfl rfl lQ ixQ lQ okQ ?_; clear H; intro wk H; simp only [List.set_cons_zero, List.set_cons_succ, Nat.reduceAdd] at H)) | (refine opk 9 rfl ?_; first | (refine ost_boxq H rfl ?_; clear H; intro bk wk H) | (refine ost_allocA H rfl ?_; clear H; intro bk wk H) | (refine ost_alloc1 H rfl rfl ?_; clear H; intro bk wk H) | (refine ost_build1 H rfl rfl rfl evQ lsQ rfl ?_; clear H; intro bk wk H))) | refine Wc.seq ?_ | refine then_n ?_ | refine WL.nil ?_ | refine Wc.region ?_ | refine Wc.block ?_ | refine then_r ?_ | refine then_e ?_ | refine inb_e rfl ?_ | refine inb_o rfl ?_ | refine inb_n ?_ | refine inb_r ?_ | refine Wc.skip ?_ | refine Wc.exit ?_ | refine Wc.ret ?_ | refine Wc.cond_true rfl ?_ | refine Wc.cond_false rfl ?_ | (refine Wc.drawn (id := 11) 5 (by kernel_rfl) ?_) | (refine rgs_nil ?_; intro vs wk hE; replace H := H.ext hE; clear hE) | (refine RGs.bq (fun _ => rfl) rfl (by intro vs w hE hP; have H := H.ext hE; first | exact dbQ | fail) (fun hc => ?_) (fun hc => ?_) <;> ((try simp only [cmpP, decide_eq_true_eq, decide_eq_false_iff_not, dcd_iff, dcd_no] at hc); try exact prDQ)) | refine RGs.pq (fun _ => rfl) rfl (by intro vs w hE hP; have H := H.ext hE; first | exact dvQ | fail) ?_)
  obtain ⟨b5, eb5⟩ := H.nameB idx0
  subst eb5
  obtain ⟨b2, eb2⟩ := H.nameB idx1
  subst eb2
  refine WcD.seq ?_
  refine WcD.seqW ?_
  repeat' (first | ((first | refine WL.p rfl ?_ | refine WL.u ?_); first | (refine opk 1 rfl ?_; (refine ost_Sk H rfl (chunk_fp _ _ H.sat al l.length cl) rfl ?_; clear H; rintro vk wk hfk Lk ⟨c2, c3, rfl, rfl, hc2, hc3⟩ hle H; simp only [List.cons_append, List.nil_append] at H)) | refine pvQ ?_ | (refine opk 3 rfl ?_; (refine ost_cmp rfl rfl rfl rfl (fun hc => ?_) (fun hc => ?_) <;> (simp only [cmpP] at hc; try exact prIQ))) | (refine opk 4 rfl ?_; (refine ost_cmp rfl rfl rfl rfl (fun hc => ?_) (fun hc => ?_) <;> (simp only [cmpP] at hc; try exact prIQ))) | (refine opk 8 rfl ?_; first | (refine ost_store1 H rfl rfl vlQ gvQ ixQ (by first | decide | (simp; omega) | (simp; done) | omega) ?_; clear H; intro wk H; simp only [List.set_cons_zero, List.set_cons_succ, Nat.reduceAdd] at H) | (refine ost_storeW H rfl rfl rfl rfl lQ ixQ lQ okQ ?_; clear H; intro wk H; simp only [List.set_cons_zero, List.set_cons_succ, Nat.reduceAdd] at H)) | (refine opk 9 rfl ?_; first | (refine ost_boxq H rfl ?_; clear H; intro bk wk H) | (refine ost_allocA H rfl ?_; clear H; intro bk wk H) | (refine ost_alloc1 H rfl rfl ?_; clear H; intro bk wk H) | (refine ost_build1 H rfl rfl rfl evQ lsQ rfl ?_; clear H; intro bk wk H))) | refine Wc.seq ?_ | refine then_n ?_ | refine WL.nil ?_ | refine Wc.region ?_ | refine Wc.block ?_ | refine then_r ?_ | refine then_e ?_ | refine inb_e rfl ?_ | refine inb_o rfl ?_ | refine inb_n ?_ | refine inb_r ?_ | refine Wc.skip ?_ | refine Wc.exit ?_ | refine Wc.ret ?_ | refine Wc.cond_true rfl ?_ | refine Wc.cond_false rfl ?_ | (refine Wc.drawn (id := 11) 5 (by kernel_rfl) ?_) | (refine rgs_nil ?_; intro vs wk hE; replace H := H.ext hE; clear hE) | (refine RGs.bq (fun _ => rfl) rfl (by intro vs w hE hP; have H := H.ext hE; first | exact dbQ | fail) (fun hc => ?_) (fun hc => ?_) <;> ((try simp only [cmpP, decide_eq_true_eq, decide_eq_false_iff_not, dcd_iff, dcd_no] at hc); try exact prDQ)) | refine RGs.pq (fun _ => rfl) rfl (by intro vs w hE hP; have H := H.ext hE; first | exact dvQ | fail) ?_)
  refine WcD.block ?_
  obtain ⟨h2, hle2, hb2, H⟩ := (H.front 1 rfl).freezeB
  have hleg := hle.trans hle2
  have hIt := chunk_pl h2 c2 c3 al l.length cl _ _ _ _ (hle2 _ _ hc2) (hle2 _ _ hc3) q1.1 (by have := hN.mx; simpa using this) (by omega)
  refine WcD.nameS fun S0 hS0 => ?_
  refine WcD.rangeB (Lb := [.blk b5 (.cells [Value.slice none 0 0].toArray 75 (0, 0)), ownR (.slice none 0 0) 79 4 [], wrt wb a c xs base]) (Lr := []) ((H.nilOwn 79 4).picks [1, 0, 2] rfl (by decide)) (by rw [← hS0]; rfl) hIt rfl (lvI (fun k => nodeP (partK l k)) b5 wb xs base) (fun _ _ _ => False)
    (fun pre x s' L => s' = upd (upd S0 12 (chV 4 al l.length x)) 6 (chV 4 al l.length x) ∧ lvI (fun k => nodeP (partK l k)) b5 wb xs base pre L) ⟨a, c, none, 0, by simp [placesP, bytesP]⟩ ?_ ?_ ?_ (fun _ _ _ _ _ _ _ hX => hX.elim)
  · intro pre x ws W S g1 L B hpre hle9 hI H
    repeat' (first | ((first | refine WL.p rfl ?_ | refine WL.u ?_); first | refine pvQ ?_ | (refine opk 3 rfl ?_; (refine ost_cmp rfl rfl rfl rfl (fun hc => ?_) (fun hc => ?_) <;> (simp only [cmpP] at hc; try exact prIQ))) | (refine opk 4 rfl ?_; (refine ost_cmp rfl rfl rfl rfl (fun hc => ?_) (fun hc => ?_) <;> (simp only [cmpP] at hc; try exact prIQ))) | (refine opk 8 rfl ?_; first | (refine ost_store1 H rfl rfl vlQ gvQ ixQ (by first | decide | (simp; omega) | (simp; done) | omega) ?_; clear H; intro wk H; simp only [List.set_cons_zero, List.set_cons_succ, Nat.reduceAdd] at H) | (refine ost_storeW H rfl rfl rfl rfl lQ ixQ lQ okQ ?_; clear H; intro wk H; simp only [List.set_cons_zero, List.set_cons_succ, Nat.reduceAdd] at H)) | (refine opk 9 rfl ?_; first | (refine ost_boxq H rfl ?_; clear H; intro bk wk H) | (refine ost_allocA H rfl ?_; clear H; intro bk wk H) | (refine ost_alloc1 H rfl rfl ?_; clear H; intro bk wk H) | (refine ost_build1 H rfl rfl rfl evQ lsQ rfl ?_; clear H; intro bk wk H))) | refine Wc.seq ?_ | refine then_n ?_ | refine WL.nil ?_ | refine Wc.region ?_ | refine Wc.block ?_ | refine then_r ?_ | refine then_e ?_ | refine inb_e rfl ?_ | refine inb_o rfl ?_ | refine inb_n ?_ | refine inb_r ?_ | refine Wc.skip ?_ | refine Wc.exit ?_ | refine Wc.ret ?_ | refine Wc.cond_true rfl ?_ | refine Wc.cond_false rfl ?_ | (refine Wc.drawn (id := 11) 5 (by kernel_rfl) ?_) | (refine rgs_nil ?_; intro vs wk hE; replace H := H.ext hE; clear hE) | (refine RGs.bq (fun _ => rfl) rfl (by intro vs w hE hP; have H := H.ext hE; first | exact dbQ | fail) (fun hc => ?_) (fun hc => ?_) <;> ((try simp only [cmpP, decide_eq_true_eq, decide_eq_false_iff_not, dcd_iff, dcd_no] at hc); try exact prDQ)) | refine RGs.pq (fun _ => rfl) rfl (by intro vs w hE hP; have H := H.ext hE; first | exact dvQ | fail) ?_)
    exact ⟨rfl, L, g1, FLe.refl _, ⟨rfl, hI⟩, H⟩
  · rintro pre x s' ws W S g1 g2 L B hpre hle9 ⟨rfl, a1, c1, ao, co, rfl⟩ H
    subst hS0
    have hxn := range_mem hpre
    have hPt := (hN.mono (hleg.trans hle9)).part x (by rw [List.length_map]; exact hxn)
    rw [partK_map, List.length_map] at hPt
    have hpl := partK_len l x
    have hb2 := hle9 _ _ hb2
    have hT2 := hT.mono (hleg.trans hle9)
    have hpre9 : pre.length + 1 ≤ chN l.length := by
      have := hpre.length_le
      simpa using this
    have hcv : chV 4 al l.length x = .slice (al.map (·.add (8 * x * 4))) (chL l.length x) (chL l.length x) := rfl
    rw [hcv]
    rw [← hpl] at hPt ⊢
    have hpg : (pre ++ [x]).map (fun k => nodeP (partK l k)) = pre.map (fun k => nodeP (partK l k)) ++ [nodeP (partK l x)] := by rw [List.map_append]; rfl
    generalize partK l x = its at *
    generalize al.map (·.add (8 * x * 4)) = ap at hPt ⊢
    generalize hPS : pre.map (fun k => nodeP (partK l k)) = PS at *
    simp only [List.cons_append, List.nil_append] at H
    have hPL : (placesP (base + xs.length) PS).length = pre.length := by rw [placesP_len, ← hPS, List.length_map]
    have hBL := bytesP_len PS
    have hPL2 : PS.length = pre.length := by rw [← hPS, List.length_map]
    have hsn := placesP_snoc (base + xs.length) PS (nodeP its)
    have hsb := bytesP_snoc PS (nodeP its)
    have hch : chL l.length x ≤ 8 := by unfold chL; omega
    have hcn : chN l.length ≤ 10000 := by unfold chN; omega
    have q2 := hPt.lenM
    clear hPS
    generalize hRR : placesP (base + xs.length) PS = RR at H hPL hsn
    clear hRR
    generalize bytesP PS = BB at H hBL hsn hsb
    have hRl : (RR.map cPl).length = RR.length := List.length_map ..
    repeat' (first | ((first | refine WL.p rfl ?_ | refine WL.u ?_); first | refine pvQ ?_ | (refine opk 3 rfl ?_; (refine ost_cmp rfl rfl rfl rfl (fun hc => ?_) (fun hc => ?_) <;> (simp only [cmpP] at hc; try exact prIQ))) | (refine opk 4 rfl ?_; (refine ost_cmp rfl rfl rfl rfl (fun hc => ?_) (fun hc => ?_) <;> (simp only [cmpP] at hc; try exact prIQ))) | (refine opk 8 rfl ?_; first | (refine ost_store1 H rfl rfl vlQ gvQ ixQ (by first | decide | (simp; omega) | (simp; done) | omega) ?_; clear H; intro wk H; simp only [List.set_cons_zero, List.set_cons_succ, Nat.reduceAdd] at H) | (refine ost_storeW H rfl rfl rfl rfl lQ ixQ lQ okQ ?_; clear H; intro wk H; simp only [List.set_cons_zero, List.set_cons_succ, Nat.reduceAdd] at H)) | (refine opk 9 rfl ?_; first | (refine ost_boxq H rfl ?_; clear H; intro bk wk H) | (refine ost_allocA H rfl ?_; clear H; intro bk wk H) | (refine ost_alloc1 H rfl rfl ?_; clear H; intro bk wk H) | (refine ost_build1 H rfl rfl rfl evQ lsQ rfl ?_; clear H; intro bk wk H))) | refine Wc.seq ?_ | refine then_n ?_ | refine WL.nil ?_ | refine Wc.region ?_ | refine Wc.block ?_ | refine then_r ?_ | refine then_e ?_ | refine inb_e rfl ?_ | refine inb_o rfl ?_ | refine inb_n ?_ | refine inb_r ?_ | refine Wc.skip ?_ | refine Wc.exit ?_ | refine Wc.ret ?_ | refine Wc.cond_true rfl ?_ | refine Wc.cond_false rfl ?_ | (refine Wc.drawn (id := 11) 5 (by kernel_rfl) ?_) | (refine rgs_nil ?_; intro vs wk hE; replace H := H.ext hE; clear hE) | (refine RGs.bq (fun _ => rfl) rfl (by intro vs w hE hP; have H := H.ext hE; first | exact dbQ | fail) (fun hc => ?_) (fun hc => ?_) <;> ((try simp only [cmpP, decide_eq_true_eq, decide_eq_false_iff_not, dcd_iff, dcd_no] at hc); try exact prDQ)) | refine RGs.pq (fun _ => rfl) rfl (by intro vs w hE hP; have H := H.ext hE; first | exact dvQ | fail) ?_)
    obtain ⟨bp, ebp⟩ := H.nameB idx0
    subst ebp
    replace H : St ws S g1 g2 [ownR (.slice none ((its.take 0).map fun i => cKey i.1).length 0) 66 3 ((its.take 0).map fun i => cKey i.1), ownR (.slice none ((its.take 0).map fun i => cKid (UInt32.ofNat i.2)).length 0) 26 1 ((its.take 0).map fun i => cKid (UInt32.ofNat i.2)), .blk bp (.cells [Value.bool false, .slice none ((its.take 0).map fun i => cKey i.1).length 0, .slice none 0 0, .slice none ((its.take 0).map fun i => cKid (UInt32.ofNat i.2)).length 0].toArray 59 (0, 0)),
      .blk b5 (.cells [Value.slice ao (RR.map cPl).length co].toArray 75 (0, 0)), ownR (.slice ao (RR.map cPl).length co) 79 4 (RR.map cPl), wrt wb a1 c1 (xs ++ BB) base, B] _ := (H.nilOwn 26 1).nilOwn 66 3
    refine Wc.loopE (fun s0 m s w' => ∃ (k : Nat) (ak : Option Addr) (ck : Nat) (aq : Option Addr) (cq : Nat), m = its.length - k ∧ k ≤ its.length ∧ Agree [9, 15, 16, 17, 18, 19, 20, 21, 22, 23, 24, 25, 26, 27, 28, 29, 30, 31, 32, 33, 34] s s0 ∧ s 15 = .int .i64 k ∧
      St ws S g1 g2 [ownR (.slice ak ((its.take k).map fun i => cKey i.1).length ck) 66 3 ((its.take k).map fun i => cKey i.1), ownR (.slice aq ((its.take k).map fun i => cKid (UInt32.ofNat i.2)).length cq) 26 1 ((its.take k).map fun i => cKid (UInt32.ofNat i.2)), .blk bp (.cells [Value.bool false, .slice ak ((its.take k).map fun i => cKey i.1).length ck, .slice none 0 0, .slice aq ((its.take k).map fun i => cKid (UInt32.ofNat i.2)).length cq].toArray 59 (0, 0)),
        .blk b5 (.cells [Value.slice ao (RR.map cPl).length co].toArray 75 (0, 0)), ownR (.slice ao (RR.map cPl).length co) 79 4 (RR.map cPl), wrt wb a1 c1 (xs ++ BB) base, B] w') its.length ⟨0, _, _, _, _, rfl, by omega, Agree.refl _ _, rfl, H⟩ ?_
    clear H
    rintro m s w' ⟨k, ak, ck, aq, cq, rfl, hk, hA, e1, H⟩
    obtain ⟨j, rfl⟩ := hA.env1 e1
    clear hA e1
    have hKl : ((its.take k).map fun i => cKey i.1).length = k := by simp; omega
    have hQl : ((its.take k).map fun i => cKid (UInt32.ofNat i.2)).length = k := by simp; omega
    by_cases hlt : k < its.length
    · obtain ⟨b, off, L9, T, fr, e2, eb, eg⟩ := hPt.getM (by decide) (Nat.lt_of_le_of_lt (Nat.zero_le _) hlt)
      subst e2
      have g9 := eg (k : Int).toNat k hlt (by omega)
      have hs1 := takeM_succ (fun i : PlT => cKey i.1) its hlt
      have hs2 := takeM_succ (fun i : PlT => cKid (UInt32.ofNat i.2)) its hlt
      clear eg
      generalize its[k] = y at g9 hs1 hs2
      have lx := cPl_len y
      have ox := allOne_of (cPl_one y)
      have k1 := cPl_key y
      have k2 : (cPl y)[0 + 3]? = some (.int .i64 (y.2 : Int)) := rfl
      have l1 := cKey_len y.1
      have o1 := allOne_of (cKey_one y.1)
      have hku : cKid (UInt32.ofNat y.2) = [Value.int .u32 (IntKind.u32.wrap (y.2 : Int))] := by unfold cKid; rw [u32_1]
      rw [hku] at hs2
      generalize ((its.take k).map fun i => cKey i.1) = KS at H hKl hs1
      generalize ((its.take k).map fun i => cKid (UInt32.ofNat i.2)) = QS at H hQl hs2
      repeat' (first | ((first | refine WL.p rfl ?_ | refine WL.u ?_); first | (refine opk 1 rfl ?_; first | (refine ost_appR (rows := KS) (row := cKey y.1) H rfl rfl rfl (by (exact ixQ)) (by (exact ixQ)) (by rfl) (by first | simp; done | exact Nat.succ_pos _) rfl (allOne_of rfl) rfl (by omega) ?_; clear H; intro aa ca wk H; simp only [List.set_cons_zero, List.set_cons_succ] at H) | (refine ost_appR (rows := QS) (row := [Value.int .u32 (IntKind.u32.wrap (y.2 : Int))]) H rfl rfl rfl (by (exact ixQ)) (by (exact ixQ)) (by rfl) (by first | simp; done | exact Nat.succ_pos _) rfl (allOne_of rfl) rfl (by omega) ?_; clear H; intro aa ca wk H; simp only [List.set_cons_zero, List.set_cons_succ] at H)) | (refine opk 9 rfl ?_; first | (refine ost_buildR (rows := [cKey y.1]) H rfl (by decide) rfl (by rfl) (evP1 vxQ) (.cons rfl .nil) rfl (fun r hr => by rw [List.mem_singleton.1 hr]; rfl) ?_; clear H; intro bk wk H) | (refine ost_buildR (rows := [[Value.int .u32 (IntKind.u32.wrap (y.2 : Int))]]) H rfl (by decide) rfl (by rfl) (evP1 vxQ) (.cons rfl .nil) rfl (fun r hr => by rw [List.mem_singleton.1 hr]; rfl) ?_; clear H; intro bk wk H)) | refine pvQ ?_ | (refine opk 3 rfl ?_; (refine ost_cmp rfl rfl rfl rfl (fun hc => ?_) (fun hc => ?_) <;> (simp only [cmpP] at hc; try exact prIQ))) | (refine opk 4 rfl ?_; (refine ost_cmp rfl rfl rfl rfl (fun hc => ?_) (fun hc => ?_) <;> (simp only [cmpP] at hc; try exact prIQ))) | (refine opk 8 rfl ?_; first | (refine ost_store1 H rfl rfl vlQ gvQ ixQ (by first | decide | (simp; omega) | (simp; done) | omega) ?_; clear H; intro wk H; simp only [List.set_cons_zero, List.set_cons_succ, Nat.reduceAdd] at H) | (refine ost_storeW H rfl rfl rfl rfl lQ ixQ lQ okQ ?_; clear H; intro wk H; simp only [List.set_cons_zero, List.set_cons_succ, Nat.reduceAdd] at H)) | (refine opk 9 rfl ?_; first | (refine ost_boxq H rfl ?_; clear H; intro bk wk H) | (refine ost_allocA H rfl ?_; clear H; intro bk wk H) | (refine ost_alloc1 H rfl rfl ?_; clear H; intro bk wk H) | (refine ost_build1 H rfl rfl rfl evQ lsQ rfl ?_; clear H; intro bk wk H))) | refine Wc.seq ?_ | refine then_n ?_ | refine WL.nil ?_ | refine Wc.region ?_ | refine Wc.block ?_ | refine then_r ?_ | refine then_e ?_ | refine inb_e rfl ?_ | refine inb_o rfl ?_ | refine inb_n ?_ | refine inb_r ?_ | refine Wc.skip ?_ | refine Wc.exit ?_ | refine Wc.ret ?_ | refine Wc.cond_true rfl ?_ | refine Wc.cond_false rfl ?_ | (refine Wc.drawn (id := 11) 5 (by kernel_rfl) ?_) | (refine rgs_nil ?_; intro vs wk hE; replace H := H.ext hE; clear hE) | (refine RGs.bq (fun _ => rfl) rfl (by intro vs w hE hP; have H := H.ext hE; first | exact dbQ | fail) (fun hc => ?_) (fun hc => ?_) <;> ((try simp only [cmpP, decide_eq_true_eq, decide_eq_false_iff_not, dcd_iff, dcd_no] at hc); try exact prDQ)) | refine RGs.pq (fun _ => rfl) rfl (by intro vs w hE hP; have H := H.ext hE; first | exact dvQ | fail) ?_)
      rw [← hs1, ← hs2] at H
      exact ⟨its.length - (k + 1), by omega, k + 1, _, _, _, _, rfl, by omega, by (repeat' (first | exact Agree.refl _ _ | exact Agree.havoc | refine Agree.upd rfl ?_ | refine Agree.hav2 rfl ?_)), rfl, H.picks [3, 4, 5, 6, 7, 8, 9] rfl (by decide)⟩
    · obtain rfl : k = its.length := by omega
      have hm1 : (its.map fun i => cKey i.1) = (its.map (·.1)).map cKey := by rw [List.map_map]; rfl
      have hm2 : (its.map fun i => cKid (UInt32.ofNat i.2)) = (its.map fun x => UInt32.ofNat x.2).map cKid := by rw [List.map_map]; rfl
      rw [List.take_length, hm1, hm2] at H
      clear hKl hQl
      obtain ⟨ak2, ck2, h7, e7, hle7, hK7, H⟩ := H.freezeR (rows_len3 (its.map (·.1)))
      cases e7
      obtain ⟨aq2, cq2, h8, e8, hle8, hL8, H⟩ := H.freezeR (rows_len1 (its.map fun x => UInt32.ofNat x.2))
      cases e8
      simp only [List.length_map] at H
      have hle28 := hle7.trans hle8
      have hb2 := hle28 _ _ hb2
      have hP : PgR h8 (nodeP its) ⟨ak, ck, none, 0, aq, cq⟩ := ⟨hK7.mono hle8, Sl.nil _ _, hL8⟩
      have hlay := fun w HO => ro_lay wb a1 c1 (xs ++ BB) base (nodeP its) _ (by rw [List.length_append]; omega) hb h8 w (hT2.mono hle28) hP HO
      have hpv : pgV (nodeP its) ⟨ak, ck, none, 0, aq, cq⟩ = [Value.bool false, .slice ak its.length ck, .slice none 0 0, .slice aq its.length cq] := by simp [pgV, nodeP]
      have hoff : base + (xs ++ BB).length = base + xs.length + BB.length := by rw [List.length_append]; omega
      rw [hpv] at hlay
      rw [hoff] at hlay
      rw [← hRl] at H
      obtain ⟨y0, hy0⟩ : ∃ y0 : PlT, y0 = (key0 (nodeP its), base + xs.length + BB.length) := ⟨_, rfl⟩
      rw [← hy0] at hlay hsn
      rw [List.append_assoc, ← hsb] at hlay
      have oy := allOne_of (cPl_one y0)
      have ly := cPl_len y0
      repeat' (first | ((first | refine WL.p rfl ?_ | refine WL.u ?_); first | (refine opk 1 rfl ?_; (refine ost_appR (rows := RR.map cPl) (row := cPl y0) H rfl rfl rfl (by (exact ixQ)) (by (exact ixQ)) (by rfl) (by first | simp; done | exact Nat.succ_pos _) rfl (allOne_of rfl) rfl (by omega) ?_; clear H; intro aa ca wk H; simp only [List.set_cons_zero, List.set_cons_succ] at H)) | refine pvQ ?_ | (refine opk 3 rfl ?_; (refine ost_cmp rfl rfl rfl rfl (fun hc => ?_) (fun hc => ?_) <;> (simp only [cmpP] at hc; try exact prIQ))) | (refine opk 4 rfl ?_; (refine ost_cmp rfl rfl rfl rfl (fun hc => ?_) (fun hc => ?_) <;> (simp only [cmpP] at hc; try exact prIQ))) | (refine opk 8 rfl ?_; first | (refine ost_store1 H rfl rfl vlQ gvQ ixQ (by first | decide | (simp; omega) | (simp; done) | omega) ?_; clear H; intro wk H; simp only [List.set_cons_zero, List.set_cons_succ, Nat.reduceAdd] at H) | (refine ost_storeW H rfl rfl rfl rfl lQ ixQ lQ okQ ?_; clear H; intro wk H; simp only [List.set_cons_zero, List.set_cons_succ, Nat.reduceAdd] at H)) | (refine opk 9 rfl ?_; first | (refine ost_boxq H rfl ?_; clear H; intro bk wk H) | (refine ost_allocA H rfl ?_; clear H; intro bk wk H) | (refine ost_alloc1 H rfl rfl ?_; clear H; intro bk wk H) | (refine ost_build1 H rfl rfl rfl evQ lsQ rfl ?_; clear H; intro bk wk H))) | refine Wc.seq ?_ | refine then_n ?_ | refine WL.nil ?_ | refine Wc.region ?_ | refine Wc.block ?_ | refine then_r ?_ | refine then_e ?_ | refine inb_e rfl ?_ | refine inb_o rfl ?_ | refine inb_n ?_ | refine inb_r ?_ | refine Wc.skip ?_ | refine Wc.exit ?_ | refine Wc.ret ?_ | refine Wc.cond_true rfl ?_ | refine Wc.cond_false rfl ?_ | (refine Wc.drawM (id := 11) 5 [(3, [wrt wb a1 c1 (xs ++ BB) base], fun v L' => v = .agg (cPl y0).toArray ∧ ∃ a' c', L' = [wrt wb a' c' (xs ++ bytesP (PS ++ [nodeP its])) base]), (4, [], fun v L' => ∃ b, v = Value.slice (some ⟨b, 0, none⟩) 1 1 ∧ L' = [ownR (Value.slice (some ⟨b, 0, none⟩) 1 1) 79 4 [cPl y0]])] [.blk _ _, .blk _ _, ownR _ _ _ _, B] [3, 4] H (by kernel_rfl) rfl (by kernel_rfl) (perm_pick [0, 1, 2, 4, 3] 5 rfl (by decide) rfl) ?_) | (refine rgm_nil ?_; intro vs wk outs HM hR; obtain ⟨v3, ⟨e3, a2, c2, o3⟩, h3⟩ := hR 3 _ rfl; have hv3 : vs (0 + 1 + 1 + 1) = _ := (h3 (by kernel_rfl)).trans e3; obtain ⟨v4, ⟨b4, e4, o4⟩, h4⟩ := hR 4 _ rfl; have hv4 : vs (0 + 1 + 1 + 1 + 1) = _ := (h4 (by kernel_rfl)).trans e4; simp only [outsL, o3, o4, List.cons_append, List.nil_append, List.append_nil] at HM; (try dsimp only); rw [hv3, hv4]; replace H := HM; clear HM hR) | (refine RGm.bq (fun _ => rfl) rfl (by intro vs w TT hP H; simp only [List.cons_append, List.nil_append] at H; first | exact dbQ | fail) (fun hc => ?_) (fun hc => ?_) <;> ((try simp only [cmpP, decide_eq_true_eq, decide_eq_false_iff_not, dcd_iff, dcd_no] at hc); try exact prDQ)) | refine RGm.pq (fun _ => rfl) rfl (by intro vs w TT hP H; simp only [List.cons_append, List.nil_append] at H; first | exact dvQ | fail) ?_ | refine RGm.mq (fun _ => rfl) rfl (by intro vs w TT hP H; simp only [List.cons_append, List.nil_append] at H; first | (refine ost_H (A := wrt _ _ _ _ _) H rfl ixQ (fun HO => hlay _ HO) rfl ?_; rintro vk wk hfk2 Lk ⟨rfl, rfl, a8, c8, rfl⟩ hle2 H2; simp only [List.cons_append, List.nil_append, List.eraseIdx_cons_zero, List.eraseIdx_cons_succ] at H2; exact ⟨_, ⟨rfl, a8, c8, rfl⟩, H2⟩) | (obtain ⟨L9, ⟨e9, -⟩, -⟩ := hP 3 _ (by kernel_rfl) rfl rfl; have e8 : vs (0 + 1 + 1 + 1) = _ := e9; rw [e8]; refine ost_buildR (rows := [cPl y0]) H rfl (by decide) rfl (by rfl) (evP1 vxQ) (.cons rfl .nil) rfl (by simp [ly]) ?_; intro bk wk H2; exact ⟨[_], ⟨_, rfl, rfl⟩, H2⟩) | fail) ?_ | refine RGm.mu rfl (by intro vs w TT hP H; simp only [List.cons_append, List.nil_append] at H; first | (refine ost_H (A := wrt _ _ _ _ _) H rfl ixQ (fun HO => hlay _ HO) rfl ?_; rintro vk wk hfk2 Lk ⟨rfl, rfl, a8, c8, rfl⟩ hle2 H2; simp only [List.cons_append, List.nil_append, List.eraseIdx_cons_zero, List.eraseIdx_cons_succ] at H2; exact ⟨_, ⟨rfl, a8, c8, rfl⟩, H2⟩) | (obtain ⟨L9, ⟨e9, -⟩, -⟩ := hP 3 _ (by kernel_rfl) rfl rfl; have e8 : vs (0 + 1 + 1 + 1) = _ := e9; rw [e8]; refine ost_buildR (rows := [cPl y0]) H rfl (by decide) rfl (by rfl) (evP1 vxQ) (.cons rfl .nil) rfl (by simp [ly]) ?_; intro bk wk H2; exact ⟨[_], ⟨_, rfl, rfl⟩, H2⟩) | fail) ?_)
      have hRn : RR.map cPl ++ [cPl y0] = (placesP (base + xs.length) (PS ++ [nodeP its])).map cPl := by rw [hsn, List.map_append]; rfl
      rw [hRn] at H
      exact RndPost.nn (L' := [_, _, _]) (H.picks [1, 2, 4, 3] rfl (by decide)) ⟨a2, c2, _, _, by rw [hpg]; rfl⟩
  · rintro k L' h' W ⟨a', c', ao, co, rfl⟩ hle9 H
    refine inbD_n (thenD_n ?_)
    refine WcD.of ?_
    have e1 : nodePs l = (List.range (chN l.length)).map fun k => nodeP (partK l k) := rfl
    rw [e1]
    generalize (List.range (chN l.length)).map (fun k => nodeP (partK l k)) = PS at H ⊢
    simp only [List.cons_append, List.nil_append, List.append_nil] at H
    subst hS0
    repeat' (first | ((first | refine WL.p rfl ?_ | refine WL.u ?_); first | refine pvQ ?_ | (refine opk 3 rfl ?_; (refine ost_cmp rfl rfl rfl rfl (fun hc => ?_) (fun hc => ?_) <;> (simp only [cmpP] at hc; try exact prIQ))) | (refine opk 4 rfl ?_; (refine ost_cmp rfl rfl rfl rfl (fun hc => ?_) (fun hc => ?_) <;> (simp only [cmpP] at hc; try exact prIQ))) | (refine opk 8 rfl ?_; first | (refine ost_store1 H rfl rfl vlQ gvQ ixQ (by first | decide | (simp; omega) | (simp; done) | omega) ?_; clear H; intro wk H; simp only [List.set_cons_zero, List.set_cons_succ, Nat.reduceAdd] at H) | (refine ost_storeW H rfl rfl rfl rfl lQ ixQ lQ okQ ?_; clear H; intro wk H; simp only [List.set_cons_zero, List.set_cons_succ, Nat.reduceAdd] at H)) | (refine opk 9 rfl ?_; first | (refine ost_boxq H rfl ?_; clear H; intro bk wk H) | (refine ost_allocA H rfl ?_; clear H; intro bk wk H) | (refine ost_alloc1 H rfl rfl ?_; clear H; intro bk wk H) | (refine ost_build1 H rfl rfl rfl evQ lsQ rfl ?_; clear H; intro bk wk H))) | refine Wc.seq ?_ | refine then_n ?_ | refine WL.nil ?_ | refine Wc.region ?_ | refine Wc.block ?_ | refine then_r ?_ | refine then_e ?_ | refine inb_e rfl ?_ | refine inb_o rfl ?_ | refine inb_n ?_ | refine inb_r ?_ | refine Wc.skip ?_ | refine Wc.exit ?_ | refine Wc.ret ?_ | refine Wc.cond_true rfl ?_ | refine Wc.cond_false rfl ?_ | (refine Wc.drawn (id := 11) 5 (by kernel_rfl) ?_) | (refine rgs_nil ?_; intro vs wk hE; replace H := H.ext hE; clear hE) | (refine RGs.bq (fun _ => rfl) rfl (by intro vs w hE hP; have H := H.ext hE; first | exact dbQ | fail) (fun hc => ?_) (fun hc => ?_) <;> ((try simp only [cmpP, decide_eq_true_eq, decide_eq_false_iff_not, dcd_iff, dcd_no] at hc); try exact prDQ)) | refine RGs.pq (fun _ => rfl) rfl (by intro vs w hE hP; have H := H.ext hE; first | exact dvQ | fail) ?_)
    exact fn_retD H fun w' H' => fn_ret1 (v := .slice _ _ _) rfl rfl ⟨_, _, H'.picks (L' := [_, _]) [1, 2] rfl (by decide), hleg.trans hle9, a', c', ao, co, by rw [List.length_map], by rw [List.length_map]⟩
end Go.Tg

