/- Contracts of Go functions that the laws reach: what each call answers and leaves in memory, for all arguments within the bounds that each theorem names. -/
import Derived.Test.YtajfhoeejeadkaaDoorInst
import Derived.Test.YtajfhoeejeadkaaDoorAuto
import Derived.Test.YtajfhoeejeadkaaDoorF3
import Derived.Test.YtajfhoeejeadkaaDoorShl
import Derived.Test.YtajfhoeejeadkaaDoorSl
import Derived.Lib.ItoaMem
set_option linter.unusedVariables false
set_option linter.unusedSimpArgs false
set_option maxRecDepth 100000
set_option maxHeartbeats 8000000
namespace Go.Tg
open Go Go.Proofs
theorem flat32 (l : List UInt32) : (l.map cKid).flatten.length = l.length := by
  induction l with
  | nil => rfl
  | cons x l ih => simp only [List.map_cons, List.flatten_cons, List.length_append, ih, List.length_cons]; simp [cKid]; omega
theorem flat32_snoc (l : List UInt32) (x : UInt32) : (l.map cKid).flatten ++ [Value.int .u32 x.toNat] = ((l ++ [x]).map cKid).flatten := by simp [cKid]
theorem St.freezeRn {ws w : World} {S : List Nat} {h0 h : FH} {L : List HA} {e : TypeId} {v : Value} {sz n : Nat} {rows : List (List Value)} (H : St ws S h0 h (.own v e sz n rows.flatten :: L) w) (hn : n = rows.length) (hr : ∀ r, r ∈ rows → r.length = sz) : ∃ a c h', v = .slice a n c ∧ FLe h h' ∧ Sl h' sz a c rows ∧ St ws S h0 h' L w := by
  subst hn; exact H.freezeR hr
theorem n32_step (l : List UInt32) {k : Nat} (h : k < l.length) : numsB (n32 (l.take (k + 1))) = numsB (n32 (l.take k)) ++ putB l[k].toNat := by
  rw [List.take_add_one, List.getElem?_eq_getElem h]
  unfold n32
  rw [List.map_append, numsB_app]; simp [numsB]
theorem n32_len (l : List UInt32) : (numsB (n32 l)).length ≤ 11 * l.length := by
  have := numsB_len (n32 l)
  unfold n32 at this ⊢
  rw [List.length_map] at this; exact this
def pi8 (W B : HA) (n : Nat) (cs : List Value) (x : Value) : PiX := fun vs dn L => match dn 2, dn 5, dn 6 with
  | false, false, false => L = [W, B]
  | true, false, false => (∃ a c, vs 2 = .slice a n c) ∧ L = [.own (vs 2) 28 1 n cs, W, B]
  | false, true, false => (∃ b, vs 5 = .slice (some ⟨b, 0, none⟩) 1 1) ∧ L = [.own (vs 5) 28 1 1 [x], W, B]
  | true, true, false => (∃ a c, vs 2 = .slice a n c) ∧ (∃ b, vs 5 = .slice (some ⟨b, 0, none⟩) 1 1) ∧ L = [.own (vs 2) 28 1 n cs, .own (vs 5) 28 1 1 [x], W, B]
  | true, true, true => (∃ a c, vs 6 = .slice a (n + 1) c) ∧ L = [.own (vs 6) 28 1 (n + 1) (cs ++ [x]), W, B]
  | _, _, _ => False
theorem pi8_B {W B : HA} {n : Nat} {cs : List Value} {x : Value} {vs : Nat → Value} {dn : Nat → Bool} {L : List HA} (h : pi8 W B n cs x vs dn L) : ∃ i : Nat, L[i]? = some B := by
  unfold pi8 at h
  split at h
  · subst h; exact ⟨1, rfl⟩
  · obtain ⟨-, rfl⟩ := h; exact ⟨2, rfl⟩
  · obtain ⟨-, rfl⟩ := h; exact ⟨2, rfl⟩
  · obtain ⟨-, -, rfl⟩ := h; exact ⟨3, rfl⟩
  · obtain ⟨-, rfl⟩ := h; exact ⟨2, rfl⟩
  · exact h.elim
theorem pi8_2 {W B : HA} {n : Nat} {cs : List Value} {x : Value} {vs : Nat → Value} {dn : Nat → Bool} {L : List HA} (h : pi8 W B n cs x vs dn L) (h1 : dn 2 = false) {v : Value} {a : Option Addr} {c : Nat} (hv : v = .slice a n c) :
    pi8 W B n cs x (fun q => if q = 2 then v else vs q) (fun q => q == 2 || dn q) (.own v 28 1 n cs :: L) := by
  unfold pi8 at h ⊢
  rw [h1] at h
  cases h5 : dn 5 <;> cases h6 : dn 6 <;> rw [h5, h6] at h
  · subst h; simp [h6, h5]; exact ⟨a, c, hv⟩
  · exact h.elim
  · obtain ⟨hb, rfl⟩ := h; simp [h6, h5]; exact ⟨⟨a, c, hv⟩, hb⟩
  · exact h.elim
theorem pi8_5 {W B : HA} {n : Nat} {cs : List Value} {x : Value} {vs : Nat → Value} {dn : Nat → Bool} {L : List HA} (h : pi8 W B n cs x vs dn L) (h1 : dn 5 = false) {v : Value} {b : Nat} (hv : v = .slice (some ⟨b, 0, none⟩) 1 1) :
    ∃ L', pi8 W B n cs x (fun q => if q = 5 then v else vs q) (fun q => q == 5 || dn q) L' ∧ ∀ {ws w : World} {S : List Nat} {h0 h : FH}, St ws S h0 h (.own v 28 1 1 [x] :: L) w → St ws S h0 h L' w := by
  unfold pi8 at h ⊢
  rw [h1] at h
  cases h2 : dn 2 <;> cases h6 : dn 6 <;> rw [h2, h6] at h
  · subst h; exact ⟨_, by simp [h6, h2]; exact ⟨b, hv⟩, fun H => H⟩
  · exact h.elim
  · obtain ⟨hb, rfl⟩ := h; exact ⟨_, by simp [h6, h2]; exact ⟨hb, ⟨b, hv⟩, rfl⟩, fun H => H.picks [1, 0, 2, 3] rfl (by decide)⟩
  · exact h.elim
theorem pi8_6 {W B : HA} {n : Nat} {cs : List Value} {x : Value} {vs : Nat → Value} {dn : Nat → Bool} {L : List HA} (h : pi8 W B n cs x vs dn L) (h1 : dn 6 = false) (h2 : dn 2 = true) (h5 : dn 5 = true) :
    (∃ a c, vs 2 = .slice a n c) ∧ (∃ b, vs 5 = .slice (some ⟨b, 0, none⟩) 1 1) ∧ L = [.own (vs 2) 28 1 n cs, .own (vs 5) 28 1 1 [x], W, B] := by
  unfold pi8 at h
  rw [h1, h2, h5] at h; exact h
theorem pi8_end {W B : HA} {n : Nat} {cs : List Value} {x : Value} {vs : Nat → Value} {dn : Nat → Bool} {L : List HA} (h : pi8 W B n cs x vs dn L) (h6 : dn 6 = true) : (∃ a c, vs 6 = .slice a (n + 1) c) ∧ L = [.own (vs 6) 28 1 (n + 1) (cs ++ [x]), W, B] := by
  unfold pi8 at h
  rw [h6] at h
  cases h2 : dn 2 <;> cases h5 : dn 5 <;> rw [h2, h5] at h
  · exact h.elim
  · exact h.elim
  · exact h.elim
  · exact h
theorem pi8_new {W B : HA} {n : Nat} {cs : List Value} {x : Value} {vs : Nat → Value} {dn : Nat → Bool} (h2 : dn 2 = true) (h5 : dn 5 = true) {v : Value} {a : Option Addr} {c : Nat} (hv : v = .slice a (n + 1) c) :
    pi8 W B n cs x (fun q => if q = 6 then v else vs q) (fun q => q == 6 || dn q) [.own v 28 1 (n + 1) (cs ++ [x]), W, B] := by
  unfold pi8
  simp [h2, h5]; exact ⟨a, c, hv⟩
theorem man_Encode (m : ManT) (A : MAd) (h0 : FH) (w : World) (hs : Sat h0 w) (hT : Half h0) (hP : MnR h0 m A) :
    Spec Tryd.prog 46 #[.agg (mnV m A).toArray] w [] h0 (fun v h' L' => ∃ a' c', v = .tuple #[.slice a' (outM m).1.length c', .int .i64 (outM m).2] ∧ L' = [own8 (.slice a' (outM m).1.length c') 5 (outM m).1]) := by
  have H := St.start hs
  have hR := man_Right m A h0
  have hI := @rightM_iff m
  have hF : ∀ q, rightM m = q → outM m = if q = true then (encM m, 0) else ([], 2) := fun q h => by unfold outM; rw [h]
  generalize rightM m = q at hR hF hI
  rw [hF q rfl]
  clear hF
  obtain ⟨ver, flr, base, segs, next⟩ := m
  obtain ⟨a, c⟩ := A
  rw [show mnV ⟨ver, flr, base, segs, next⟩ ⟨a, c⟩ = mnL ver flr base segs.length next a c from rfl] at hR ⊢
  have lm := mnL_len ver flr base segs.length next a c
  have qf := mnL_flr ver flr base segs.length next a c
  have q17 := mnL_17 ver flr base segs.length next a c
  have q18 := mnL_18 ver flr base segs.length next a c
  have q19 := mnL_19 ver flr base segs.length next a c
  have q0 : (mnL ver flr base segs.length next a c)[0 + 0]? = some (.int .u64 ver.toNat) := rfl
  have lf := cV_len flr
  have u0 := ver.toNat_lt; have u1 := base.toNat_lt; have u2 := next.toNat_lt
  have hMn := hP
  have hP : Sl h0 1 a c (segs.map cKid) := hP
  have qc := hP.lenM
  unfold Spec
  refine calls_of Tryd.func46 rfl Tryd.ntmps46 (by simp) ?_
  cases q with
  | false =>
    repeat' (first | ((first | refine WL.p rfl ?_ | refine WL.u ?_); first | (refine opk 1 rfl ?_; (refine ost_V H rfl (hR _ H.sat hMn) rfl ?_; clear H; intro wk H)) | refine pvQ ?_ | (refine opk 3 rfl ?_; (refine ost_cmp rfl rfl rfl rfl (fun hc => ?_) (fun hc => ?_) <;> (simp only [cmpP] at hc; try exact prIQ))) | (refine opk 4 rfl ?_; (refine ost_cmp rfl rfl rfl rfl (fun hc => ?_) (fun hc => ?_) <;> (simp only [cmpP] at hc; try exact prIQ))) | (refine opk 9 rfl ?_; first | (refine ost_boxq H rfl ?_; clear H; intro bk wk H) | (refine ost_build1 H rfl rfl rfl evQ lsQ rfl ?_; clear H; intro bk wk H))) | refine Wc.seq ?_ | refine then_n ?_ | refine WL.nil ?_ | refine Wc.region ?_ | refine Wc.block ?_ | refine then_r ?_ | refine then_e ?_ | refine inb_e rfl ?_ | refine inb_o rfl ?_ | refine inb_n ?_ | refine inb_r ?_ | refine Wc.skip ?_ | refine Wc.exit ?_ | refine Wc.ret ?_ | refine Wc.cond_true rfl ?_ | refine Wc.cond_false rfl ?_ | (refine Wc.drawn (id := 8) 9 (by kernel_rfl) ?_) | (refine rgs_nil ?_; intro vs wk hE; replace H := H.ext hE; clear hE) | (refine RGs.bq (fun _ => rfl) rfl (by intro vs w hE hP; have H := H.ext hE; first | exact dbQ | fail) (fun hc => ?_) (fun hc => ?_) <;> ((try simp only [cmpP, decide_eq_true_eq, decide_eq_false_iff_not, dcd_iff, dcd_no] at hc); try exact prDQ)) | refine RGs.pq (fun _ => rfl) rfl (by intro vs w hE hP; have H := H.ext hE; first | exact dvQ | fail) ?_)
    exact fn_ret2 (v1 := .slice _ _ _) (v2 := .int _ _) rfl rfl rfl ⟨_, _, (H.nil8 5).pick 0 rfl, _, _, rfl, rfl⟩
  | true =>
    obtain ⟨⟨c1, c2, c3, c4, c5, c6⟩, has⟩ := hI.1 rfl
    dsimp only at c1 c2 c3
    clear c4 c5 c6 has hI
    rw [if_pos rfl]
    dsimp only
    have p1 := putB_len ver.toNat; have p2 := putB_len base.toNat; have p3 := putB_len segs.length
    have p4 := encV_len flr
    have p5 := fieldB_len' (encV flr)
    repeat' (first | ((first | refine WL.p rfl ?_ | refine WL.u ?_); first | (refine opk 1 rfl ?_; first | (refine ost_V H rfl (hR _ H.sat hMn) rfl ?_; clear H; intro wk H) | (refine ost_C H rfl (pack_New _ _ (sat_full _)) rfl ?_; clear H; rintro vk wk hfk Lk ⟨b1, rfl, rfl⟩ H; simp only [List.cons_append, List.nil_append] at H) | (refine ost_O (A := wr _ _ _ _ _) H rfl (by (exact ixQ)) (fun HO => pack_NumK _ _ _ _ _ HO ver.toNat (by omega) (by decide)) rfl ?_; clear H; rintro vk wk hfk Lk ⟨rfl, v3, rfl⟩ H; simp only [List.cons_append, List.nil_append, List.eraseIdx_cons_zero, List.eraseIdx_cons_succ] at H) | (refine ost_C H rfl (vec_Encode _ flr _ (sat_full _)) rfl ?_; clear H; rintro vk wk hfk Lk ⟨a1, c1, rfl, _, rfl⟩ H; simp only [List.cons_append, List.nil_append] at H)) | refine pvQ ?_ | (refine opk 3 rfl ?_; (refine ost_cmp rfl rfl rfl rfl (fun hc => ?_) (fun hc => ?_) <;> (simp only [cmpP] at hc; try exact prIQ))) | (refine opk 4 rfl ?_; (refine ost_cmp rfl rfl rfl rfl (fun hc => ?_) (fun hc => ?_) <;> (simp only [cmpP] at hc; try exact prIQ))) | (refine opk 9 rfl ?_; first | (refine ost_boxq H rfl ?_; clear H; intro bk wk H) | (refine ost_build1 H rfl rfl rfl evQ lsQ rfl ?_; clear H; intro bk wk H))) | refine Wc.seq ?_ | refine then_n ?_ | refine WL.nil ?_ | refine Wc.region ?_ | refine Wc.block ?_ | refine then_r ?_ | refine then_e ?_ | refine inb_e rfl ?_ | refine inb_o rfl ?_ | refine inb_n ?_ | refine inb_r ?_ | refine Wc.skip ?_ | refine Wc.exit ?_ | refine Wc.ret ?_ | refine Wc.cond_true rfl ?_ | refine Wc.cond_false rfl ?_ | (refine Wc.drawn (id := 8) 9 (by kernel_rfl) ?_) | (refine rgs_nil ?_; intro vs wk hE; replace H := H.ext hE; clear hE) | (refine RGs.bq (fun _ => rfl) rfl (by intro vs w hE hP; have H := H.ext hE; first | exact dbQ | fail) (fun hc => ?_) (fun hc => ?_) <;> ((try simp only [cmpP, decide_eq_true_eq, decide_eq_false_iff_not, dcd_iff, dcd_no] at hc); try exact prDQ)) | refine RGs.pq (fun _ => rfl) rfl (by intro vs w hE hP; have H := H.ext hE; first | exact dvQ | fail) ?_)
    obtain ⟨a6, c6, h6, e6, hle6, hr6, H9⟩ := H.freeze8
    clear H; have H := H9; clear H9
    injection e6 with e61 e62 e63
    subst e61; subst e63
    have hB : ∀ (b : Nat) (v : Value) (g : FH) (w : World) (HO : St w (wr b true 0 v (putB ver.toNat)).fp g g [wr b true 0 v (putB ver.toNat)] w) (hr : BS g a1 c1 (encV flr)), Spec Tryd.prog 78 #[pt b, .slice a1 (encV flr).length c1] w (wr b true 0 v (putB ver.toNat)).fp g (fun v' h' L' => v' = .int .i64 0 ∧ ∃ v2, L' = [wr b true 0 v2 (putB ver.toNat ++ fieldB (encV flr))]) := fun b v g w HO hr => by
      have := pack_Bytes b true 0 v _ g w HO a1 c1 (encV flr) hr (by omega) (by omega)
      rw [layE_ok (by omega)] at this; exact this
    repeat' (first | ((first | refine WL.p rfl ?_ | refine WL.u ?_); first | (refine opk 1 rfl ?_; first | (refine ost_H (A := wr _ _ _ _ _) H rfl (by (exact ixQ)) (fun HO => hB _ _ _ _ HO hr6) rfl ?_; clear H; rintro vk wk hfk Lk ⟨rfl, v2, rfl⟩ hle H; simp only [List.cons_append, List.nil_append, List.eraseIdx_cons_zero, List.eraseIdx_cons_succ] at H) | (refine ost_O (A := wr _ _ _ _ _) H rfl (by (exact ixQ)) (fun HO => pack_NumK _ _ _ _ _ HO _ (by omega) (by (try simp only [List.length_append]); omega)) rfl ?_; clear H; rintro vk wk hfk Lk ⟨rfl, v3, rfl⟩ H; simp only [List.cons_append, List.nil_append, List.eraseIdx_cons_zero, List.eraseIdx_cons_succ] at H)) | refine pvQ ?_ | (refine opk 3 rfl ?_; (refine ost_cmp rfl rfl rfl rfl (fun hc => ?_) (fun hc => ?_) <;> (simp only [cmpP] at hc; try exact prIQ))) | (refine opk 4 rfl ?_; (refine ost_cmp rfl rfl rfl rfl (fun hc => ?_) (fun hc => ?_) <;> (simp only [cmpP] at hc; try exact prIQ))) | (refine opk 9 rfl ?_; first | (refine ost_boxq H rfl ?_; clear H; intro bk wk H) | (refine ost_build1 H rfl rfl rfl evQ lsQ rfl ?_; clear H; intro bk wk H))) | refine Wc.seq ?_ | refine then_n ?_ | refine WL.nil ?_ | refine Wc.region ?_ | refine Wc.block ?_ | refine then_r ?_ | refine then_e ?_ | refine inb_e rfl ?_ | refine inb_o rfl ?_ | refine inb_n ?_ | refine inb_r ?_ | refine Wc.skip ?_ | refine Wc.exit ?_ | refine Wc.ret ?_ | refine Wc.cond_true rfl ?_ | refine Wc.cond_false rfl ?_)
    obtain ⟨bm, ebm⟩ := H.nameB idx1
    subst ebm
    have hPk := hP.mono (hle6.trans hle)
    have hT7 := (hT.mono hle6).mono hle
    have hseg : (segs.map cKid).flatten.length = segs.length := flat32 segs
    clear hle hR hMn hB
    rename FH => h7
    refine Wc.drawX (id := 8) 9 [2, 5, 6] (pi8 (wr b1 true 0 v3 _) (.blk bm _) segs.length (segs.map cKid).flatten (.int .u32 next.toNat)) H (by kernel_rfl) (by kernel_rfl) rfl ?_
    refine RGx.p rfl (by intro vs w dn L hd hP9 H; exact dvQ) ?_
    refine RGx.p rfl (by intro vs w dn L hd hP9 H; obtain ⟨i9, hi9⟩ := pi8_B hP9; exact ost_load1 rfl rfl rfl (H.ok i9 _ hi9) q18 ⟨Fr.refl _ _, rfl⟩) ?_
    refine RGx.m rfl (by
      intro vs w dn L h1 hd hP9 H
      refine ost_C H rfl (clone32 segs.length _ a c segs _ (sat_full _) (List.length_map ..).symm (hPk.full H) (by omega) (by omega)) rfl ?_
      rintro v w' h' L' ⟨a', c', e1, -, rfl⟩ H2
      exact ⟨_, pi8_2 hP9 h1 e1, H2⟩) ?_
    refine RGx.p rfl (by intro vs w dn L hd hP9 H; exact dvQ) ?_
    refine RGx.p rfl (by intro vs w dn L hd hP9 H; obtain ⟨i9, hi9⟩ := pi8_B hP9; exact ost_load1 rfl rfl rfl (H.ok i9 _ hi9) q19 ⟨Fr.refl _ _, rfl⟩) ?_
    refine RGx.m rfl (by
      intro vs w dn L h1 hd hP9 H
      refine ost_buildR (rows := [[Value.int .u32 next.toNat]]) H rfl (by decide) rfl (by rfl) (evP1 vxQ) (.cons rfl .nil) rfl (by simp) ?_
      intro bk wk H2
      obtain ⟨L', q1, q2⟩ := pi8_5 hP9 h1 (rfl : Value.slice (some ⟨bk, 0, none⟩) 1 1 = _)
      exact ⟨L', q1, q2 H2⟩) ?_
    refine RGx.m rfl (by
      intro vs w dn L h1 hd hP9 H
      have d2 := hd 2 (by kernel_rfl) rfl
      have d5 := hd 5 (by kernel_rfl) rfl
      obtain ⟨⟨a2, c2, e2⟩, ⟨b5, e5⟩, rfl⟩ := pi8_6 hP9 h1 d2 d5
      rw [e2, e5] at H
      obtain ⟨a8, c8, e8, hS⟩ := H.ownSl (i := 1) (rows := [[Value.int .u32 next.toNat]]) rfl (by simp)
      injection e8 with e81 e82 e83
      subst e81; subst e83
      refine ost_append (i := 0) H rfl e5 e2 rfl (by rfl) (by decide) hS.rd (by rfl) (by intro h; cases h) (allOne_of rfl) (by omega) (by simp only [maxLen]; omega) ?_
      intro a' c' w' H2
      exact ⟨_, pi8_new d2 d5 rfl, H2.picks [0, 2, 3] rfl (by decide)⟩) ?_
    refine RGx.p rfl (by
      intro vs w dn L hd hP9 H
      obtain ⟨⟨a9, c9, e9⟩, -⟩ := pi8_end hP9 (hd 6 (by kernel_rfl) rfl)
      exact ost_len_sl rfl e9 ⟨Fr.refl _ _, rfl⟩) ?_
    refine RGx.p rfl (by intro vs w dn L hd hP9 H; exact dvQ) ?_
    refine RGx.nil ?_
    intro vs wk dn L hall hP9 H9
    obtain ⟨⟨a9, c9, e9⟩, rfl⟩ := pi8_end hP9 (hall 6 rfl)
    have hv6 : vs (0 + 1 + 1 + 1 + 1 + 1 + 1) = _ := e9
    rw [e9, flat32_snoc] at H9
    (try dsimp only)
    rw [hv6]
    clear hP9 hv6 e9 H
    have H := H9
    clear H9
    have hfl : fldM ⟨ver, flr, base, segs, next⟩ = putB ver.toNat ++ fieldB (encV flr) ++ putB base.toNat ++ putB segs.length ++ numsB (n32 (segs ++ [next])) := rfl
    unfold encM
    rw [hfl]
    have hXl : (putB ver.toNat ++ fieldB (encV flr) ++ putB base.toNat ++ putB segs.length).length ≤ 250 := by
      simp only [List.length_append]; omega
    generalize putB ver.toNat ++ fieldB (encV flr) ++ putB base.toNat ++ putB segs.length = X at H hXl ⊢
    have hLn : segs.length + 1 = (segs ++ [next]).length := by simp
    have hLb : (segs ++ [next]).length ≤ 65 := by rw [← hLn]; omega
    rw [hLn] at H ⊢
    clear hLn hfl hPk hseg
    generalize segs ++ [next] = LL at H hLb ⊢
    obtain ⟨a8, c8, h8, e8, hle8, hL8, H9⟩ := H.freezeRn (List.length_map ..).symm (rows_len1 LL)
    injection e8 with e81 e82 e83
    subst e81; subst e83
    clear H; have H := H9; clear H9
    have hT8 := hT7.mono hle8
    refine WL.nil ?_
    repeat' (first | ((first | refine WL.p rfl ?_ | refine WL.u ?_); first | refine pvQ ?_ | (refine opk 3 rfl ?_; (refine ost_cmp rfl rfl rfl rfl (fun hc => ?_) (fun hc => ?_) <;> (simp only [cmpP] at hc; try exact prIQ))) | (refine opk 4 rfl ?_; (refine ost_cmp rfl rfl rfl rfl (fun hc => ?_) (fun hc => ?_) <;> (simp only [cmpP] at hc; try exact prIQ))) | (refine opk 9 rfl ?_; first | (refine ost_boxq H rfl ?_; clear H; intro bk wk H) | (refine ost_build1 H rfl rfl rfl evQ lsQ rfl ?_; clear H; intro bk wk H))) | refine Wc.seq ?_ | refine then_n ?_ | refine WL.nil ?_ | refine Wc.region ?_ | refine Wc.block ?_ | refine then_r ?_ | refine then_e ?_ | refine inb_e rfl ?_ | refine inb_o rfl ?_ | refine inb_n ?_ | refine inb_r ?_ | refine Wc.skip ?_ | refine Wc.exit ?_ | refine Wc.ret ?_ | refine Wc.cond_true rfl ?_ | refine Wc.cond_false rfl ?_ | (refine Wc.drawn (id := 8) 9 (by kernel_rfl) ?_) | (refine rgs_nil ?_; intro vs wk hE; replace H := H.ext hE; clear hE) | (refine RGs.bq (fun _ => rfl) rfl (by intro vs w hE hP; have H := H.ext hE; first | exact dbQ | fail) (fun hc => ?_) (fun hc => ?_) <;> ((try simp only [cmpP, decide_eq_true_eq, decide_eq_false_iff_not, dcd_iff, dcd_no] at hc); try exact prDQ)) | refine RGs.pq (fun _ => rfl) rfl (by intro vs w hE hP; have H := H.ext hE; first | exact dvQ | fail) ?_)
    refine Wc.loopE (fun s0 m s w' => ∃ (k : Nat) (v : Value), m = LL.length - k ∧ k ≤ LL.length ∧ Agree [6, 41, 42, 43, 44, 45, 46, 47, 48, 49] s s0 ∧ s 41 = .int .i64 k ∧
      St w [] h0 h8 [wr b1 true 0 v (X ++ numsB (n32 (LL.take k))), .blk bm (.cells (mnL ver flr base segs.length next a c).toArray 95 (0, 0))] w') LL.length ⟨0, v3, rfl, by omega, Agree.refl _ _, rfl, by rw [List.take_zero, show numsB (n32 []) = [] from rfl, List.append_nil]; exact H⟩ ?_
    clear H
    rintro m s w' ⟨k, v, rfl, hk, hA9, e1, H⟩
    obtain ⟨j, rfl⟩ := hA9.env1 e1
    clear hA9 e1
    have hxl := n32_len (LL.take k)
    have hxk : (LL.take k).length ≤ 65 := by rw [List.length_take]; omega
    by_cases hlt : k < LL.length
    · obtain ⟨b', off, l, T, fr, e1, eb, eg⟩ := hL8.getM (by decide) (Nat.lt_of_le_of_lt (Nat.zero_le _) hlt)
      subst e1
      have g1 : l[off + (k : Int).toNat * 1]? = some (.int .u32 LL[k].toNat) := row_cell (eg (k : Int).toNat k hlt (by omega)) (q := 0) (by simp [cKid])
      have hst := n32_step LL hlt
      have hy := LL[k].toNat_lt
      have hyp := putB_len LL[k].toNat
      clear eg
      generalize LL[k] = y at g1 hst hy hyp
      repeat' (first | ((first | refine WL.p rfl ?_ | refine WL.u ?_); first | (refine opk 1 rfl ?_; (refine ost_O (A := wr _ _ _ _ _) H rfl (by (exact ixQ)) (fun HO => pack_NumK _ _ _ _ _ HO y.toNat (by omega) (by rw [List.length_append]; omega)) rfl ?_; clear H; rintro vk wk hfk Lk ⟨rfl, v3, rfl⟩ H; simp only [List.cons_append, List.nil_append, List.eraseIdx_cons_zero, List.eraseIdx_cons_succ] at H)) | refine pvQ ?_ | (refine opk 3 rfl ?_; (refine ost_cmp rfl rfl rfl rfl (fun hc => ?_) (fun hc => ?_) <;> (simp only [cmpP] at hc; try exact prIQ))) | (refine opk 4 rfl ?_; (refine ost_cmp rfl rfl rfl rfl (fun hc => ?_) (fun hc => ?_) <;> (simp only [cmpP] at hc; try exact prIQ))) | (refine opk 9 rfl ?_; first | (refine ost_boxq H rfl ?_; clear H; intro bk wk H) | (refine ost_build1 H rfl rfl rfl evQ lsQ rfl ?_; clear H; intro bk wk H))) | refine Wc.seq ?_ | refine then_n ?_ | refine WL.nil ?_ | refine Wc.region ?_ | refine Wc.block ?_ | refine then_r ?_ | refine then_e ?_ | refine inb_e rfl ?_ | refine inb_o rfl ?_ | refine inb_n ?_ | refine inb_r ?_ | refine Wc.skip ?_ | refine Wc.exit ?_ | refine Wc.ret ?_ | refine Wc.cond_true rfl ?_ | refine Wc.cond_false rfl ?_ | (refine Wc.drawn (id := 8) 9 (by kernel_rfl) ?_) | (refine rgs_nil ?_; intro vs wk hE; replace H := H.ext hE; clear hE) | (refine RGs.bq (fun _ => rfl) rfl (by intro vs w hE hP; have H := H.ext hE; first | exact dbQ | fail) (fun hc => ?_) (fun hc => ?_) <;> ((try simp only [cmpP, decide_eq_true_eq, decide_eq_false_iff_not, dcd_iff, dcd_no] at hc); try exact prDQ)) | refine RGs.pq (fun _ => rfl) rfl (by intro vs w hE hP; have H := H.ext hE; first | exact dvQ | fail) ?_)
      rw [List.append_assoc, ← hst] at H
      exact ⟨LL.length - (k + 1), by omega, k + 1, v3, rfl, by omega, by (repeat' (first | exact Agree.refl _ _ | exact Agree.havoc | refine Agree.upd rfl ?_ | refine Agree.hav2 rfl ?_)), rfl, H⟩
    · obtain rfl : k = LL.length := by omega
      rw [List.take_length] at H hxl hxk
      have hFl : (X ++ numsB (n32 LL)).length ≤ 4000 := by rw [List.length_append]; omega
      repeat' (first | ((first | refine WL.p rfl ?_ | refine WL.u ?_); first | (refine opk 1 rfl ?_; first | (refine ost_O (A := wr _ _ _ _ _) H rfl (by (exact ixQ)) (fun HO => pack_All0 _ _ _ _ _ _ HO (by omega) rfl) rfl ?_; clear H; rintro vk wk hfk Lk ⟨a4, c4, rfl, _, rfl⟩ H; simp only [List.cons_append, List.nil_append, List.eraseIdx_cons_zero, List.eraseIdx_cons_succ] at H) | (refine ost_C H rfl (frame_WrapK _ _ _ (X ++ numsB (n32 LL)) _ (sat_full _) (hT8.full H) (H.own8rd (i := 0) rfl) (by omega)) rfl ?_; clear H; rintro vk wk hfk Lk ⟨a5, c5, rfl, _, rfl⟩ H; simp only [List.cons_append, List.nil_append] at H)) | refine pvQ ?_ | (refine opk 3 rfl ?_; (refine ost_cmp rfl rfl rfl rfl (fun hc => ?_) (fun hc => ?_) <;> (simp only [cmpP] at hc; try exact prIQ))) | (refine opk 4 rfl ?_; (refine ost_cmp rfl rfl rfl rfl (fun hc => ?_) (fun hc => ?_) <;> (simp only [cmpP] at hc; try exact prIQ))) | (refine opk 9 rfl ?_; first | (refine ost_boxq H rfl ?_; clear H; intro bk wk H) | (refine ost_build1 H rfl rfl rfl evQ lsQ rfl ?_; clear H; intro bk wk H))) | refine Wc.seq ?_ | refine then_n ?_ | refine WL.nil ?_ | refine Wc.region ?_ | refine Wc.block ?_ | refine then_r ?_ | refine then_e ?_ | refine inb_e rfl ?_ | refine inb_o rfl ?_ | refine inb_n ?_ | refine inb_r ?_ | refine Wc.skip ?_ | refine Wc.exit ?_ | refine Wc.ret ?_ | refine Wc.cond_true rfl ?_ | refine Wc.cond_false rfl ?_ | (refine Wc.drawn (id := 8) 9 (by kernel_rfl) ?_) | (refine rgs_nil ?_; intro vs wk hE; replace H := H.ext hE; clear hE) | (refine RGs.bq (fun _ => rfl) rfl (by intro vs w hE hP; have H := H.ext hE; first | exact dbQ | fail) (fun hc => ?_) (fun hc => ?_) <;> ((try simp only [cmpP, decide_eq_true_eq, decide_eq_false_iff_not, dcd_iff, dcd_no] at hc); try exact prDQ)) | refine RGs.pq (fun _ => rfl) rfl (by intro vs w hE hP; have H := H.ext hE; first | exact dvQ | fail) ?_)
      exact fn_ret2 (v1 := .slice _ _ _) (v2 := .int _ _) rfl rfl rfl ⟨_, _, H.pick 0 rfl, _, _, rfl, rfl⟩
end Go.Tg

set_option linter.unusedVariables false
set_option linter.unusedSimpArgs false
set_option maxRecDepth 100000
set_option maxHeartbeats 1000000
namespace Go.Tg
open Go Go.Proofs
def pow10V : List Value := Lib.pow10Tab.map fun z => Value.int .u64 z
def Pow (h : FH) : Prop := ∃ T fr, h 0 = some (.cells pow10V.toArray T fr)
theorem Pow.mono {h h' : FH} (hle : FLe h h') (r : Pow h) : Pow h' := by
  obtain ⟨T, fr, e⟩ := r; exact ⟨T, fr, hle _ _ e⟩
theorem Pow.full {ws w : World} {S : List Nat} {h0 h : FH} {L : List HA} (r : Pow h) (H : St ws S h0 h L w) : Pow (full w) := r.mono H.sat.le
theorem Pow.tab {h : FH} {w : World} (r : Pow h) (hs : Sat h w) : Lib.TabIs Tryd.prog w "internal/strconv.uint64pow10" .u64 Lib.pow10Tab := by
  obtain ⟨T, fr, e⟩ := r
  have hg : Program.globalNamed Tryd.prog "internal/strconv.uint64pow10" = some 0 := by kernel_rfl
  unfold Lib.TabIs World.var?
  rw [hg]
  show (match w.heap[(0 : Nat)]? with | some (.cells cs _ _) => some cs | _ => none) = _
  rw [hs _ _ e]
  rfl
theorem str_small (i : Nat) (h : i < 100) (w : World) : SpecV Tryd.prog 146 #[.int .i64 i] w (.string (bstr (Lib.decDigits i))) :=
  Calls.mono (Tryd.internal_strconv_small i h w) fun e w' ⟨h1, h2⟩ => ⟨_, h1, rfl, by subst h2; exact Fr.refl _ _⟩
theorem str_num (u : Nat) (h1 : 1 ≤ u) (h2 : u < 18446744073709551616) (h : FH) (w : World) (hs : Sat h w) (hT : Pow h) : SpecV Tryd.prog 147 #[.int .u64 u] w (.int .i64 (Lib.nDigits u)) :=
  Calls.mono (Tryd.internal_strconv_numDigits u h1 h2 w (hT.tab hs)) fun e w' ⟨h1, h2⟩ => ⟨_, h1, rfl, by subst h2; exact Fr.refl _ _⟩
theorem nDig20 {u : Nat} (h1 : 1 ≤ u) (h2 : u < 18446744073709551616) : Lib.nDigits u ≤ 20 := by
  have := Lib.numDigits_eq u h1 h2
  split at this <;> omega
theorem putRow_heap {w : World} {b n : Nat} {dk : Array UInt8} {l : List Value} {T : TypeId} (hb : w.heap[b]? = some (.cells l.toArray T (0, 0))) :
    ((Go.Sort.putRow (fun (x : UInt8) => Value.int .u8 (x.toNat : Int)) w b 0 dk).drewN n).heap[b]? = some (.cells (Go.Sort.putCells (fun (x : UInt8) => Value.int .u8 (x.toNat : Int)) 0 dk l.toArray) T (0, 0)) := by
  show (w.heap.modify b _)[b]? = _
  rw [Array.getElem?_modify, if_pos rfl, hb]; rfl
theorem fmt10 (b u : Nat) (T : TypeId) (g : FH) (w : World) (HO : St w [b] g g [.blk b (.cells (List.replicate 24 (Value.int .u8 0)).toArray T (0, 0))] w) (h1 : 1 ≤ u) (hu : u < 18446744073709551616) :
    Spec Tryd.prog 148 #[.slice (some ⟨b, 0, none⟩) (Lib.nDigits u) 24, .int .u64 u] w [b] g (fun v' h' L' => v' = .tuple #[] ∧ h' = g ∧ ∃ l : List Value, l.length = 24 ∧ l.take (Lib.decDigits u).length = cB (Lib.decDigits u) ∧ L' = [.blk b (.cells l.toArray T (0, 0))]) := by
  have hb := HO.blk (i := 0) rfl
  have h20 := nDig20 h1 hu
  have hH : Go.Sort.Holds (fun (x : UInt8) => Value.int .u8 (x.toNat : Int)) w b 0 (Array.replicate (Lib.nDigits u) 0) := by
    intro j hj
    rw [Array.size_replicate] at hj
    have hd : (Array.replicate (Lib.nDigits u) (0 : UInt8))[j]! = 0 := by
      rw [getElem!_pos _ j (by rw [Array.size_replicate]; exact hj)]; simp
    refine ⟨?_, frozen_of_row w b (0 + j) _ T hb⟩
    rw [hd, cell_of_row w b (0 + j) _ T _ hb]
    rw [List.getElem?_toArray, List.getElem?_replicate, if_pos (by omega)]; rfl
  have := Tryd.internal_strconv_formatBase10 b 0 24 u (Array.replicate (Lib.nDigits u) 0) w hH (by rw [Array.size_replicate]; exact Lib.lt_pow_nDigits u) hu (by rw [Array.size_replicate]; omega)
  rw [Array.size_replicate] at this
  refine Calls.mono this fun e w' ⟨h3, n, v', dk, h4, h5⟩ => ?_
  have hx := putRow_heap (n := n) (dk := dk) hb
  have hsz := h5.size
  have hl := Lib.decDigits_length u
  have hnum := fun i hi => Lib.row_is_numeral h5 i hi
  have hc1 : (Go.Sort.putCells (fun (x : UInt8) => Value.int .u8 (x.toNat : Int)) 0 dk (List.replicate 24 (Value.int .u8 0)).toArray).toList.length = 24 := by simp [Go.Sort.putCells]
  have hc2 : ∀ i : Nat, i < Lib.nDigits u → (Go.Sort.putCells (fun (x : UInt8) => Value.int .u8 (x.toNat : Int)) 0 dk (List.replicate 24 (Value.int .u8 0)).toArray).toList[i]? = some (Value.int .u8 ((dk[i]!).toNat : Int)) := by
    intro i hi
    rw [Array.getElem?_toList]
    unfold Go.Sort.putCells
    rw [Array.getElem?_mapIdx, List.getElem?_toArray, List.getElem?_replicate, if_pos (by omega)]
    simp only [Option.map_some]
    rw [if_pos (by omega)]; rfl
  rw [← Array.toArray_toList (xs := Go.Sort.putCells (fun (x : UInt8) => Value.int .u8 (x.toNat : Int)) 0 dk (List.replicate 24 (Value.int .u8 0)).toArray)] at hx
  generalize (Go.Sort.putCells (fun (x : UInt8) => Value.int .u8 (x.toNat : Int)) 0 dk (List.replicate 24 (Value.int .u8 0)).toArray).toList = l at hx hc1 hc2
  have hF : Fr [b] w w' := by
    subst h4
    refine ⟨rfl, rfl, rfl, ?_, ?_⟩
    · show w.heap.size ≤ (w.heap.modify b _).size
      rw [Array.size_modify]; exact Nat.le_refl _
    · intro k hk hS
      show (w.heap.modify b _)[k]? = _
      rw [Array.getElem?_modify, if_neg fun e => hS (by simp [e])]
  rw [← h4] at hx
  have hS := HO.repl (i := 0) (A' := .blk b (.cells l.toArray T (0, 0))) rfl hF hx (by simp [HA.fp])
  refine ⟨_, h3, g, _, hS, rfl, rfl, l, hc1, ?_, rfl⟩
  apply List.ext_getElem?
  intro i
  by_cases hi : i < Lib.nDigits u
  · rw [List.getElem?_take, if_pos (by omega), hc2 i hi, cB_get (by omega), hnum i (by omega)]; rfl
  · rw [List.getElem?_eq_none (by rw [List.length_take]; omega), List.getElem?_eq_none (by rw [cB_len]; omega)]
end Go.Tg

set_option linter.unusedVariables false
set_option linter.unusedSimpArgs false
set_option maxRecDepth 100000
set_option maxHeartbeats 4000000
namespace Go.Tg
open Go Go.Proofs
theorem wrap_i64 {n : Nat} (h : n < 9223372036854775808) : IntKind.i64.wrap (n : Int) = n := by
  simp [IntKind.wrap, IntKind.bits, IntKind.signed]; omega
theorem fmt_uint (n : Nat) (hn : n < 18446744073709551616) (h0 : FH) (w : World) (hs : Sat h0 w) (hT : Pow h0) : SpecV Tryd.prog 136 #[.int .u64 n, .int .i64 10] w (.string (bstr (Lib.decDigits n))) := by
  have H := St.start hs
  unfold SpecV
  refine calls_of Tryd.func136 rfl Tryd.ntmps136 (by simp) ?_
  by_cases hlt : n < 100
  · have hw := wrap_i64 (n := n) (by omega)
    repeat' (first | ((first | refine WL.p rfl ?_ | refine WL.u ?_); first | (refine opk 1 rfl ?_; (refine ost_V H rfl (str_small n hlt _) rfl ?_; clear H; intro wk H)) | (refine opk 6 rfl ?_; (refine ost_conv rfl rfl ?_; rw [hw])) | refine pvQ ?_ | (refine opk 3 rfl ?_; (refine ost_cmp rfl rfl rfl rfl (fun hc => ?_) (fun hc => ?_) <;> (simp only [cmpP] at hc; try exact prIQ))) | (refine opk 4 rfl ?_; (refine ost_cmp rfl rfl rfl rfl (fun hc => ?_) (fun hc => ?_) <;> (simp only [cmpP] at hc; try exact prIQ))) | (refine opk 9 rfl ?_; (refine ost_allocA H rfl ?_; clear H; intro bk wk H))) | refine Wc.seq ?_ | refine then_n ?_ | refine WL.nil ?_ | refine Wc.region ?_ | refine Wc.block ?_ | refine then_r ?_ | refine then_e ?_ | refine inb_e rfl ?_ | refine inb_o rfl ?_ | refine inb_n ?_ | refine inb_r ?_ | refine Wc.skip ?_ | refine Wc.exit ?_ | refine Wc.ret ?_ | refine Wc.cond_true rfl ?_ | refine Wc.cond_false rfl ?_)
    exact fn_ret1 (v := .string _) rfl rfl ⟨rfl, H.fr⟩
  · have h1 : 1 ≤ n := by omega
    have h20 := nDig20 h1 hn
    have hl := Lib.decDigits_length n
    repeat' (first | ((first | refine WL.p rfl ?_ | refine WL.u ?_); first | (refine opk 1 rfl ?_; (refine ost_V H rfl (str_num n h1 hn _ _ H.sat hT) rfl ?_; clear H; intro wk H)) | refine pvQ ?_ | (refine opk 3 rfl ?_; (refine ost_cmp rfl rfl rfl rfl (fun hc => ?_) (fun hc => ?_) <;> (simp only [cmpP] at hc; try exact prIQ))) | (refine opk 4 rfl ?_; (refine ost_cmp rfl rfl rfl rfl (fun hc => ?_) (fun hc => ?_) <;> (simp only [cmpP] at hc; try exact prIQ))) | (refine opk 9 rfl ?_; (refine ost_allocA H rfl ?_; clear H; intro bk wk H))) | refine Wc.seq ?_ | refine then_n ?_ | refine WL.nil ?_ | refine Wc.region ?_ | refine Wc.block ?_ | refine then_r ?_ | refine then_e ?_ | refine inb_e rfl ?_ | refine inb_o rfl ?_ | refine inb_n ?_ | refine inb_r ?_ | refine Wc.skip ?_ | refine Wc.exit ?_ | refine Wc.ret ?_ | refine Wc.cond_true rfl ?_ | refine Wc.cond_false rfl ?_)
    obtain ⟨b, eb⟩ := H.nameB idx0
    subst eb
    replace H : St w [] h0 h0 [.blk b (.cells (List.replicate 24 (Value.int .u8 0)).toArray 221 (0, 0))] wk := H
    repeat' (first | ((first | refine WL.p rfl ?_ | refine WL.u ?_); first | (refine opk 1 rfl ?_; (refine ost_H (A := HA.blk _ _) H rfl (by (exact ixQ)) (fun HO => fmt10 b n _ _ _ HO h1 hn) rfl ?_; clear H; rintro vk wk hfk Lk ⟨rfl, e9, l, hl1, hl2, rfl⟩ hle H; simp only [List.cons_append, List.nil_append, List.eraseIdx_cons_zero, List.eraseIdx_cons_succ] at H)) | refine pvQ ?_ | (refine opk 3 rfl ?_; (refine ost_cmp rfl rfl rfl rfl (fun hc => ?_) (fun hc => ?_) <;> (simp only [cmpP] at hc; try exact prIQ))) | (refine opk 4 rfl ?_; (refine ost_cmp rfl rfl rfl rfl (fun hc => ?_) (fun hc => ?_) <;> (simp only [cmpP] at hc; try exact prIQ))) | (refine opk 9 rfl ?_; (refine ost_allocA H rfl ?_; clear H; intro bk wk H))) | refine Wc.seq ?_ | refine then_n ?_ | refine WL.nil ?_ | refine Wc.region ?_ | refine Wc.block ?_ | refine then_r ?_ | refine then_e ?_ | refine inb_e rfl ?_ | refine inb_o rfl ?_ | refine inb_n ?_ | refine inb_r ?_ | refine Wc.skip ?_ | refine Wc.exit ?_ | refine Wc.ret ?_ | refine Wc.cond_true rfl ?_ | refine Wc.cond_false rfl ?_)
    subst e9
    obtain ⟨h7, hle7, hb7, H⟩ := H.freezeB
    have hB : BS h7 (some ⟨b, 0, none⟩) 24 (Lib.decDigits n) := ⟨.inr ⟨b, 0, l, _, _, rfl, hb7, by rw [List.drop_zero, cB_len]; exact hl2⟩, by omega, by decide, by simp⟩
    repeat' (first | ((first | refine WL.p rfl ?_ | refine WL.u ?_); first | (refine opk 6 rfl ?_; (refine ost_toStrN (xs := Lib.decDigits n) rfl rfl (by first | rfl | (simp; omega)) (hB.mono H.sat.le) ?_)) | refine pvQ ?_ | (refine opk 3 rfl ?_; (refine ost_cmp rfl rfl rfl rfl (fun hc => ?_) (fun hc => ?_) <;> (simp only [cmpP] at hc; try exact prIQ))) | (refine opk 4 rfl ?_; (refine ost_cmp rfl rfl rfl rfl (fun hc => ?_) (fun hc => ?_) <;> (simp only [cmpP] at hc; try exact prIQ))) | (refine opk 9 rfl ?_; (refine ost_allocA H rfl ?_; clear H; intro bk wk H))) | refine Wc.seq ?_ | refine then_n ?_ | refine WL.nil ?_ | refine Wc.region ?_ | refine Wc.block ?_ | refine then_r ?_ | refine then_e ?_ | refine inb_e rfl ?_ | refine inb_o rfl ?_ | refine inb_n ?_ | refine inb_r ?_ | refine Wc.skip ?_ | refine Wc.exit ?_ | refine Wc.ret ?_ | refine Wc.cond_true rfl ?_ | refine Wc.cond_false rfl ?_)
    exact fn_ret1 (v := .string _) rfl rfl ⟨rfl, H.fr⟩
theorem fmt_pub (n : Nat) (hn : n < 18446744073709551616) (h0 : FH) (w : World) (hs : Sat h0 w) (hT : Pow h0) : SpecV Tryd.prog 109 #[.int .u64 n, .int .i64 10] w (.string (bstr (Lib.decDigits n))) := by
  have H := St.start hs
  unfold SpecV
  refine calls_of Tryd.func109 rfl Tryd.ntmps109 (by simp) ?_
  repeat' (first | ((first | refine WL.p rfl ?_ | refine WL.u ?_); first | (refine opk 1 rfl ?_; (refine ost_V H rfl (fmt_uint n hn _ _ H.sat hT) rfl ?_; clear H; intro wk H)) | refine pvQ ?_) | refine Wc.seq ?_ | refine then_n ?_ | refine WL.nil ?_ | refine Wc.region ?_ | refine Wc.block ?_ | refine then_r ?_ | refine then_e ?_ | refine inb_e rfl ?_ | refine inb_o rfl ?_ | refine inb_n ?_ | refine inb_r ?_ | refine Wc.skip ?_ | refine Wc.exit ?_ | refine Wc.ret ?_ | refine Wc.cond_true rfl ?_ | refine Wc.cond_false rfl ?_)
  exact fn_ret1 (v := .string _) rfl rfl ⟨rfl, H.fr⟩
def segW (n : Nat) : List UInt8 := [115, 101, 103, 45] ++ Lib.decDigits n
def baseW (n : Nat) : List UInt8 := [98, 97, 115, 101, 45] ++ Lib.decDigits n
theorem dec_len {n : Nat} (hn : n < 4294967296) : (Lib.decDigits n).length ≤ 20 := by
  rw [Lib.decDigits_length]
  by_cases h : 1 ≤ n
  · exact nDig20 h (by omega)
  · have : n = 0 := by omega
    subst this
    rw [Lib.nDigits_small (by decide)]; decide
theorem man_name (k : List UInt8) (n : UInt32) (hk : k.length ≤ 100) (h0 : FH) (w : World) (hs : Sat h0 w) (hT : Pow h0) : SpecV Tryd.prog 108 #[.string (bstr k), .int .u32 n.toNat] w (.string (bstr (k ++ [45] ++ Lib.decDigits n.toNat))) := by
  have H := St.start hs
  have hn := n.toNat_lt
  have hl := dec_len hn
  unfold SpecV
  refine calls_of Tryd.func108 rfl Tryd.ntmps108 (by simp) ?_
  repeat' (first | ((first | refine WL.p rfl ?_ | refine WL.u ?_); first | (refine opk 1 rfl ?_; (refine ost_V H rfl (fmt_pub n.toNat (by omega) _ _ H.sat hT) rfl ?_; clear H; intro wk H)) | (refine opk 5 rfl ?_; first | (refine ost_straddB (a := k) (b := [45]) rfl rfl rfl (by simp; omega) ?_) | (refine ost_straddB (a := k ++ [45]) (b := Lib.decDigits n.toNat) rfl rfl rfl (by simp; omega) ?_)) | refine pvQ ?_) | refine Wc.seq ?_ | refine then_n ?_ | refine WL.nil ?_ | refine Wc.region ?_ | refine Wc.block ?_ | refine then_r ?_ | refine then_e ?_ | refine inb_e rfl ?_ | refine inb_o rfl ?_ | refine inb_n ?_ | refine inb_r ?_ | refine Wc.skip ?_ | refine Wc.exit ?_ | refine Wc.ret ?_ | refine Wc.cond_true rfl ?_ | refine Wc.cond_false rfl ?_)
  exact fn_ret1 (v := .string _) rfl rfl ⟨rfl, H.fr⟩
theorem man_SegName (n : UInt32) (h0 : FH) (w : World) (hs : Sat h0 w) (hT : Pow h0) : SpecV Tryd.prog 57 #[.int .u32 n.toNat] w (.string (bstr (segW n.toNat))) := by
  have H := St.start hs
  unfold SpecV
  refine calls_of Tryd.func57 rfl Tryd.ntmps57 (by simp) ?_
  repeat' (first | ((first | refine WL.p rfl ?_ | refine WL.u ?_); first | (refine opk 1 rfl ?_; (refine ost_V H rfl (man_name [115, 101, 103] n (by decide) _ _ H.sat hT) rfl ?_; clear H; intro wk H)) | refine pvQ ?_) | refine Wc.seq ?_ | refine then_n ?_ | refine WL.nil ?_ | refine Wc.region ?_ | refine Wc.block ?_ | refine then_r ?_ | refine then_e ?_ | refine inb_e rfl ?_ | refine inb_o rfl ?_ | refine inb_n ?_ | refine inb_r ?_ | refine Wc.skip ?_ | refine Wc.exit ?_ | refine Wc.ret ?_ | refine Wc.cond_true rfl ?_ | refine Wc.cond_false rfl ?_)
  exact fn_ret1 (v := .string _) rfl rfl ⟨rfl, H.fr⟩
theorem man_BaseName (n : UInt32) (h0 : FH) (w : World) (hs : Sat h0 w) (hT : Pow h0) : SpecV Tryd.prog 59 #[.int .u32 n.toNat] w (.string (bstr (baseW n.toNat))) := by
  have H := St.start hs
  unfold SpecV
  refine calls_of Tryd.func59 rfl Tryd.ntmps59 (by simp) ?_
  repeat' (first | ((first | refine WL.p rfl ?_ | refine WL.u ?_); first | (refine opk 1 rfl ?_; (refine ost_V H rfl (man_name [98, 97, 115, 101] n (by decide) _ _ H.sat hT) rfl ?_; clear H; intro wk H)) | refine pvQ ?_) | refine Wc.seq ?_ | refine then_n ?_ | refine WL.nil ?_ | refine Wc.region ?_ | refine Wc.block ?_ | refine then_r ?_ | refine then_e ?_ | refine inb_e rfl ?_ | refine inb_o rfl ?_ | refine inb_n ?_ | refine inb_r ?_ | refine Wc.skip ?_ | refine Wc.exit ?_ | refine Wc.ret ?_ | refine Wc.cond_true rfl ?_ | refine Wc.cond_false rfl ?_)
  exact fn_ret1 (v := .string _) rfl rfl ⟨rfl, H.fr⟩
end Go.Tg

