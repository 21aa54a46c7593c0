/- Contracts of Go functions that the laws reach: what each call answers and leaves in memory, for all arguments within the bounds that each theorem names. -/
import Derived.Test.YtajfhoeejeadkaaDoorInst
import Derived.Test.YtajfhoeejeadkaaDoorAuto
import Derived.Test.YtajfhoeejeadkaaDoorF2
import Derived.Test.YtajfhoeejeadkaaDoorChn
import Derived.Test.YtajfhoeejeadkaaDoorDrw
set_option linter.unusedVariables false
set_option linter.unusedSimpArgs false
set_option maxRecDepth 100000
set_option maxHeartbeats 4000000
namespace Go.Tg
open Go Go.Proofs
def B64 (l : List Nat) : Prop := ∀ n, n ∈ l → n < 18446744073709551616
theorem putB_pos (n : Nat) : 0 < (putB n).length := by
  unfold putB putL; split <;> simp
theorem numsB_pos (n : Nat) (l : List Nat) : 0 < (numsB (n :: l)).length := by
  have := putB_pos n
  rw [numsB_cons, List.length_append]; omega
theorem numsB_tail {a ns : List Nat} {r : List UInt8} (ha : B64 a) (hn : B64 ns) (h : numsB ns = numsB a ++ r) : ∃ b, ns = a ++ b ∧ numsB b = r := by
  induction a generalizing ns with
  | nil => exact ⟨ns, rfl, h⟩
  | cons x a ih =>
    cases ns with
    | nil =>
      have h1 := congrArg List.length h
      have h2 := numsB_pos x a
      rw [List.length_append, numsB_nil, List.length_nil] at h1
      omega
    | cons y ns =>
      rw [numsB_cons, numsB_cons, List.append_assoc] at h
      obtain ⟨h1, h2⟩ := putB_app_inj (hn y (by simp)) (ha x (by simp)) h
      obtain ⟨b, e1, e2⟩ := ih (fun n hx => ha n (by simp [hx])) (fun n hx => hn n (by simp [hx])) h2
      exact ⟨b, by rw [e1, h1]; rfl, e2⟩
theorem numsB_inj {a b : List Nat} (ha : B64 a) (hb : B64 b) (h : numsB a = numsB b) : a = b := by
  obtain ⟨c, e1, e2⟩ := numsB_tail (r := []) ha hb (by rw [List.append_nil]; exact h.symm)
  cases c with
  | nil => rw [e1, List.append_nil]
  | cons x c =>
    have := numsB_pos x c
    rw [e2] at this; simp at this
end Go.Tg

set_option linter.unusedVariables false
set_option linter.unusedSimpArgs false
set_option maxRecDepth 100000
set_option maxHeartbeats 8000000
namespace Go.Tg
open Go Go.Proofs
def n32 (l : List UInt32) : List Nat := l.map fun x => x.toNat
def fldM (m : ManT) : List UInt8 := putB m.ver.toNat ++ fieldB (encV m.flr) ++ putB m.base.toNat ++ putB m.segs.length ++ numsB (n32 (m.segs ++ [m.next]))
def encM (m : ManT) : List UInt8 := wrapB (fldM m)
noncomputable def outM (m : ManT) : List UInt8 × Int := if rightM m = true then (encM m, 0) else ([], 2)
theorem cKid_one (l : List UInt32) : ∀ u ∈ (l.map cKid).flatten, u.oneCell' = true := by
  intro u hu
  obtain ⟨r, h1, h2⟩ := List.mem_flatten.1 hu
  obtain ⟨x, -, rfl⟩ := List.mem_map.1 h1
  simp [cKid] at h2
  subst h2; rfl
theorem clone32 (n : Nat) (h0 : FH) (a : Option Addr) (c : Nat) (xs : List UInt32) (w : World) (hs : Sat h0 w) (hn : n = (xs.map cKid).length) (hP : Sl h0 1 a c (xs.map cKid)) (hx : 0 < xs.length) (hb : xs.length ≤ 1000000) :
    Spec Tryd.prog 91 #[.slice a n c] w [] h0 (fun v h' L' => ∃ a' c', v = .slice a' n c' ∧ h' = h0 ∧ L' = [.own v 28 1 n (xs.map cKid).flatten]) := by
  subst hn
  have H := St.start hs
  have hl : (xs.map cKid).length = xs.length := List.length_map ..
  obtain ⟨b', off, l, T, fr, e1, eb, eg⟩ := hP.getM (by decide) hx
  subst e1
  have hone := cKid_one xs
  unfold Spec
  refine calls_of Tryd.func91 rfl Tryd.ntmps91 (by simp) ?_
  repeat' (first | ((first | refine WL.p rfl ?_ | refine WL.u ?_); first | (refine opk 1 rfl ?_; (refine ost_appRs (rows := []) (more := xs.map cKid) H rfl rfl rfl (by (exact ixQ)) (hP.full H) (by rfl) (by decide) hone rfl (by simp only [List.length_nil]; omega) ?_; clear H; intro aa ca wk H; simp only [List.set_cons_zero, List.nil_append] at H)) | refine pvQ ?_ | (refine opk 3 rfl ?_; first | (refine ost_slEq rfl rfl rfl (fun hc => ?_) (fun hc => ?_) <;> try (simp at hc; done)) | (refine ost_slNe rfl rfl rfl (fun hc => ?_) (fun hc => ?_) <;> try (simp at hc; done))) | (refine opk 9 rfl ?_; (refine ost_build1 H rfl rfl rfl evQ lsQ rfl ?_; clear H; intro bk wk H))) | refine Wc.seq ?_ | refine then_n ?_ | refine WL.nil ?_ | refine Wc.region ?_ | refine Wc.block ?_ | refine then_r ?_ | refine then_e ?_ | refine inb_e rfl ?_ | refine inb_o rfl ?_ | refine inb_n ?_ | refine inb_r ?_ | refine Wc.skip ?_ | refine Wc.exit ?_ | refine Wc.ret ?_ | refine Wc.cond_true rfl ?_ | refine Wc.cond_false rfl ?_)
  exact fn_ret1 (v := .slice _ _ _) rfl rfl ⟨_, _, H.pick 0 rfl, _, _, rfl, rfl, rfl⟩
end Go.Tg

set_option linter.unusedVariables false
set_option linter.unusedSimpArgs false
set_option maxRecDepth 100000
set_option maxHeartbeats 8000000
namespace Go.Tg
open Go Go.Proofs
theorem flat32 (l : List UInt32) : (l.map cKid).flatten.length = l.length := by
  induction l with
  | nil => rfl
  | cons x l ih => simp only [List.map_cons, List.flatten_cons, List.length_append, ih, List.length_cons]; simp [cKid]; omega
theorem flat32_snoc (l : List UInt32) (x : UInt32) : (l.map cKid).flatten ++ [Value.int .u32 x.toNat] = ((l ++ [x]).map cKid).flatten := by simp [cKid]
theorem St.freezeRn {ws w : World} {S : List Nat} {h0 h : FH} {L : List HA} {e : TypeId} {v : Value} {sz n : Nat} {rows : List (List Value)} (H : St ws S h0 h (.own v e sz n rows.flatten :: L) w) (hn : n = rows.length) (hr : ∀ r, r ∈ rows → r.length = sz) : ∃ a c h', v = .slice a n c ∧ FLe h h' ∧ Sl h' sz a c rows ∧ St ws S h0 h' L w := by
  subst hn; exact H.freezeR hr
theorem n32_step (l : List UInt32) {k : Nat} (h : k < l.length) : numsB (n32 (l.take (k + 1))) = numsB (n32 (l.take k)) ++ putB l[k].toNat := by
  rw [List.take_add_one, List.getElem?_eq_getElem h]
  unfold n32
  rw [List.map_append, numsB_app]; simp [numsB]
theorem n32_len (l : List UInt32) : (numsB (n32 l)).length ≤ 11 * l.length := by
  have := numsB_len (n32 l)
  unfold n32 at this ⊢
  rw [List.length_map] at this; exact this
def pi8 (W B : HA) (n : Nat) (cs : List Value) (x : Value) : PiX := fun vs dn L => match dn 2, dn 5, dn 6 with
  | false, false, false => L = [W, B]
  | true, false, false => (∃ a c, vs 2 = .slice a n c) ∧ L = [.own (vs 2) 28 1 n cs, W, B]
  | false, true, false => (∃ b, vs 5 = .slice (some ⟨b, 0, none⟩) 1 1) ∧ L = [.own (vs 5) 28 1 1 [x], W, B]
  | true, true, false => (∃ a c, vs 2 = .slice a n c) ∧ (∃ b, vs 5 = .slice (some ⟨b, 0, none⟩) 1 1) ∧ L = [.own (vs 2) 28 1 n cs, .own (vs 5) 28 1 1 [x], W, B]
  | true, true, true => (∃ a c, vs 6 = .slice a (n + 1) c) ∧ L = [.own (vs 6) 28 1 (n + 1) (cs ++ [x]), W, B]
  | _, _, _ => False
theorem pi8_B {W B : HA} {n : Nat} {cs : List Value} {x : Value} {vs : Nat → Value} {dn : Nat → Bool} {L : List HA} (h : pi8 W B n cs x vs dn L) : ∃ i : Nat, L[i]? = some B := by
  unfold pi8 at h
  split at h
  · subst h; exact ⟨1, rfl⟩
  · obtain ⟨-, rfl⟩ := h; exact ⟨2, rfl⟩
  · obtain ⟨-, rfl⟩ := h; exact ⟨2, rfl⟩
  · obtain ⟨-, -, rfl⟩ := h; exact ⟨3, rfl⟩
  · obtain ⟨-, rfl⟩ := h; exact ⟨2, rfl⟩
  · exact h.elim
theorem pi8_2 {W B : HA} {n : Nat} {cs : List Value} {x : Value} {vs : Nat → Value} {dn : Nat → Bool} {L : List HA} (h : pi8 W B n cs x vs dn L) (h1 : dn 2 = false) {v : Value} {a : Option Addr} {c : Nat} (hv : v = .slice a n c) :
    pi8 W B n cs x (fun q => if q = 2 then v else vs q) (fun q => q == 2 || dn q) (.own v 28 1 n cs :: L) := by
  unfold pi8 at h ⊢
  rw [h1] at h
  cases h5 : dn 5 <;> cases h6 : dn 6 <;> rw [h5, h6] at h
  · subst h; simp [h6, h5]; exact ⟨a, c, hv⟩
  · exact h.elim
  · obtain ⟨hb, rfl⟩ := h; simp [h6, h5]; exact ⟨⟨a, c, hv⟩, hb⟩
  · exact h.elim
theorem pi8_5 {W B : HA} {n : Nat} {cs : List Value} {x : Value} {vs : Nat → Value} {dn : Nat → Bool} {L : List HA} (h : pi8 W B n cs x vs dn L) (h1 : dn 5 = false) {v : Value} {b : Nat} (hv : v = .slice (some ⟨b, 0, none⟩) 1 1) :
    ∃ L', pi8 W B n cs x (fun q => if q = 5 then v else vs q) (fun q => q == 5 || dn q) L' ∧ ∀ {ws w : World} {S : List Nat} {h0 h : FH}, St ws S h0 h (.own v 28 1 1 [x] :: L) w → St ws S h0 h L' w := by
  unfold pi8 at h ⊢
  rw [h1] at h
  cases h2 : dn 2 <;> cases h6 : dn 6 <;> rw [h2, h6] at h
  · subst h; exact ⟨_, by simp [h6, h2]; exact ⟨b, hv⟩, fun H => H⟩
  · exact h.elim
  · obtain ⟨hb, rfl⟩ := h; exact ⟨_, by simp [h6, h2]; exact ⟨hb, ⟨b, hv⟩, rfl⟩, fun H => H.picks [1, 0, 2, 3] rfl (by decide)⟩
  · exact h.elim
theorem pi8_6 {W B : HA} {n : Nat} {cs : List Value} {x : Value} {vs : Nat → Value} {dn : Nat → Bool} {L : List HA} (h : pi8 W B n cs x vs dn L) (h1 : dn 6 = false) (h2 : dn 2 = true) (h5 : dn 5 = true) :
    (∃ a c, vs 2 = .slice a n c) ∧ (∃ b, vs 5 = .slice (some ⟨b, 0, none⟩) 1 1) ∧ L = [.own (vs 2) 28 1 n cs, .own (vs 5) 28 1 1 [x], W, B] := by
  unfold pi8 at h
  rw [h1, h2, h5] at h; exact h
theorem pi8_end {W B : HA} {n : Nat} {cs : List Value} {x : Value} {vs : Nat → Value} {dn : Nat → Bool} {L : List HA} (h : pi8 W B n cs x vs dn L) (h6 : dn 6 = true) : (∃ a c, vs 6 = .slice a (n + 1) c) ∧ L = [.own (vs 6) 28 1 (n + 1) (cs ++ [x]), W, B] := by
  unfold pi8 at h
  rw [h6] at h
  cases h2 : dn 2 <;> cases h5 : dn 5 <;> rw [h2, h5] at h
  · exact h.elim
  · exact h.elim
  · exact h.elim
  · exact h
theorem pi8_new {W B : HA} {n : Nat} {cs : List Value} {x : Value} {vs : Nat → Value} {dn : Nat → Bool} (h2 : dn 2 = true) (h5 : dn 5 = true) {v : Value} {a : Option Addr} {c : Nat} (hv : v = .slice a (n + 1) c) :
    pi8 W B n cs x (fun q => if q = 6 then v else vs q) (fun q => q == 6 || dn q) [.own v 28 1 (n + 1) (cs ++ [x]), W, B] := by
  unfold pi8
  simp [h2, h5]; exact ⟨a, c, hv⟩
theorem man_Encode (m : ManT) (A : MAd) (h0 : FH) (w : World) (hs : Sat h0 w) (hT : Half h0) (hP : MnR h0 m A) :
    Spec Tryd.prog 46 #[.agg (mnV m A).toArray] w [] h0 (fun v h' L' => ∃ a' c', v = .tuple #[.slice a' (outM m).1.length c', .int .i64 (outM m).2] ∧ L' = [own8 (.slice a' (outM m).1.length c') 5 (outM m).1]) := by
  have H := St.start hs
  have hR := man_Right m A h0
  have hI := @rightM_iff m
  have hF : ∀ q, rightM m = q → outM m = if q = true then (encM m, 0) else ([], 2) := fun q h => by unfold outM; rw [h]
  generalize rightM m = q at hR hF hI
  rw [hF q rfl]
  clear hF
  obtain ⟨ver, flr, base, segs, next⟩ := m
  obtain ⟨a, c⟩ := A
  rw [show mnV ⟨ver, flr, base, segs, next⟩ ⟨a, c⟩ = mnL ver flr base segs.length next a c from rfl] at hR ⊢
  have lm := mnL_len ver flr base segs.length next a c
  have qf := mnL_flr ver flr base segs.length next a c
  have q17 := mnL_17 ver flr base segs.length next a c
  have q18 := mnL_18 ver flr base segs.length next a c
  have q19 := mnL_19 ver flr base segs.length next a c
  have q0 : (mnL ver flr base segs.length next a c)[0 + 0]? = some (.int .u64 ver.toNat) := rfl
  have lf := cV_len flr
  have u0 := ver.toNat_lt; have u1 := base.toNat_lt; have u2 := next.toNat_lt
  have hMn := hP
  have hP : Sl h0 1 a c (segs.map cKid) := hP
  have qc := hP.lenM
  unfold Spec
  refine calls_of Tryd.func46 rfl Tryd.ntmps46 (by simp) ?_
  cases q with
  | false =>
    repeat' (first | ((first | refine WL.p rfl ?_ | refine WL.u ?_); first | (refine opk 1 rfl ?_; (refine ost_V H rfl (hR _ H.sat hMn) rfl ?_; clear H; intro wk H)) | refine pvQ ?_ | (refine opk 3 rfl ?_; (refine ost_cmp rfl rfl rfl rfl (fun hc => ?_) (fun hc => ?_) <;> (simp only [cmpP] at hc; try exact prIQ))) | (refine opk 4 rfl ?_; (refine ost_cmp rfl rfl rfl rfl (fun hc => ?_) (fun hc => ?_) <;> (simp only [cmpP] at hc; try exact prIQ))) | (refine opk 9 rfl ?_; first | (refine ost_boxq H rfl ?_; clear H; intro bk wk H) | (refine ost_build1 H rfl rfl rfl evQ lsQ rfl ?_; clear H; intro bk wk H))) | refine Wc.seq ?_ | refine then_n ?_ | refine WL.nil ?_ | refine Wc.region ?_ | refine Wc.block ?_ | refine then_r ?_ | refine then_e ?_ | refine inb_e rfl ?_ | refine inb_o rfl ?_ | refine inb_n ?_ | refine inb_r ?_ | refine Wc.skip ?_ | refine Wc.exit ?_ | refine Wc.ret ?_ | refine Wc.cond_true rfl ?_ | refine Wc.cond_false rfl ?_ | (refine Wc.drawn (id := 8) 9 (by kernel_rfl) ?_) | (refine rgs_nil ?_; intro vs wk hE; replace H := H.ext hE; clear hE) | (refine RGs.bq (fun _ => rfl) rfl (by intro vs w hE hP; have H := H.ext hE; first | exact dbQ | fail) (fun hc => ?_) (fun hc => ?_) <;> ((try simp only [cmpP, decide_eq_true_eq, decide_eq_false_iff_not, dcd_iff, dcd_no] at hc); try exact prDQ)) | refine RGs.pq (fun _ => rfl) rfl (by intro vs w hE hP; have H := H.ext hE; first | exact dvQ | fail) ?_)
    exact fn_ret2 (v1 := .slice _ _ _) (v2 := .int _ _) rfl rfl rfl ⟨_, _, (H.nil8 5).pick 0 rfl, _, _, rfl, rfl⟩
  | true =>
    obtain ⟨⟨c1, c2, c3, c4, c5, c6⟩, has⟩ := hI.1 rfl
    dsimp only at c1 c2 c3
    clear c4 c5 c6 has hI
    rw [if_pos rfl]
    dsimp only
    have p1 := putB_len ver.toNat; have p2 := putB_len base.toNat; have p3 := putB_len segs.length
    have p4 := encV_len flr
    have p5 := fieldB_len' (encV flr)
    repeat' (first | ((first | refine WL.p rfl ?_ | refine WL.u ?_); first | (refine opk 1 rfl ?_; first | (refine ost_V H rfl (hR _ H.sat hMn) rfl ?_; clear H; intro wk H) | (refine ost_C H rfl (pack_New _ _ (sat_full _)) rfl ?_; clear H; rintro vk wk hfk Lk ⟨b1, rfl, rfl⟩ H; simp only [List.cons_append, List.nil_append] at H) | (refine ost_O (A := wr _ _ _ _ _) H rfl (by (exact ixQ)) (fun HO => pack_NumK _ _ _ _ _ HO ver.toNat (by omega) (by decide)) rfl ?_; clear H; rintro vk wk hfk Lk ⟨rfl, v3, rfl⟩ H; simp only [List.cons_append, List.nil_append, List.eraseIdx_cons_zero, List.eraseIdx_cons_succ] at H) | (refine ost_C H rfl (vec_Encode _ flr _ (sat_full _)) rfl ?_; clear H; rintro vk wk hfk Lk ⟨a1, c1, rfl, _, rfl⟩ H; simp only [List.cons_append, List.nil_append] at H)) | refine pvQ ?_ | (refine opk 3 rfl ?_; (refine ost_cmp rfl rfl rfl rfl (fun hc => ?_) (fun hc => ?_) <;> (simp only [cmpP] at hc; try exact prIQ))) | (refine opk 4 rfl ?_; (refine ost_cmp rfl rfl rfl rfl (fun hc => ?_) (fun hc => ?_) <;> (simp only [cmpP] at hc; try exact prIQ))) | (refine opk 9 rfl ?_; first | (refine ost_boxq H rfl ?_; clear H; intro bk wk H) | (refine ost_build1 H rfl rfl rfl evQ lsQ rfl ?_; clear H; intro bk wk H))) | refine Wc.seq ?_ | refine then_n ?_ | refine WL.nil ?_ | refine Wc.region ?_ | refine Wc.block ?_ | refine then_r ?_ | refine then_e ?_ | refine inb_e rfl ?_ | refine inb_o rfl ?_ | refine inb_n ?_ | refine inb_r ?_ | refine Wc.skip ?_ | refine Wc.exit ?_ | refine Wc.ret ?_ | refine Wc.cond_true rfl ?_ | refine Wc.cond_false rfl ?_ | (refine Wc.drawn (id := 8) 9 (by kernel_rfl) ?_) | (refine rgs_nil ?_; intro vs wk hE; replace H := H.ext hE; clear hE) | (refine RGs.bq (fun _ => rfl) rfl (by intro vs w hE hP; have H := H.ext hE; first | exact dbQ | fail) (fun hc => ?_) (fun hc => ?_) <;> ((try simp only [cmpP, decide_eq_true_eq, decide_eq_false_iff_not, dcd_iff, dcd_no] at hc); try exact prDQ)) | refine RGs.pq (fun _ => rfl) rfl (by intro vs w hE hP; have H := H.ext hE; first | exact dvQ | fail) ?_)
    obtain ⟨a6, c6, h6, e6, hle6, hr6, H9⟩ := H.freeze8
    clear H; have H := H9; clear H9
    injection e6 with e61 e62 e63
    subst e61; subst e63
    have hB : ∀ (b : Nat) (v : Value) (g : FH) (w : World) (HO : St w (wr b true 0 v (putB ver.toNat)).fp g g [wr b true 0 v (putB ver.toNat)] w) (hr : BS g a1 c1 (encV flr)), Spec Tryd.prog 78 #[pt b, .slice a1 (encV flr).length c1] w (wr b true 0 v (putB ver.toNat)).fp g (fun v' h' L' => v' = .int .i64 0 ∧ ∃ v2, L' = [wr b true 0 v2 (putB ver.toNat ++ fieldB (encV flr))]) := fun b v g w HO hr => by
      have := pack_Bytes b true 0 v _ g w HO a1 c1 (encV flr) hr (by omega) (by omega)
      rw [layE_ok (by omega)] at this; exact this
    repeat' (first | ((first | refine WL.p rfl ?_ | refine WL.u ?_); first | (refine opk 1 rfl ?_; first | (refine ost_H (A := wr _ _ _ _ _) H rfl (by (exact ixQ)) (fun HO => hB _ _ _ _ HO hr6) rfl ?_; clear H; rintro vk wk hfk Lk ⟨rfl, v2, rfl⟩ hle H; simp only [List.cons_append, List.nil_append, List.eraseIdx_cons_zero, List.eraseIdx_cons_succ] at H) | (refine ost_O (A := wr _ _ _ _ _) H rfl (by (exact ixQ)) (fun HO => pack_NumK _ _ _ _ _ HO _ (by omega) (by (try simp only [List.length_append]); omega)) rfl ?_; clear H; rintro vk wk hfk Lk ⟨rfl, v3, rfl⟩ H; simp only [List.cons_append, List.nil_append, List.eraseIdx_cons_zero, List.eraseIdx_cons_succ] at H)) | refine pvQ ?_ | (refine opk 3 rfl ?_; (refine ost_cmp rfl rfl rfl rfl (fun hc => ?_) (fun hc => ?_) <;> (simp only [cmpP] at hc; try exact prIQ))) | (refine opk 4 rfl ?_; (refine ost_cmp rfl rfl rfl rfl (fun hc => ?_) (fun hc => ?_) <;> (simp only [cmpP] at hc; try exact prIQ))) | (refine opk 9 rfl ?_; first | (refine ost_boxq H rfl ?_; clear H; intro bk wk H) | (refine ost_build1 H rfl rfl rfl evQ lsQ rfl ?_; clear H; intro bk wk H))) | refine Wc.seq ?_ | refine then_n ?_ | refine WL.nil ?_ | refine Wc.region ?_ | refine Wc.block ?_ | refine then_r ?_ | refine then_e ?_ | refine inb_e rfl ?_ | refine inb_o rfl ?_ | refine inb_n ?_ | refine inb_r ?_ | refine Wc.skip ?_ | refine Wc.exit ?_ | refine Wc.ret ?_ | refine Wc.cond_true rfl ?_ | refine Wc.cond_false rfl ?_)
    obtain ⟨bm, ebm⟩ := H.nameB idx1
    subst ebm
    have hPk := hP.mono (hle6.trans hle)
    have hT7 := (hT.mono hle6).mono hle
    have hseg : (segs.map cKid).flatten.length = segs.length := flat32 segs
    clear hle hR hMn hB
    rename FH => h7
    refine Wc.drawX (id := 8) 9 [2, 5, 6] (pi8 (wr b1 true 0 v3 _) (.blk bm _) segs.length (segs.map cKid).flatten (.int .u32 next.toNat)) H (by kernel_rfl) (by kernel_rfl) rfl ?_
    refine RGx.p rfl (by intro vs w dn L hd hP9 H; exact dvQ) ?_
    refine RGx.p rfl (by intro vs w dn L hd hP9 H; obtain ⟨i9, hi9⟩ := pi8_B hP9; exact ost_load1 rfl rfl rfl (H.ok i9 _ hi9) q18 ⟨Fr.refl _ _, rfl⟩) ?_
    refine RGx.m rfl (by
      intro vs w dn L h1 hd hP9 H
      refine ost_C H rfl (clone32 segs.length _ a c segs _ (sat_full _) (List.length_map ..).symm (hPk.full H) (by omega) (by omega)) rfl ?_
      rintro v w' h' L' ⟨a', c', e1, -, rfl⟩ H2
      exact ⟨_, pi8_2 hP9 h1 e1, H2⟩) ?_
    refine RGx.p rfl (by intro vs w dn L hd hP9 H; exact dvQ) ?_
    refine RGx.p rfl (by intro vs w dn L hd hP9 H; obtain ⟨i9, hi9⟩ := pi8_B hP9; exact ost_load1 rfl rfl rfl (H.ok i9 _ hi9) q19 ⟨Fr.refl _ _, rfl⟩) ?_
    refine RGx.m rfl (by
      intro vs w dn L h1 hd hP9 H
      refine ost_buildR (rows := [[Value.int .u32 next.toNat]]) H rfl (by decide) rfl (by rfl) (evP1 vxQ) (.cons rfl .nil) rfl (by simp) ?_
      intro bk wk H2
      obtain ⟨L', q1, q2⟩ := pi8_5 hP9 h1 (rfl : Value.slice (some ⟨bk, 0, none⟩) 1 1 = _)
      exact ⟨L', q1, q2 H2⟩) ?_
    refine RGx.m rfl (by
      intro vs w dn L h1 hd hP9 H
      have d2 := hd 2 (by kernel_rfl) rfl
      have d5 := hd 5 (by kernel_rfl) rfl
      obtain ⟨⟨a2, c2, e2⟩, ⟨b5, e5⟩, rfl⟩ := pi8_6 hP9 h1 d2 d5
      rw [e2, e5] at H
      obtain ⟨a8, c8, e8, hS⟩ := H.ownSl (i := 1) (rows := [[Value.int .u32 next.toNat]]) rfl (by simp)
      injection e8 with e81 e82 e83
      subst e81; subst e83
      refine ost_append (i := 0) H rfl e5 e2 rfl (by rfl) (by decide) hS.rd (by rfl) (by intro h; cases h) (allOne_of rfl) (by omega) (by simp only [maxLen]; omega) ?_
      intro a' c' w' H2
      exact ⟨_, pi8_new d2 d5 rfl, H2.picks [0, 2, 3] rfl (by decide)⟩) ?_
    refine RGx.p rfl (by
      intro vs w dn L hd hP9 H
      obtain ⟨⟨a9, c9, e9⟩, -⟩ := pi8_end hP9 (hd 6 (by kernel_rfl) rfl)
      exact ost_len_sl rfl e9 ⟨Fr.refl _ _, rfl⟩) ?_
    refine RGx.p rfl (by intro vs w dn L hd hP9 H; exact dvQ) ?_
    refine RGx.nil ?_
    intro vs wk dn L hall hP9 H9
    obtain ⟨⟨a9, c9, e9⟩, rfl⟩ := pi8_end hP9 (hall 6 rfl)
    have hv6 : vs (0 + 1 + 1 + 1 + 1 + 1 + 1) = _ := e9
    rw [e9, flat32_snoc] at H9
    (try dsimp only)
    rw [hv6]
    clear hP9 hv6 e9 H
    have H := H9
    clear H9
    have hfl : fldM ⟨ver, flr, base, segs, next⟩ = putB ver.toNat ++ fieldB (encV flr) ++ putB base.toNat ++ putB segs.length ++ numsB (n32 (segs ++ [next])) := rfl
    unfold encM
    rw [hfl]
    have hXl : (putB ver.toNat ++ fieldB (encV flr) ++ putB base.toNat ++ putB segs.length).length ≤ 250 := by
      simp only [List.length_append]; omega
    generalize putB ver.toNat ++ fieldB (encV flr) ++ putB base.toNat ++ putB segs.length = X at H hXl ⊢
    have hLn : segs.length + 1 = (segs ++ [next]).length := by simp
    have hLb : (segs ++ [next]).length ≤ 65 := by rw [← hLn]; omega
    rw [hLn] at H ⊢
    clear hLn hfl hPk hseg
    generalize segs ++ [next] = LL at H hLb ⊢
    obtain ⟨a8, c8, h8, e8, hle8, hL8, H9⟩ := H.freezeRn (List.length_map ..).symm (rows_len1 LL)
    injection e8 with e81 e82 e83
    subst e81; subst e83
    clear H; have H := H9; clear H9
    have hT8 := hT7.mono hle8
    refine WL.nil ?_
    repeat' (first | ((first | refine WL.p rfl ?_ | refine WL.u ?_); first | refine pvQ ?_ | (refine opk 3 rfl ?_; (refine ost_cmp rfl rfl rfl rfl (fun hc => ?_) (fun hc => ?_) <;> (simp only [cmpP] at hc; try exact prIQ))) | (refine opk 4 rfl ?_; (refine ost_cmp rfl rfl rfl rfl (fun hc => ?_) (fun hc => ?_) <;> (simp only [cmpP] at hc; try exact prIQ))) | (refine opk 9 rfl ?_; first | (refine ost_boxq H rfl ?_; clear H; intro bk wk H) | (refine ost_build1 H rfl rfl rfl evQ lsQ rfl ?_; clear H; intro bk wk H))) | refine Wc.seq ?_ | refine then_n ?_ | refine WL.nil ?_ | refine Wc.region ?_ | refine Wc.block ?_ | refine then_r ?_ | refine then_e ?_ | refine inb_e rfl ?_ | refine inb_o rfl ?_ | refine inb_n ?_ | refine inb_r ?_ | refine Wc.skip ?_ | refine Wc.exit ?_ | refine Wc.ret ?_ | refine Wc.cond_true rfl ?_ | refine Wc.cond_false rfl ?_ | (refine Wc.drawn (id := 8) 9 (by kernel_rfl) ?_) | (refine rgs_nil ?_; intro vs wk hE; replace H := H.ext hE; clear hE) | (refine RGs.bq (fun _ => rfl) rfl (by intro vs w hE hP; have H := H.ext hE; first | exact dbQ | fail) (fun hc => ?_) (fun hc => ?_) <;> ((try simp only [cmpP, decide_eq_true_eq, decide_eq_false_iff_not, dcd_iff, dcd_no] at hc); try exact prDQ)) | refine RGs.pq (fun _ => rfl) rfl (by intro vs w hE hP; have H := H.ext hE; first | exact dvQ | fail) ?_)
    refine Wc.loopE (fun s0 m s w' => ∃ (k : Nat) (v : Value), m = LL.length - k ∧ k ≤ LL.length ∧ Agree [6, 41, 42, 43, 44, 45, 46, 47, 48, 49] s s0 ∧ s 41 = .int .i64 k ∧
      St w [] h0 h8 [wr b1 true 0 v (X ++ numsB (n32 (LL.take k))), .blk bm (.cells (mnL ver flr base segs.length next a c).toArray 95 (0, 0))] w') LL.length ⟨0, v3, rfl, by omega, Agree.refl _ _, rfl, by rw [List.take_zero, show numsB (n32 []) = [] from rfl, List.append_nil]; exact H⟩ ?_
    clear H
    rintro m s w' ⟨k, v, rfl, hk, hA9, e1, H⟩
    obtain ⟨j, rfl⟩ := hA9.env1 e1
    clear hA9 e1
    have hxl := n32_len (LL.take k)
    have hxk : (LL.take k).length ≤ 65 := by rw [List.length_take]; omega
    by_cases hlt : k < LL.length
    · obtain ⟨b', off, l, T, fr, e1, eb, eg⟩ := hL8.getM (by decide) (Nat.lt_of_le_of_lt (Nat.zero_le _) hlt)
      subst e1
      have g1 : l[off + (k : Int).toNat * 1]? = some (.int .u32 LL[k].toNat) := row_cell (eg (k : Int).toNat k hlt (by omega)) (q := 0) (by simp [cKid])
      have hst := n32_step LL hlt
      have hy := LL[k].toNat_lt
      have hyp := putB_len LL[k].toNat
      clear eg
      generalize LL[k] = y at g1 hst hy hyp
      repeat' (first | ((first | refine WL.p rfl ?_ | refine WL.u ?_); first | (refine opk 1 rfl ?_; (refine ost_O (A := wr _ _ _ _ _) H rfl (by (exact ixQ)) (fun HO => pack_NumK _ _ _ _ _ HO y.toNat (by omega) (by rw [List.length_append]; omega)) rfl ?_; clear H; rintro vk wk hfk Lk ⟨rfl, v3, rfl⟩ H; simp only [List.cons_append, List.nil_append, List.eraseIdx_cons_zero, List.eraseIdx_cons_succ] at H)) | refine pvQ ?_ | (refine opk 3 rfl ?_; (refine ost_cmp rfl rfl rfl rfl (fun hc => ?_) (fun hc => ?_) <;> (simp only [cmpP] at hc; try exact prIQ))) | (refine opk 4 rfl ?_; (refine ost_cmp rfl rfl rfl rfl (fun hc => ?_) (fun hc => ?_) <;> (simp only [cmpP] at hc; try exact prIQ))) | (refine opk 9 rfl ?_; first | (refine ost_boxq H rfl ?_; clear H; intro bk wk H) | (refine ost_build1 H rfl rfl rfl evQ lsQ rfl ?_; clear H; intro bk wk H))) | refine Wc.seq ?_ | refine then_n ?_ | refine WL.nil ?_ | refine Wc.region ?_ | refine Wc.block ?_ | refine then_r ?_ | refine then_e ?_ | refine inb_e rfl ?_ | refine inb_o rfl ?_ | refine inb_n ?_ | refine inb_r ?_ | refine Wc.skip ?_ | refine Wc.exit ?_ | refine Wc.ret ?_ | refine Wc.cond_true rfl ?_ | refine Wc.cond_false rfl ?_ | (refine Wc.drawn (id := 8) 9 (by kernel_rfl) ?_) | (refine rgs_nil ?_; intro vs wk hE; replace H := H.ext hE; clear hE) | (refine RGs.bq (fun _ => rfl) rfl (by intro vs w hE hP; have H := H.ext hE; first | exact dbQ | fail) (fun hc => ?_) (fun hc => ?_) <;> ((try simp only [cmpP, decide_eq_true_eq, decide_eq_false_iff_not, dcd_iff, dcd_no] at hc); try exact prDQ)) | refine RGs.pq (fun _ => rfl) rfl (by intro vs w hE hP; have H := H.ext hE; first | exact dvQ | fail) ?_)
      rw [List.append_assoc, ← hst] at H
      exact ⟨LL.length - (k + 1), by omega, k + 1, v3, rfl, by omega, by (repeat' (first | exact Agree.refl _ _ | exact Agree.havoc | refine Agree.upd rfl ?_ | refine Agree.hav2 rfl ?_)), rfl, H⟩
    · obtain rfl : k = LL.length := by omega
      rw [List.take_length] at H hxl hxk
      have hFl : (X ++ numsB (n32 LL)).length ≤ 4000 := by rw [List.length_append]; omega
      repeat' (first | ((first | refine WL.p rfl ?_ | refine WL.u ?_); first | (refine opk 1 rfl ?_; first | (refine ost_O (A := wr _ _ _ _ _) H rfl (by (exact ixQ)) (fun HO => pack_All0 _ _ _ _ _ _ HO (by omega) rfl) rfl ?_; clear H; rintro vk wk hfk Lk ⟨a4, c4, rfl, _, rfl⟩ H; simp only [List.cons_append, List.nil_append, List.eraseIdx_cons_zero, List.eraseIdx_cons_succ] at H) | (refine ost_C H rfl (frame_WrapK _ _ _ (X ++ numsB (n32 LL)) _ (sat_full _) (hT8.full H) (H.own8rd (i := 0) rfl) (by omega)) rfl ?_; clear H; rintro vk wk hfk Lk ⟨a5, c5, rfl, _, rfl⟩ H; simp only [List.cons_append, List.nil_append] at H)) | refine pvQ ?_ | (refine opk 3 rfl ?_; (refine ost_cmp rfl rfl rfl rfl (fun hc => ?_) (fun hc => ?_) <;> (simp only [cmpP] at hc; try exact prIQ))) | (refine opk 4 rfl ?_; (refine ost_cmp rfl rfl rfl rfl (fun hc => ?_) (fun hc => ?_) <;> (simp only [cmpP] at hc; try exact prIQ))) | (refine opk 9 rfl ?_; first | (refine ost_boxq H rfl ?_; clear H; intro bk wk H) | (refine ost_build1 H rfl rfl rfl evQ lsQ rfl ?_; clear H; intro bk wk H))) | refine Wc.seq ?_ | refine then_n ?_ | refine WL.nil ?_ | refine Wc.region ?_ | refine Wc.block ?_ | refine then_r ?_ | refine then_e ?_ | refine inb_e rfl ?_ | refine inb_o rfl ?_ | refine inb_n ?_ | refine inb_r ?_ | refine Wc.skip ?_ | refine Wc.exit ?_ | refine Wc.ret ?_ | refine Wc.cond_true rfl ?_ | refine Wc.cond_false rfl ?_ | (refine Wc.drawn (id := 8) 9 (by kernel_rfl) ?_) | (refine rgs_nil ?_; intro vs wk hE; replace H := H.ext hE; clear hE) | (refine RGs.bq (fun _ => rfl) rfl (by intro vs w hE hP; have H := H.ext hE; first | exact dbQ | fail) (fun hc => ?_) (fun hc => ?_) <;> ((try simp only [cmpP, decide_eq_true_eq, decide_eq_false_iff_not, dcd_iff, dcd_no] at hc); try exact prDQ)) | refine RGs.pq (fun _ => rfl) rfl (by intro vs w hE hP; have H := H.ext hE; first | exact dvQ | fail) ?_)
      exact fn_ret2 (v1 := .slice _ _ _) (v2 := .int _ _) rfl rfl rfl ⟨_, _, H.pick 0 rfl, _, _, rfl, rfl⟩
end Go.Tg

