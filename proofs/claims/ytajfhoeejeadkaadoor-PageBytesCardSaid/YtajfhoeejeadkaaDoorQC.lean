/- Contracts of Go functions that the laws reach: what each call answers and leaves in memory, for all arguments within the bounds that each theorem names. -/
import Derived.Test.YtajfhoeejeadkaaDoorInst
import Derived.Test.YtajfhoeejeadkaaDoorAuto
import Derived.Test.YtajfhoeejeadkaaDoorQ9
import Derived.Test.YtajfhoeejeadkaaDoorPick
set_option linter.unusedVariables false
set_option linter.unusedSimpArgs false
set_option maxRecDepth 100000
set_option maxHeartbeats 4000000
namespace Go.Tg
open Go Go.Proofs
def zeroP : PageT := ⟨false, [], [], []⟩
def zeroA : PAd := ⟨none, 0, none, 0, none, 0⟩
theorem zeroP_R (h : FH) : PgR h zeroP zeroA := ⟨Sl.nil _ _, Sl.nil _ _, Sl.nil _ _⟩
open Classical in
noncomputable def decP (b : List UInt8) : PageT × Int := if h : ∃ p, rightP p = true ∧ encP p = b then (h.choose, 0) else (zeroP, 15)
def DecP (b : List UInt8) (x : PageT) (e : Int) : Prop := (e = 0 ∧ rightP x = true ∧ encP x = b) ∨ (e = 15 ∧ x = zeroP ∧ ∀ u, rightP u = true → encP u ≠ b)
theorem DecP.unique {b : List UInt8} {x y : PageT} {e f : Int} (h : DecP b x e) (k : DecP b y f) : x = y ∧ e = f := by
  rcases h with ⟨h1, h2, h3⟩ | ⟨h1, h2, h3⟩ <;> rcases k with ⟨k1, k2, k3⟩ | ⟨k1, k2, k3⟩
  · exact ⟨encP_inj h2 k2 (h3.trans k3.symm), by omega⟩
  · exact absurd h3 (k3 x h2)
  · exact absurd k3 (h3 y k2)
  · exact ⟨h2.trans k2.symm, by omega⟩
theorem decP_spec (b : List UInt8) : DecP b (decP b).1 (decP b).2 := by
  unfold decP
  split
  · rename_i h; exact .inl ⟨rfl, h.choose_spec.1, h.choose_spec.2⟩
  · rename_i h; exact .inr ⟨rfl, rfl, fun u hu e => h ⟨u, hu, e⟩⟩
theorem decP_eq {b : List UInt8} {x : PageT} {e : Int} (h : DecP b x e) : decP b = (x, e) := by
  obtain ⟨h1, h2⟩ := h.unique (decP_spec b)
  exact Prod.ext h1.symm h2.symm
theorem decP_enc {p : PageT} (h : rightP p = true) : decP (encP p) = (p, 0) := decP_eq (.inl ⟨rfl, h, rfl⟩)
theorem encP_len {p : PageT} (h : rightP p = true) : (encP p).length ≤ 500 := by
  have h1 := natsP_len h
  have h2 := wrapB_len (numsB (natsP p))
  unfold encP; omega
theorem firstF_enc {p : PageT} {b : List UInt8} (h : rightP p = true) (e : encP p = b) : firstF b = (numsB (natsP p), b.length, 0) := by
  have h1 := natsP_len h
  have := firstF_wrap (xs := numsB (natsP p)) (by omega) []
  rw [List.append_nil, show wrapB (numsB (natsP p)) = encP p from rfl, e] at this
  exact this
theorem decP_A {b : List UInt8} {f : List UInt8} {k : Nat} (hF : firstF b = (f, k, 0)) (hk : k = b.length) : DecP b (if (endA f).bad = false ∧ (endA f).e = 0 ∧ (endA f).xs = [] ∧ rightP (pageA f) = true then pageA f else zeroP) (if (endA f).bad = false ∧ (endA f).e = 0 ∧ (endA f).xs = [] ∧ rightP (pageA f) = true then 0 else 15) := by
  have h1 := firstF_ok (b := b) (by rw [hF])
  rw [hF] at h1
  dsimp only at h1
  by_cases hc : (endA f).bad = false ∧ (endA f).e = 0 ∧ (endA f).xs = [] ∧ rightP (pageA f) = true
  · rw [if_pos hc, if_pos hc]
    refine .inl ⟨rfl, hc.2.2.2, ?_⟩
    have := pageA_sound hc.1 hc.2.1 hc.2.2.1 hc.2.2.2
    unfold encP
    rw [← this, ← h1.1, hk, List.take_length]
  · rw [if_neg hc, if_neg hc]
    refine .inr ⟨rfl, rfl, fun u hu e => hc ?_⟩
    rw [firstF_enc hu e] at hF
    injection hF with h2 _
    obtain ⟨h3, h4⟩ := pageA_full hu h2.symm
    rw [h3, h4]
    exact ⟨rfl, rfl, rfl, hu⟩
theorem decP_no {b : List UInt8} (h : ¬ ((firstF b).2.2 = 0 ∧ (firstF b).2.1 = b.length)) : DecP b zeroP 15 :=
  .inr ⟨rfl, rfl, fun u hu e => h (by rw [firstF_enc hu e]; exact ⟨rfl, rfl⟩)⟩
theorem u16_2 (n : Nat) : Value.int .u16 (IntKind.u16.wrap ((UInt32.ofNat n).toNat : Int)) = .int .u16 (UInt16.ofNat n).toNat := by
  congr 1
  simp [IntKind.wrap, IntKind.bits, IntKind.signed]
theorem u8_2 (n : Nat) : Value.int .u8 (IntKind.u8.wrap ((UInt32.ofNat n).toNat : Int)) = .int .u8 (UInt8.ofNat n).toNat := by
  congr 1
  simp [IntKind.wrap, IntKind.bits, IntKind.signed]
theorem rows_len3 (ks : List KeyT) : ∀ r, r ∈ ks.map cKey → r.length = 3 := by simp [cKey]
theorem rows_len2 (ks : List LocT) : ∀ r, r ∈ ks.map cLoc → r.length = 2 := by simp [cLoc]
theorem rows_len1 (ks : List UInt32) : ∀ r, r ∈ ks.map cKid → r.length = 1 := by simp [cKid]
theorem page_Decode (h0 : FH) (a : Option Addr) (c : Nat) (b : List UInt8) (w : World) (hs : Sat h0 w) (hT : Half h0) (hr : BS h0 a c b) (hb : b.length ≤ 1000000) :
    Spec Tryd.prog 29 #[.slice a b.length c] w [] h0 (fun v h' L' => ∃ A, v = .tuple #[.agg (pgV (decP b).1 A).toArray, .int .i64 (decP b).2] ∧ L' = [] ∧ PgR h' (decP b).1 A) := by
  have H := St.start hs
  have hFF := frame_First h0 a c b
  have hA := @decP_A b
  have hN := @decP_no b
  have hok := @firstF_ok b
  generalize firstF b = F at hFF hA hN hok
  obtain ⟨f, k, e⟩ := F
  dsimp only at hFF hN hok
  have hz : DecP b zeroP 15 → decP b = (zeroP, 15) := decP_eq
  unfold Spec
  refine calls_of Tryd.func29 rfl Tryd.ntmps29 (by simp) ?_
  by_cases he : e = 0
  · subst he
    by_cases hk : k = b.length
    · have hA := hA rfl hk
      obtain ⟨_, hf4, _⟩ := hok rfl
      repeat' (first | ((first | refine WL.p rfl ?_ | refine WL.u ?_ | refine WL.g rfl rfl ?_ | refine WL.gu rfl ?_); first | (refine opk 1 rfl ?_; (refine ost_Sk H rfl (hFF _ H.sat hT hr (by omega)) rfl ?_; clear H; rintro vk wk hfk Lk ⟨a1, c1, rfl, e9, rfl⟩ hle H; simp only [List.cons_append, List.nil_append] at H)) | refine pvQ ?_ | (refine opk 3 rfl ?_; (refine ost_cmp rfl rfl rfl rfl (fun hc => ?_) (fun hc => ?_) <;> (simp only [cmpP] at hc; try exact prIQ))) | (refine opk 4 rfl ?_; (refine ost_cmp rfl rfl rfl rfl (fun hc => ?_) (fun hc => ?_) <;> (simp only [cmpP] at hc; try exact prIQ))) | (refine opk 8 rfl ?_; first | (refine ost_store1 H rfl rfl vlQ gvQ ixQ (by first | decide | (simp; omega) | (simp; done) | omega) ?_; clear H; intro wk H; simp only [List.set_cons_zero, List.set_cons_succ, Nat.reduceAdd] at H) | (refine ost_storeW H rfl rfl rfl rfl lQ ixQ lQ okQ ?_; clear H; intro wk H; simp only [List.set_cons_zero, List.set_cons_succ, Nat.reduceAdd] at H)) | (refine opk 9 rfl ?_; first | (refine ost_boxq H rfl ?_; clear H; intro bk wk H) | (refine ost_allocA H rfl ?_; clear H; intro bk wk H) | (refine ost_build1 H rfl rfl rfl evQ lsQ rfl ?_; clear H; intro bk wk H))) | refine Wc.seq ?_ | refine then_n ?_ | refine WL.nil ?_ | refine Wc.region ?_ | refine Wc.block ?_ | refine then_r ?_ | refine then_e ?_ | refine inb_e rfl ?_ | refine inb_o rfl ?_ | refine inb_n ?_ | refine inb_r ?_ | refine Wc.skip ?_ | refine Wc.exit ?_ | refine Wc.ret ?_ | refine Wc.cond_true rfl ?_ | refine Wc.cond_false rfl ?_ | (refine Wc.drawn (id := 16) 5 (by kernel_rfl) ?_) | refine WL.skp rfl rfl ?_ | refine WL.sku rfl ?_ | (refine rgs_nil ?_; intro vs wk hE; replace H := H.ext hE; clear hE) | refine RGs.skp (fun _ => rfl) rfl ?_ | (refine RGs.bq (fun _ => rfl) rfl (by intro vs w hE hP; have H := H.ext hE; first | exact dbQ | fail) (fun hc => ?_) (fun hc => ?_) <;> ((try simp only [cmpP, decide_eq_true_eq, decide_eq_false_iff_not, dcd_iff, dcd_no] at hc); try exact prDQ)) | refine RGs.pq (fun _ => rfl) rfl (by intro vs w hE hP; have H := H.ext hE; first | exact dvQ | fail) ?_)
      replace e9 := e9.symm
      subst e9
      obtain ⟨a6, c6, h6, e6, hle6, hr6, H⟩ := H.freeze8
      cases e6
      repeat' (first | ((first | refine WL.p rfl ?_ | refine WL.u ?_ | refine WL.g rfl rfl ?_ | refine WL.gu rfl ?_); first | (refine opk 1 rfl ?_; (refine ost_Sk H rfl (pack_Read _ _ _ _ _ H.sat hr6 (by omega)) rfl ?_; clear H; rintro vk wk hfk Lk ⟨b1, a2, c2, rfl, hr2, rfl⟩ hle H; simp only [List.cons_append, List.nil_append] at H)) | refine pvQ ?_ | (refine opk 3 rfl ?_; (refine ost_cmp rfl rfl rfl rfl (fun hc => ?_) (fun hc => ?_) <;> (simp only [cmpP] at hc; try exact prIQ))) | (refine opk 4 rfl ?_; (refine ost_cmp rfl rfl rfl rfl (fun hc => ?_) (fun hc => ?_) <;> (simp only [cmpP] at hc; try exact prIQ))) | (refine opk 8 rfl ?_; first | (refine ost_store1 H rfl rfl vlQ gvQ ixQ (by first | decide | (simp; omega) | (simp; done) | omega) ?_; clear H; intro wk H; simp only [List.set_cons_zero, List.set_cons_succ, Nat.reduceAdd] at H) | (refine ost_storeW H rfl rfl rfl rfl lQ ixQ lQ okQ ?_; clear H; intro wk H; simp only [List.set_cons_zero, List.set_cons_succ, Nat.reduceAdd] at H)) | (refine opk 9 rfl ?_; first | (refine ost_boxq H rfl ?_; clear H; intro bk wk H) | (refine ost_allocA H rfl ?_; clear H; intro bk wk H) | (refine ost_build1 H rfl rfl rfl evQ lsQ rfl ?_; clear H; intro bk wk H))) | refine Wc.seq ?_ | refine then_n ?_ | refine WL.nil ?_ | refine Wc.region ?_ | refine Wc.block ?_ | refine then_r ?_ | refine then_e ?_ | refine inb_e rfl ?_ | refine inb_o rfl ?_ | refine inb_n ?_ | refine inb_r ?_ | refine Wc.skip ?_ | refine Wc.exit ?_ | refine Wc.ret ?_ | refine Wc.cond_true rfl ?_ | refine Wc.cond_false rfl ?_ | (refine Wc.drawn (id := 16) 5 (by kernel_rfl) ?_) | refine WL.skp rfl rfl ?_ | refine WL.sku rfl ?_ | (refine rgs_nil ?_; intro vs wk hE; replace H := H.ext hE; clear hE) | refine RGs.skp (fun _ => rfl) rfl ?_ | (refine RGs.bq (fun _ => rfl) rfl (by intro vs w hE hP; have H := H.ext hE; first | exact dbQ | fail) (fun hc => ?_) (fun hc => ?_) <;> ((try simp only [cmpP, decide_eq_true_eq, decide_eq_false_iff_not, dcd_iff, dcd_no] at hc); try exact prDQ)) | refine RGs.pq (fun _ => rfl) rfl (by intro vs w hE hP; have H := H.ext hE; first | exact dvQ | fail) ?_)
      obtain ⟨bp, ebp⟩ := H.nameB idx0
      subst ebp
      obtain ⟨bt, ebt⟩ := H.nameB idx1
      subst ebt
      obtain ⟨b2, eb2⟩ := H.nameB idx3
      subst eb2
      replace H : St w [] h0 hfk [tkp bt b1 (tkA f) a2 c2, .blk bp (.cells (pgL false 0 0 0 none 0 none 0 none 0).toArray 40 (0, 0)), .blk b2 (.cells (pgL false 0 0 0 none 0 none 0 none 0).toArray 40 (0, 0))] wk := (((H.front 1 rfl).front 2 rfl).front 1 rfl).join
      replace hr2 : BS hfk a2 c2 (tkA f).xs := hr2
      repeat' (first | ((first | refine WL.p rfl ?_ | refine WL.u ?_ | refine WL.g rfl rfl ?_ | refine WL.gu rfl ?_); first | (refine opk 1 rfl ?_; first | (refine ost_H (A := tkp _ _ _ _ _) H rfl (by (exact ixQ)) (fun HO => tkp_num 1 _ _ _ _ _ _ _ HO (by assumption) (by decide)) rfl ?_; clear H; rintro vk wk hfk Lk ⟨rfl, rfl, a2, c2, hr2, rfl⟩ hle H; simp only [List.cons_append, List.nil_append, List.eraseIdx_cons_zero, List.eraseIdx_cons_succ] at H) | (refine ost_H (A := tkp _ _ _ _ _) H rfl (by (exact ixQ)) (fun HO => tkp_num 4 _ _ _ _ _ _ _ HO (by assumption) (by decide)) rfl ?_; clear H; rintro vk wk hfk Lk ⟨rfl, rfl, a2, c2, hr2, rfl⟩ hle H; simp only [List.cons_append, List.nil_append, List.eraseIdx_cons_zero, List.eraseIdx_cons_succ] at H)) | refine pvQ ?_ | (refine opk 3 rfl ?_; (refine ost_cmp rfl rfl rfl rfl (fun hc => ?_) (fun hc => ?_) <;> (simp only [cmpP] at hc; try exact prIQ))) | (refine opk 4 rfl ?_; (refine ost_cmp rfl rfl rfl rfl (fun hc => ?_) (fun hc => ?_) <;> (simp only [cmpP] at hc; try exact prIQ))) | (refine opk 8 rfl ?_; first | (refine ost_store1 H rfl rfl vlQ gvQ ixQ (by first | decide | (simp; omega) | (simp; done) | omega) ?_; clear H; intro wk H; simp only [List.set_cons_zero, List.set_cons_succ, Nat.reduceAdd] at H) | (refine ost_storeW H rfl rfl rfl rfl lQ ixQ lQ okQ ?_; clear H; intro wk H; simp only [List.set_cons_zero, List.set_cons_succ, Nat.reduceAdd] at H)) | (refine opk 9 rfl ?_; first | (refine ost_boxq H rfl ?_; clear H; intro bk wk H) | (refine ost_allocA H rfl ?_; clear H; intro bk wk H) | (refine ost_build1 H rfl rfl rfl evQ lsQ rfl ?_; clear H; intro bk wk H))) | refine Wc.seq ?_ | refine then_n ?_ | refine WL.nil ?_ | refine Wc.region ?_ | refine Wc.block ?_ | refine then_r ?_ | refine then_e ?_ | refine inb_e rfl ?_ | refine inb_o rfl ?_ | refine inb_n ?_ | refine inb_r ?_ | refine Wc.skip ?_ | refine Wc.exit ?_ | refine Wc.ret ?_ | refine Wc.cond_true rfl ?_ | refine Wc.cond_false rfl ?_ | (refine Wc.drawn (id := 16) 5 (by kernel_rfl) ?_) | refine WL.skp rfl rfl ?_ | refine WL.sku rfl ?_ | (refine rgs_nil ?_; intro vs wk hE; replace H := H.ext hE; clear hE) | refine RGs.skp (fun _ => rfl) rfl ?_ | (refine RGs.bq (fun _ => rfl) rfl (by intro vs w hE hP; have H := H.ext hE; first | exact dbQ | fail) (fun hc => ?_) (fun hc => ?_) <;> ((try simp only [cmpP, decide_eq_true_eq, decide_eq_false_iff_not, dcd_iff, dcd_no] at hc); try exact prDQ)) | refine RGs.pq (fun _ => rfl) rfl (by intro vs w hE hP; have H := H.ext hE; first | exact dvQ | fail) ?_)
      · have e0 : lfA f = true := by unfold lfA; rw [decide_eq_true_eq]; omega
        replace H : St w [] h0 hfk [ownR (.slice none (([] : List KeyT).map cKey).length 0) 42 3 (([] : List KeyT).map cKey), ownR (.slice none (([] : List LocT).map cLoc).length 0) 114 2 (([] : List LocT).map cLoc), tkp bt b1 (tk2A f) a2 c2, .blk bp (.cells (pgL true 0 0 0 none 0 none 0 none 0).toArray 40 (0, 0)), .blk b2 (.cells (pgL false 0 0 0 none 0 none 0 none 0).toArray 40 (0, 0))] wk := (H.nilOwn 114 2).nilOwn 42 3
        replace hr2 : BS hfk a2 c2 (tk2A f).xs := hr2
        have hm9 : ((min ((UInt32.ofNat (tkN (tkS (tkA f) 1))).toNat : Int) 9)) = ((mA f : Nat) : Int) := by unfold mA cntA; omega
        have hm8 : mA f ≤ 9 := by unfold mA; omega
        refine Wc.loopE (fun s0 m s w' => ∃ (k : Nat) (ak : Option Addr) (ck : Nat) (al : Option Addr) (cl : Nat) (a3 : Option Addr) (c3 : Nat), m = mA f - k ∧ k ≤ mA f ∧ Agree [10, 11, 39, 40, 41, 42, 43, 44, 45, 46, 47, 48, 49, 50, 51, 52, 53, 54, 55, 56, 57, 58, 59, 60, 61, 62, 63, 64, 65, 66, 67, 68, 69, 70, 71, 72, 73, 74, 75, 76, 77, 78, 79, 80, 81, 82] s s0 ∧ s 39 = .int .u32 k ∧ BS hfk a3 c3 (rowT true (tk2A f) k).xs ∧
          St w [] h0 hfk [ownR (.slice ak ((keysA true (tk2A f) k).map cKey).length ck) 42 3 ((keysA true (tk2A f) k).map cKey), ownR (.slice al ((locsA true (tk2A f) k).map cLoc).length cl) 114 2 ((locsA true (tk2A f) k).map cLoc), tkp bt b1 (rowT true (tk2A f) k) a3 c3,
            .blk bp (.cells [Value.bool true, .slice ak ((keysA true (tk2A f) k).map cKey).length ck, .slice al ((locsA true (tk2A f) k).map cLoc).length cl, .slice none 0 0].toArray 40 (0, 0)), .blk b2 (.cells (pgL false 0 0 0 none 0 none 0 none 0).toArray 40 (0, 0))] w') (mA f) ⟨0, _, _, _, _, _, _, rfl, by omega, Agree.refl _ _, rfl, hr2, H⟩ ?_
        clear H hr2
        rintro m s w' ⟨k, ak, ck, al, cl, a3, c3, rfl, hk9, hA9, e1, hr3, H⟩
        obtain ⟨j, rfl⟩ := hA9.env1 e1
        clear hA9 e1
        have hxl := rowT_len true (tk2A f) k
        have hKl : ((keysA true (tk2A f) k).map cKey).length = k := by rw [List.length_map, keysA_len]
        have hLl : ((locsA true (tk2A f) k).map cLoc).length = k := by simp [locsA]
        by_cases hlt : k < mA f
        · have hT1 : rowT true (tk2A f) (k + 1) = tkS (tkS (tkS (tkS (tkS (rowT true (tk2A f) k) 16) 8) 32) 32) 32 := rfl
          have hV1 : rowV true (tk2A f) k = [tkN (rowT true (tk2A f) k), tkN (tkS (rowT true (tk2A f) k) 16), tkN (tkS (tkS (rowT true (tk2A f) k) 16) 8), tkN (tkS (tkS (tkS (rowT true (tk2A f) k) 16) 8) 32), tkN (tkS (tkS (tkS (tkS (rowT true (tk2A f) k) 16) 8) 32) 32)] := rfl
          have hK1 := keysA_succ true (tk2A f) k
          have hL1 := locsA_succ (tk2A f) k
          rw [hV1] at hK1 hL1
          generalize rowT true (tk2A f) k = T at H hr3 hT1 hK1 hL1 hxl
          generalize keysA true (tk2A f) k = KS at H hK1 hKl
          generalize locsA true (tk2A f) k = LS at H hL1 hLl
          have hrk := rows_len3 KS
          have hrl := rows_len2 LS
          repeat' (first | ((first | refine WL.p rfl ?_ | refine WL.u ?_ | refine WL.g rfl rfl ?_ | refine WL.gu rfl ?_); first | (refine opk 1 rfl ?_; first | (refine ost_H (A := tkp _ _ _ _ _) H rfl (by (exact ixQ)) (fun HO => tkp_num 16 _ _ _ _ _ _ _ HO (by assumption) (by decide)) rfl ?_; clear H; rintro vk wk hfk Lk ⟨rfl, rfl, a2, c2, hr2, rfl⟩ hle H; simp only [List.cons_append, List.nil_append, List.eraseIdx_cons_zero, List.eraseIdx_cons_succ] at H) | (refine ost_H (A := tkp _ _ _ _ _) H rfl (by (exact ixQ)) (fun HO => tkp_num 8 _ _ _ _ _ _ _ HO (by assumption) (by decide)) rfl ?_; clear H; rintro vk wk hfk Lk ⟨rfl, rfl, a2, c2, hr2, rfl⟩ hle H; simp only [List.cons_append, List.nil_append, List.eraseIdx_cons_zero, List.eraseIdx_cons_succ] at H) | (refine ost_H (A := tkp _ _ _ _ _) H rfl (by (exact ixQ)) (fun HO => tkp_num 32 _ _ _ _ _ _ _ HO (by assumption) (by decide)) rfl ?_; clear H; rintro vk wk hfk Lk ⟨rfl, rfl, a2, c2, hr2, rfl⟩ hle H; simp only [List.cons_append, List.nil_append, List.eraseIdx_cons_zero, List.eraseIdx_cons_succ] at H) | (refine ost_appR (rows := KS.map cKey) (row := [Value.int .u16 (IntKind.u16.wrap ((UInt32.ofNat (tkN T)).toNat : Int)), Value.int .u8 (IntKind.u8.wrap ((UInt32.ofNat (tkN (tkS T 16))).toNat : Int)), Value.int .u32 ((UInt32.ofNat (tkN (tkS (tkS T 16) 8))).toNat : Int)]) H rfl rfl rfl (by (exact ixQ)) (by (exact ixQ)) (by rfl) (by first | simp; done | exact Nat.succ_pos _) rfl (allOne_of rfl) rfl (by omega) ?_; clear H; intro aa ca wk H; simp only [List.set_cons_zero, List.set_cons_succ] at H) | (refine ost_appR (rows := LS.map cLoc) (row := [Value.int .u32 ((UInt32.ofNat (tkN (tkS (tkS (tkS T 16) 8) 32))).toNat : Int), Value.int .u32 ((UInt32.ofNat (tkN (tkS (tkS (tkS (tkS T 16) 8) 32) 32))).toNat : Int)]) H rfl rfl rfl (by (exact ixQ)) (by (exact ixQ)) (by rfl) (by first | simp; done | exact Nat.succ_pos _) rfl (allOne_of rfl) rfl (by omega) ?_; clear H; intro aa ca wk H; simp only [List.set_cons_zero, List.set_cons_succ] at H)) | (refine opk 9 rfl ?_; first | (refine ost_buildR (rows := [[Value.int .u16 (IntKind.u16.wrap ((UInt32.ofNat (tkN T)).toNat : Int)), Value.int .u8 (IntKind.u8.wrap ((UInt32.ofNat (tkN (tkS T 16))).toNat : Int)), Value.int .u32 ((UInt32.ofNat (tkN (tkS (tkS T 16) 8))).toNat : Int)]]) H rfl (by decide) rfl (by rfl) (evP1 vxQ) (.cons rfl .nil) rfl (fun r hr => by rw [List.mem_singleton.1 hr]; rfl) ?_; clear H; intro bk wk H) | (refine ost_buildR (rows := [[Value.int .u32 ((UInt32.ofNat (tkN (tkS (tkS (tkS T 16) 8) 32))).toNat : Int), Value.int .u32 ((UInt32.ofNat (tkN (tkS (tkS (tkS (tkS T 16) 8) 32) 32))).toNat : Int)]]) H rfl (by decide) rfl (by rfl) (evP1 vxQ) (.cons rfl .nil) rfl (fun r hr => by rw [List.mem_singleton.1 hr]; rfl) ?_; clear H; intro bk wk H)) | refine pvQ ?_ | (refine opk 3 rfl ?_; (refine ost_cmp rfl rfl rfl rfl (fun hc => ?_) (fun hc => ?_) <;> (simp only [cmpP] at hc; try exact prIQ))) | (refine opk 4 rfl ?_; (refine ost_cmp rfl rfl rfl rfl (fun hc => ?_) (fun hc => ?_) <;> (simp only [cmpP] at hc; try exact prIQ))) | (refine opk 8 rfl ?_; first | (refine ost_store1 H rfl rfl vlQ gvQ ixQ (by first | decide | (simp; omega) | (simp; done) | omega) ?_; clear H; intro wk H; simp only [List.set_cons_zero, List.set_cons_succ, Nat.reduceAdd] at H) | (refine ost_storeW H rfl rfl rfl rfl lQ ixQ lQ okQ ?_; clear H; intro wk H; simp only [List.set_cons_zero, List.set_cons_succ, Nat.reduceAdd] at H)) | (refine opk 9 rfl ?_; first | (refine ost_boxq H rfl ?_; clear H; intro bk wk H) | (refine ost_allocA H rfl ?_; clear H; intro bk wk H) | (refine ost_build1 H rfl rfl rfl evQ lsQ rfl ?_; clear H; intro bk wk H))) | refine Wc.seq ?_ | refine then_n ?_ | refine WL.nil ?_ | refine Wc.region ?_ | refine Wc.block ?_ | refine then_r ?_ | refine then_e ?_ | refine inb_e rfl ?_ | refine inb_o rfl ?_ | refine inb_n ?_ | refine inb_r ?_ | refine Wc.skip ?_ | refine Wc.exit ?_ | refine Wc.ret ?_ | refine Wc.cond_true rfl ?_ | refine Wc.cond_false rfl ?_ | (refine Wc.drawn (id := 16) 5 (by kernel_rfl) ?_) | refine WL.skp rfl rfl ?_ | refine WL.sku rfl ?_ | (refine rgs_nil ?_; intro vs wk hE; replace H := H.ext hE; clear hE) | refine RGs.skp (fun _ => rfl) rfl ?_ | (refine RGs.bq (fun _ => rfl) rfl (by intro vs w hE hP; have H := H.ext hE; first | exact dbQ | fail) (fun hc => ?_) (fun hc => ?_) <;> ((try simp only [cmpP, decide_eq_true_eq, decide_eq_false_iff_not, dcd_iff, dcd_no] at hc); try exact prDQ)) | refine RGs.pq (fun _ => rfl) rfl (by intro vs w hE hP; have H := H.ext hE; first | exact dvQ | fail) ?_)
          have hKr : (keysA true (tk2A f) (k + 1)).map cKey = KS.map cKey ++ [[Value.int .u16 (IntKind.u16.wrap ((UInt32.ofNat (tkN T)).toNat : Int)), Value.int .u8 (IntKind.u8.wrap ((UInt32.ofNat (tkN (tkS T 16))).toNat : Int)), Value.int .u32 ((UInt32.ofNat (tkN (tkS (tkS T 16) 8))).toNat : Int)]] := by rw [hK1, List.map_append, u16_2, u8_2]; rfl
          have hLr : (locsA true (tk2A f) (k + 1)).map cLoc = LS.map cLoc ++ [[Value.int .u32 ((UInt32.ofNat (tkN (tkS (tkS (tkS T 16) 8) 32))).toNat : Int), Value.int .u32 ((UInt32.ofNat (tkN (tkS (tkS (tkS (tkS T 16) 8) 32) 32))).toNat : Int)]] := by rw [hL1, List.map_append]; rfl
          rw [← hKr, ← hLr, ← hT1] at H
          rw [← hT1] at hr2
          exact ⟨mA f - (k + 1), by omega, k + 1, _, _, _, _, a2, c2, rfl, by omega, by (repeat' (first | exact Agree.refl _ _ | exact Agree.havoc | refine Agree.upd rfl ?_ | refine Agree.hav2 rfl ?_)), rfl, hr2, H.picks [5, 6, 1, 7, 8] rfl (by decide)⟩
        · obtain rfl : k = mA f := by omega
          have eT : rowT true (tk2A f) (mA f) = endA f := by unfold endA; rw [e0]
          have eP : pageA f = ⟨true, keysA true (tk2A f) (mA f), locsA true (tk2A f) (mA f), []⟩ := by unfold pageA; rw [e0]; rfl
          rw [eT] at H hr3
          rw [eP] at hA
          clear eP eT hxl
          generalize endA f = T at H hr3 hA
          generalize keysA true (tk2A f) (mA f) = KS at H hA hKl
          generalize locsA true (tk2A f) (mA f) = LS at H hA hLl
          obtain ⟨ak, ck, h7, e7, hle7, hK7, H⟩ := H.freezeR (rows_len3 KS)
          cases e7
          obtain ⟨al, cl, h8, e8, hle8, hL8, H⟩ := H.freezeR (rows_len2 LS)
          cases e8
          have hPg : PgR h8 ⟨true, KS, LS, []⟩ ⟨ak, ck, al, cl, none, 0⟩ := ⟨hK7.mono hle8, hL8, Sl.nil _ _⟩
          simp only [List.length_map] at H
          replace H := H.split
          obtain ⟨te, txs, tbad⟩ := T
          dsimp only at hA H
          cases tbad with
          | true =>
            rw [if_neg (by simp), if_neg (by simp)] at hA
            have hD := decP_eq hA
            repeat' (first | ((first | refine WL.p rfl ?_ | refine WL.u ?_ | refine WL.g rfl rfl ?_ | refine WL.gu rfl ?_); first | refine pvQ ?_ | (refine opk 3 rfl ?_; (refine ost_cmp rfl rfl rfl rfl (fun hc => ?_) (fun hc => ?_) <;> (simp only [cmpP] at hc; try exact prIQ))) | (refine opk 4 rfl ?_; (refine ost_cmp rfl rfl rfl rfl (fun hc => ?_) (fun hc => ?_) <;> (simp only [cmpP] at hc; try exact prIQ))) | (refine opk 8 rfl ?_; first | (refine ost_store1 H rfl rfl vlQ gvQ ixQ (by first | decide | (simp; omega) | (simp; done) | omega) ?_; clear H; intro wk H; simp only [List.set_cons_zero, List.set_cons_succ, Nat.reduceAdd] at H) | (refine ost_storeW H rfl rfl rfl rfl lQ ixQ lQ okQ ?_; clear H; intro wk H; simp only [List.set_cons_zero, List.set_cons_succ, Nat.reduceAdd] at H)) | (refine opk 9 rfl ?_; first | (refine ost_boxq H rfl ?_; clear H; intro bk wk H) | (refine ost_allocA H rfl ?_; clear H; intro bk wk H) | (refine ost_build1 H rfl rfl rfl evQ lsQ rfl ?_; clear H; intro bk wk H))) | refine Wc.seq ?_ | refine then_n ?_ | refine WL.nil ?_ | refine Wc.region ?_ | refine Wc.block ?_ | refine then_r ?_ | refine then_e ?_ | refine inb_e rfl ?_ | refine inb_o rfl ?_ | refine inb_n ?_ | refine inb_r ?_ | refine Wc.skip ?_ | refine Wc.exit ?_ | refine Wc.ret ?_ | refine Wc.cond_true rfl ?_ | refine Wc.cond_false rfl ?_ | (refine Wc.drawn (id := 16) 5 (by kernel_rfl) ?_) | refine WL.skp rfl rfl ?_ | refine WL.sku rfl ?_ | (refine rgs_nil ?_; intro vs wk hE; replace H := H.ext hE; clear hE) | refine RGs.skp (fun _ => rfl) rfl ?_ | (refine RGs.bq (fun _ => rfl) rfl (by intro vs w hE hP; have H := H.ext hE; first | exact dbQ | fail) (fun hc => ?_) (fun hc => ?_) <;> ((try simp only [cmpP, decide_eq_true_eq, decide_eq_false_iff_not, dcd_iff, dcd_no] at hc); try exact prDQ)) | refine RGs.pq (fun _ => rfl) rfl (by intro vs w hE hP; have H := H.ext hE; first | exact dvQ | fail) ?_)
            exact fn_ret2 (v2 := .int _ _) rfl (rv_cellA rfl rfl H.bI lQ) rfl ⟨_, _, H.pick0, zeroA, by rw [hD]; rfl, rfl, by rw [hD]; exact zeroP_R _⟩
          | false =>
            cases hR : rightP ⟨true, KS, LS, []⟩ with
            | false =>
              rw [hR, if_neg (by simp), if_neg (by simp)] at hA
              have hD := decP_eq hA
              have hRR : ∀ w, Sat h8 w → SpecV Tryd.prog 23 #[.agg (pgV ⟨true, KS, LS, []⟩ ⟨ak, ck, al, cl, none, 0⟩).toArray] w (.bool false) := fun w hs => by
                have := page_Right _ _ h8 w hs hPg; rw [hR] at this; exact this
              repeat' (first | ((first | refine WL.p rfl ?_ | refine WL.u ?_ | refine WL.g rfl rfl ?_ | refine WL.gu rfl ?_); first | (refine opk 1 rfl ?_; first | (refine ost_VB H rfl (rd_Done _ _ _ _ _ _ H.bI) rfl ?_ ?_ <;> (intro hc; (try (first | exact (bcon hc ‹_›).elim | exact (bcon ‹_› hc).elim)); try (clear H; intro wk H))) | (refine ost_V H rfl (hRR _ H.sat) rfl ?_; clear H; intro wk H)) | refine pvQ ?_ | (refine opk 3 rfl ?_; (refine ost_cmp rfl rfl rfl rfl (fun hc => ?_) (fun hc => ?_) <;> (simp only [cmpP] at hc; try exact prIQ))) | (refine opk 4 rfl ?_; (refine ost_cmp rfl rfl rfl rfl (fun hc => ?_) (fun hc => ?_) <;> (simp only [cmpP] at hc; try exact prIQ))) | (refine opk 8 rfl ?_; first | (refine ost_store1 H rfl rfl vlQ gvQ ixQ (by first | decide | (simp; omega) | (simp; done) | omega) ?_; clear H; intro wk H; simp only [List.set_cons_zero, List.set_cons_succ, Nat.reduceAdd] at H) | (refine ost_storeW H rfl rfl rfl rfl lQ ixQ lQ okQ ?_; clear H; intro wk H; simp only [List.set_cons_zero, List.set_cons_succ, Nat.reduceAdd] at H)) | (refine opk 9 rfl ?_; first | (refine ost_boxq H rfl ?_; clear H; intro bk wk H) | (refine ost_allocA H rfl ?_; clear H; intro bk wk H) | (refine ost_build1 H rfl rfl rfl evQ lsQ rfl ?_; clear H; intro bk wk H))) | refine Wc.seq ?_ | refine then_n ?_ | refine WL.nil ?_ | refine Wc.region ?_ | refine Wc.block ?_ | refine then_r ?_ | refine then_e ?_ | refine inb_e rfl ?_ | refine inb_o rfl ?_ | refine inb_n ?_ | refine inb_r ?_ | refine Wc.skip ?_ | refine Wc.exit ?_ | refine Wc.ret ?_ | refine Wc.cond_true rfl ?_ | refine Wc.cond_false rfl ?_ | (refine Wc.drawn (id := 16) 5 (by kernel_rfl) ?_) | refine WL.skp rfl rfl ?_ | refine WL.sku rfl ?_ | (refine rgs_nil ?_; intro vs wk hE; replace H := H.ext hE; clear hE) | refine RGs.skp (fun _ => rfl) rfl ?_ | (refine RGs.bq (fun _ => rfl) rfl (by intro vs w hE hP; have H := H.ext hE; first | exact dbQ | fail) (fun hc => ?_) (fun hc => ?_) <;> ((try simp only [cmpP, decide_eq_true_eq, decide_eq_false_iff_not, dcd_iff, dcd_no] at hc); try exact prDQ)) | refine RGs.pq (fun _ => rfl) rfl (by intro vs w hE hP; have H := H.ext hE; first | exact dvQ | fail) ?_)
              all_goals exact fn_ret2 (v2 := .int _ _) rfl (rv_cellA rfl rfl H.bI lQ) rfl ⟨_, _, H.pick0, zeroA, by rw [hD]; rfl, rfl, by rw [hD]; exact zeroP_R _⟩
            | true =>
              have hRR : ∀ w, Sat h8 w → SpecV Tryd.prog 23 #[.agg (pgV ⟨true, KS, LS, []⟩ ⟨ak, ck, al, cl, none, 0⟩).toArray] w (.bool true) := fun w hs => by
                have := page_Right _ _ h8 w hs hPg; rw [hR] at this; exact this
              repeat' (first | ((first | refine WL.p rfl ?_ | refine WL.u ?_ | refine WL.g rfl rfl ?_ | refine WL.gu rfl ?_); first | (refine opk 1 rfl ?_; first | (refine ost_VB H rfl (rd_Done _ _ _ _ _ _ H.bI) rfl ?_ ?_ <;> (intro hc; (try (first | exact (bcon hc ‹_›).elim | exact (bcon ‹_› hc).elim)); try (clear H; intro wk H))) | (refine ost_V H rfl (hRR _ H.sat) rfl ?_; clear H; intro wk H)) | refine pvQ ?_ | (refine opk 3 rfl ?_; (refine ost_cmp rfl rfl rfl rfl (fun hc => ?_) (fun hc => ?_) <;> (simp only [cmpP] at hc; try exact prIQ))) | (refine opk 4 rfl ?_; (refine ost_cmp rfl rfl rfl rfl (fun hc => ?_) (fun hc => ?_) <;> (simp only [cmpP] at hc; try exact prIQ))) | (refine opk 8 rfl ?_; first | (refine ost_store1 H rfl rfl vlQ gvQ ixQ (by first | decide | (simp; omega) | (simp; done) | omega) ?_; clear H; intro wk H; simp only [List.set_cons_zero, List.set_cons_succ, Nat.reduceAdd] at H) | (refine ost_storeW H rfl rfl rfl rfl lQ ixQ lQ okQ ?_; clear H; intro wk H; simp only [List.set_cons_zero, List.set_cons_succ, Nat.reduceAdd] at H)) | (refine opk 9 rfl ?_; first | (refine ost_boxq H rfl ?_; clear H; intro bk wk H) | (refine ost_allocA H rfl ?_; clear H; intro bk wk H) | (refine ost_build1 H rfl rfl rfl evQ lsQ rfl ?_; clear H; intro bk wk H))) | refine Wc.seq ?_ | refine then_n ?_ | refine WL.nil ?_ | refine Wc.region ?_ | refine Wc.block ?_ | refine then_r ?_ | refine then_e ?_ | refine inb_e rfl ?_ | refine inb_o rfl ?_ | refine inb_n ?_ | refine inb_r ?_ | refine Wc.skip ?_ | refine Wc.exit ?_ | refine Wc.ret ?_ | refine Wc.cond_true rfl ?_ | refine Wc.cond_false rfl ?_ | (refine Wc.drawn (id := 16) 5 (by kernel_rfl) ?_) | refine WL.skp rfl rfl ?_ | refine WL.sku rfl ?_ | (refine rgs_nil ?_; intro vs wk hE; replace H := H.ext hE; clear hE) | refine RGs.skp (fun _ => rfl) rfl ?_ | (refine RGs.bq (fun _ => rfl) rfl (by intro vs w hE hP; have H := H.ext hE; first | exact dbQ | fail) (fun hc => ?_) (fun hc => ?_) <;> ((try simp only [cmpP, decide_eq_true_eq, decide_eq_false_iff_not, dcd_iff, dcd_no] at hc); try exact prDQ)) | refine RGs.pq (fun _ => rfl) rfl (by intro vs w hE hP; have H := H.ext hE; first | exact dvQ | fail) ?_)
              · have hd : te = 0 ∧ txs = [] := by
                  simp only [Bool.and_eq_true, decide_eq_true_eq, List.length_eq_zero_iff] at hc; exact hc
                rw [if_pos ⟨rfl, hd.1, hd.2, hR⟩, if_pos ⟨rfl, hd.1, hd.2, hR⟩] at hA
                have hD := decP_eq hA
                exact fn_ret2 (v2 := .int _ _) rfl (rv_cellA rfl rfl H.bI lQ) rfl ⟨_, _, H.pick0, ⟨ak, ck, al, cl, none, 0⟩, by rw [hD]; rfl, rfl, by rw [hD]; exact hPg⟩
              · have hd : ¬ (te = 0 ∧ txs = []) := fun h => by
                  rw [h.1, h.2] at hc; simp at hc
                rw [if_neg fun h => hd ⟨h.2.1, h.2.2.1⟩, if_neg fun h => hd ⟨h.2.1, h.2.2.1⟩] at hA
                have hD := decP_eq hA
                exact fn_ret2 (v2 := .int _ _) rfl (rv_cellA rfl rfl H.bI lQ) rfl ⟨_, _, H.pick0, zeroA, by rw [hD]; rfl, rfl, by rw [hD]; exact zeroP_R _⟩
      · have e0 : lfA f = false := by unfold lfA; rw [decide_eq_false_iff_not]; omega
        replace H : St w [] h0 hfk [ownR (.slice none (([] : List KeyT).map cKey).length 0) 42 3 (([] : List KeyT).map cKey), ownR (.slice none (([] : List UInt32).map cKid).length 0) 28 1 (([] : List UInt32).map cKid), tkp bt b1 (tk2A f) a2 c2, .blk bp (.cells (pgL false 0 0 0 none 0 none 0 none 0).toArray 40 (0, 0)), .blk b2 (.cells (pgL false 0 0 0 none 0 none 0 none 0).toArray 40 (0, 0))] wk := (H.nilOwn 28 1).nilOwn 42 3
        replace hr2 : BS hfk a2 c2 (tk2A f).xs := hr2
        have hm9 : ((min ((UInt32.ofNat (tkN (tkS (tkA f) 1))).toNat : Int) 9)) = ((mA f : Nat) : Int) := by unfold mA cntA; omega
        have hm8 : mA f ≤ 9 := by unfold mA; omega
        refine Wc.loopE (fun s0 m s w' => ∃ (k : Nat) (ak : Option Addr) (ck : Nat) (al : Option Addr) (cl : Nat) (a3 : Option Addr) (c3 : Nat), m = mA f - k ∧ k ≤ mA f ∧ Agree [10, 11, 39, 40, 41, 42, 43, 44, 45, 46, 47, 48, 49, 50, 51, 52, 53, 54, 55, 56, 57, 58, 59, 60, 61, 62, 63, 64, 65, 66, 67, 68, 69, 70, 71, 72, 73, 74, 75, 76, 77, 78, 79, 80, 81, 82] s s0 ∧ s 39 = .int .u32 k ∧ BS hfk a3 c3 (rowT false (tk2A f) k).xs ∧
          St w [] h0 hfk [ownR (.slice ak ((keysA false (tk2A f) k).map cKey).length ck) 42 3 ((keysA false (tk2A f) k).map cKey), ownR (.slice al ((kidsA false (tk2A f) k).map cKid).length cl) 28 1 ((kidsA false (tk2A f) k).map cKid), tkp bt b1 (rowT false (tk2A f) k) a3 c3,
            .blk bp (.cells [Value.bool false, .slice ak ((keysA false (tk2A f) k).map cKey).length ck, .slice none 0 0, .slice al ((kidsA false (tk2A f) k).map cKid).length cl].toArray 40 (0, 0)), .blk b2 (.cells (pgL false 0 0 0 none 0 none 0 none 0).toArray 40 (0, 0))] w') (mA f) ⟨0, _, _, _, _, _, _, rfl, by omega, Agree.refl _ _, rfl, hr2, H⟩ ?_
        clear H hr2
        rintro m s w' ⟨k, ak, ck, al, cl, a3, c3, rfl, hk9, hA9, e1, hr3, H⟩
        obtain ⟨j, rfl⟩ := hA9.env1 e1
        clear hA9 e1
        have hxl := rowT_len false (tk2A f) k
        have hKl : ((keysA false (tk2A f) k).map cKey).length = k := by rw [List.length_map, keysA_len]
        have hLl : ((kidsA false (tk2A f) k).map cKid).length = k := by simp [kidsA]
        by_cases hlt : k < mA f
        · have hT1 : rowT false (tk2A f) (k + 1) = tkS (tkS (tkS (tkS (rowT false (tk2A f) k) 16) 8) 32) 32 := rfl
          have hV1 : rowV false (tk2A f) k = [tkN (rowT false (tk2A f) k), tkN (tkS (rowT false (tk2A f) k) 16), tkN (tkS (tkS (rowT false (tk2A f) k) 16) 8), tkN (tkS (tkS (tkS (rowT false (tk2A f) k) 16) 8) 32)] := rfl
          have hK1 := keysA_succ false (tk2A f) k
          have hL1 := kidsA_succ (tk2A f) k
          rw [hV1] at hK1 hL1
          generalize rowT false (tk2A f) k = T at H hr3 hT1 hK1 hL1 hxl
          generalize keysA false (tk2A f) k = KS at H hK1 hKl
          generalize kidsA false (tk2A f) k = LS at H hL1 hLl
          have hrk := rows_len3 KS
          have hrl := rows_len1 LS
          repeat' (first | ((first | refine WL.p rfl ?_ | refine WL.u ?_ | refine WL.g rfl rfl ?_ | refine WL.gu rfl ?_); first | (refine opk 1 rfl ?_; first | (refine ost_H (A := tkp _ _ _ _ _) H rfl (by (exact ixQ)) (fun HO => tkp_num 16 _ _ _ _ _ _ _ HO (by assumption) (by decide)) rfl ?_; clear H; rintro vk wk hfk Lk ⟨rfl, rfl, a2, c2, hr2, rfl⟩ hle H; simp only [List.cons_append, List.nil_append, List.eraseIdx_cons_zero, List.eraseIdx_cons_succ] at H) | (refine ost_H (A := tkp _ _ _ _ _) H rfl (by (exact ixQ)) (fun HO => tkp_num 8 _ _ _ _ _ _ _ HO (by assumption) (by decide)) rfl ?_; clear H; rintro vk wk hfk Lk ⟨rfl, rfl, a2, c2, hr2, rfl⟩ hle H; simp only [List.cons_append, List.nil_append, List.eraseIdx_cons_zero, List.eraseIdx_cons_succ] at H) | (refine ost_H (A := tkp _ _ _ _ _) H rfl (by (exact ixQ)) (fun HO => tkp_num 32 _ _ _ _ _ _ _ HO (by assumption) (by decide)) rfl ?_; clear H; rintro vk wk hfk Lk ⟨rfl, rfl, a2, c2, hr2, rfl⟩ hle H; simp only [List.cons_append, List.nil_append, List.eraseIdx_cons_zero, List.eraseIdx_cons_succ] at H) | (refine ost_appR (rows := KS.map cKey) (row := [Value.int .u16 (IntKind.u16.wrap ((UInt32.ofNat (tkN T)).toNat : Int)), Value.int .u8 (IntKind.u8.wrap ((UInt32.ofNat (tkN (tkS T 16))).toNat : Int)), Value.int .u32 ((UInt32.ofNat (tkN (tkS (tkS T 16) 8))).toNat : Int)]) H rfl rfl rfl (by (exact ixQ)) (by (exact ixQ)) (by rfl) (by first | simp; done | exact Nat.succ_pos _) rfl (allOne_of rfl) rfl (by omega) ?_; clear H; intro aa ca wk H; simp only [List.set_cons_zero, List.set_cons_succ] at H) | (refine ost_appR (rows := LS.map cKid) (row := [Value.int .u32 ((UInt32.ofNat (tkN (tkS (tkS (tkS T 16) 8) 32))).toNat : Int)]) H rfl rfl rfl (by (exact ixQ)) (by (exact ixQ)) (by rfl) (by first | simp; done | exact Nat.succ_pos _) rfl (allOne_of rfl) rfl (by omega) ?_; clear H; intro aa ca wk H; simp only [List.set_cons_zero, List.set_cons_succ] at H)) | (refine opk 9 rfl ?_; (refine ost_buildR (rows := [[Value.int .u16 (IntKind.u16.wrap ((UInt32.ofNat (tkN T)).toNat : Int)), Value.int .u8 (IntKind.u8.wrap ((UInt32.ofNat (tkN (tkS T 16))).toNat : Int)), Value.int .u32 ((UInt32.ofNat (tkN (tkS (tkS T 16) 8))).toNat : Int)]]) H rfl (by decide) rfl (by rfl) (evP1 vxQ) (.cons rfl .nil) rfl (fun r hr => by rw [List.mem_singleton.1 hr]; rfl) ?_; clear H; intro bk wk H)) | refine pvQ ?_ | (refine opk 3 rfl ?_; (refine ost_cmp rfl rfl rfl rfl (fun hc => ?_) (fun hc => ?_) <;> (simp only [cmpP] at hc; try exact prIQ))) | (refine opk 4 rfl ?_; (refine ost_cmp rfl rfl rfl rfl (fun hc => ?_) (fun hc => ?_) <;> (simp only [cmpP] at hc; try exact prIQ))) | (refine opk 8 rfl ?_; first | (refine ost_store1 H rfl rfl vlQ gvQ ixQ (by first | decide | (simp; omega) | (simp; done) | omega) ?_; clear H; intro wk H; simp only [List.set_cons_zero, List.set_cons_succ, Nat.reduceAdd] at H) | (refine ost_storeW H rfl rfl rfl rfl lQ ixQ lQ okQ ?_; clear H; intro wk H; simp only [List.set_cons_zero, List.set_cons_succ, Nat.reduceAdd] at H)) | (refine opk 9 rfl ?_; first | (refine ost_boxq H rfl ?_; clear H; intro bk wk H) | (refine ost_allocA H rfl ?_; clear H; intro bk wk H) | (refine ost_build1 H rfl rfl rfl evQ lsQ rfl ?_; clear H; intro bk wk H))) | refine Wc.seq ?_ | refine then_n ?_ | refine WL.nil ?_ | refine Wc.region ?_ | refine Wc.block ?_ | refine then_r ?_ | refine then_e ?_ | refine inb_e rfl ?_ | refine inb_o rfl ?_ | refine inb_n ?_ | refine inb_r ?_ | refine Wc.skip ?_ | refine Wc.exit ?_ | refine Wc.ret ?_ | refine Wc.cond_true rfl ?_ | refine Wc.cond_false rfl ?_ | refine WL.skp rfl rfl ?_ | refine WL.sku rfl ?_ | (refine Wc.drawM (id := 16) 5 [(3, [tkp bt b1 (tkS (tkS (tkS T 16) 8) 32) a2 c2], fun v L' => v = Value.int .u32 ((UInt32.ofNat (tkN (tkS (tkS (tkS T 16) 8) 32))).toNat : Int) ∧ ∃ a' c', BS hfk a' c' (tkS (tkS (tkS (tkS T 16) 8) 32) 32).xs ∧ L' = [tkp bt b1 (tkS (tkS (tkS (tkS T 16) 8) 32) 32) a' c']), (4, [], fun v L' => ∃ b, v = Value.slice (some ⟨b, 0, none⟩) 1 1 ∧ L' = [ownR (Value.slice (some ⟨b, 0, none⟩) 1 1) 28 1 [[Value.int .u32 ((UInt32.ofNat (tkN (tkS (tkS (tkS T 16) 8) 32))).toNat : Int)]]])] [ownR _ _ _ _, .blk _ _, ownR _ _ _ _, ownR _ _ _ _, .blk _ _, .blk _ _] [3, 4] H (by kernel_rfl) rfl (by kernel_rfl) (perm_pick [0, 2, 3, 4, 5, 6, 1] 7 rfl (by decide) rfl) ?_) | (refine rgm_nil ?_; intro vs wk outs HM hR; obtain ⟨v3, ⟨e3, a2, c2, hr2, o3⟩, h3⟩ := hR 3 _ rfl; have hv3 : vs (0 + 1 + 1 + 1) = _ := (h3 (by kernel_rfl)).trans e3; obtain ⟨v4, ⟨b4, e4, o4⟩, h4⟩ := hR 4 _ rfl; have hv4 : vs (0 + 1 + 1 + 1 + 1) = _ := (h4 (by kernel_rfl)).trans e4; simp only [outsL, o3, o4, List.cons_append, List.nil_append, List.append_nil] at HM; (try dsimp only); rw [hv3, hv4]; replace H := HM; clear HM hR) | refine RGm.skp (fun _ => rfl) rfl ?_ | (refine RGm.bq (fun _ => rfl) rfl (by intro vs w TT hP H; simp only [List.cons_append, List.nil_append] at H; first | exact dbQ | fail) (fun hc => ?_) (fun hc => ?_) <;> ((try simp only [cmpP, decide_eq_true_eq, decide_eq_false_iff_not, dcd_iff, dcd_no] at hc); try exact prDQ)) | refine RGm.pq (fun _ => rfl) rfl (by intro vs w TT hP H; simp only [List.cons_append, List.nil_append] at H; first | exact dvQ | fail) ?_ | refine RGm.mq (fun _ => rfl) rfl (by intro vs w TT hP H; simp only [List.cons_append, List.nil_append] at H; first | (refine ost_H (A := tkp _ _ _ _ _) H rfl ixQ (fun HO => tkp_num 32 _ _ _ _ _ _ _ HO (by assumption) (by decide)) rfl ?_; rintro vk wk hfk2 Lk ⟨rfl, rfl, a8, c8, hr8, rfl⟩ hle2 H2; simp only [List.cons_append, List.nil_append, List.eraseIdx_cons_zero, List.eraseIdx_cons_succ] at H2; exact ⟨_, ⟨rfl, a8, c8, hr8, rfl⟩, H2⟩) | (obtain ⟨L9, e9, -⟩ := hP 3 _ (by kernel_rfl) rfl rfl; have e8 : vs (0 + 1 + 1 + 1) = _ := e9; rw [e8]; refine ost_buildR (rows := [[Value.int .u32 ((UInt32.ofNat (tkN (tkS (tkS (tkS T 16) 8) 32))).toNat : Int)]]) H rfl (by decide) rfl (by rfl) (evP1 vxQ) (.cons rfl .nil) rfl (by simp) ?_; intro bk wk H2; exact ⟨[_], ⟨_, rfl, rfl⟩, H2⟩) | fail) ?_ | refine RGm.mu rfl (by intro vs w TT hP H; simp only [List.cons_append, List.nil_append] at H; first | (refine ost_H (A := tkp _ _ _ _ _) H rfl ixQ (fun HO => tkp_num 32 _ _ _ _ _ _ _ HO (by assumption) (by decide)) rfl ?_; rintro vk wk hfk2 Lk ⟨rfl, rfl, a8, c8, hr8, rfl⟩ hle2 H2; simp only [List.cons_append, List.nil_append, List.eraseIdx_cons_zero, List.eraseIdx_cons_succ] at H2; exact ⟨_, ⟨rfl, a8, c8, hr8, rfl⟩, H2⟩) | (obtain ⟨L9, e9, -⟩ := hP 3 _ (by kernel_rfl) rfl rfl; have e8 : vs (0 + 1 + 1 + 1) = _ := e9; rw [e8]; refine ost_buildR (rows := [[Value.int .u32 ((UInt32.ofNat (tkN (tkS (tkS (tkS T 16) 8) 32))).toNat : Int)]]) H rfl (by decide) rfl (by rfl) (evP1 vxQ) (.cons rfl .nil) rfl (by simp) ?_; intro bk wk H2; exact ⟨[_], ⟨_, rfl, rfl⟩, H2⟩) | fail) ?_)
          have hKr : (keysA false (tk2A f) (k + 1)).map cKey = KS.map cKey ++ [[Value.int .u16 (IntKind.u16.wrap ((UInt32.ofNat (tkN T)).toNat : Int)), Value.int .u8 (IntKind.u8.wrap ((UInt32.ofNat (tkN (tkS T 16))).toNat : Int)), Value.int .u32 ((UInt32.ofNat (tkN (tkS (tkS T 16) 8))).toNat : Int)]] := by rw [hK1, List.map_append, u16_2, u8_2]; rfl
          have hLr : (kidsA false (tk2A f) (k + 1)).map cKid = LS.map cKid ++ [[Value.int .u32 ((UInt32.ofNat (tkN (tkS (tkS (tkS T 16) 8) 32))).toNat : Int)]] := by rw [hL1, List.map_append]; rfl
          rw [← hKr, ← hLr, ← hT1] at H
          rw [← hT1] at hr2
          exact ⟨mA f - (k + 1), by omega, k + 1, _, _, _, _, a2, c2, rfl, by omega, by (repeat' (first | exact Agree.refl _ _ | exact Agree.havoc | refine Agree.upd rfl ?_ | refine Agree.hav2 rfl ?_)), rfl, hr2, H.picks [2, 3, 6, 4, 5] rfl (by decide)⟩
        · obtain rfl : k = mA f := by omega
          have eT : rowT false (tk2A f) (mA f) = endA f := by unfold endA; rw [e0]
          have eP : pageA f = ⟨false, keysA false (tk2A f) (mA f), [], kidsA false (tk2A f) (mA f)⟩ := by unfold pageA; rw [e0]; rfl
          rw [eT] at H hr3
          rw [eP] at hA
          clear eP eT hxl
          generalize endA f = T at H hr3 hA
          generalize keysA false (tk2A f) (mA f) = KS at H hA hKl
          generalize kidsA false (tk2A f) (mA f) = LS at H hA hLl
          obtain ⟨ak, ck, h7, e7, hle7, hK7, H⟩ := H.freezeR (rows_len3 KS)
          cases e7
          obtain ⟨al, cl, h8, e8, hle8, hL8, H⟩ := H.freezeR (rows_len1 LS)
          cases e8
          have hPg : PgR h8 ⟨false, KS, [], LS⟩ ⟨ak, ck, none, 0, al, cl⟩ := ⟨hK7.mono hle8, Sl.nil _ _, hL8⟩
          simp only [List.length_map] at H
          replace H := H.split
          obtain ⟨te, txs, tbad⟩ := T
          dsimp only at hA H
          cases tbad with
          | true =>
            rw [if_neg (by simp), if_neg (by simp)] at hA
            have hD := decP_eq hA
            repeat' (first | ((first | refine WL.p rfl ?_ | refine WL.u ?_ | refine WL.g rfl rfl ?_ | refine WL.gu rfl ?_); first | refine pvQ ?_ | (refine opk 3 rfl ?_; (refine ost_cmp rfl rfl rfl rfl (fun hc => ?_) (fun hc => ?_) <;> (simp only [cmpP] at hc; try exact prIQ))) | (refine opk 4 rfl ?_; (refine ost_cmp rfl rfl rfl rfl (fun hc => ?_) (fun hc => ?_) <;> (simp only [cmpP] at hc; try exact prIQ))) | (refine opk 8 rfl ?_; first | (refine ost_store1 H rfl rfl vlQ gvQ ixQ (by first | decide | (simp; omega) | (simp; done) | omega) ?_; clear H; intro wk H; simp only [List.set_cons_zero, List.set_cons_succ, Nat.reduceAdd] at H) | (refine ost_storeW H rfl rfl rfl rfl lQ ixQ lQ okQ ?_; clear H; intro wk H; simp only [List.set_cons_zero, List.set_cons_succ, Nat.reduceAdd] at H)) | (refine opk 9 rfl ?_; first | (refine ost_boxq H rfl ?_; clear H; intro bk wk H) | (refine ost_allocA H rfl ?_; clear H; intro bk wk H) | (refine ost_build1 H rfl rfl rfl evQ lsQ rfl ?_; clear H; intro bk wk H))) | refine Wc.seq ?_ | refine then_n ?_ | refine WL.nil ?_ | refine Wc.region ?_ | refine Wc.block ?_ | refine then_r ?_ | refine then_e ?_ | refine inb_e rfl ?_ | refine inb_o rfl ?_ | refine inb_n ?_ | refine inb_r ?_ | refine Wc.skip ?_ | refine Wc.exit ?_ | refine Wc.ret ?_ | refine Wc.cond_true rfl ?_ | refine Wc.cond_false rfl ?_ | (refine Wc.drawn (id := 16) 5 (by kernel_rfl) ?_) | refine WL.skp rfl rfl ?_ | refine WL.sku rfl ?_ | (refine rgs_nil ?_; intro vs wk hE; replace H := H.ext hE; clear hE) | refine RGs.skp (fun _ => rfl) rfl ?_ | (refine RGs.bq (fun _ => rfl) rfl (by intro vs w hE hP; have H := H.ext hE; first | exact dbQ | fail) (fun hc => ?_) (fun hc => ?_) <;> ((try simp only [cmpP, decide_eq_true_eq, decide_eq_false_iff_not, dcd_iff, dcd_no] at hc); try exact prDQ)) | refine RGs.pq (fun _ => rfl) rfl (by intro vs w hE hP; have H := H.ext hE; first | exact dvQ | fail) ?_)
            exact fn_ret2 (v2 := .int _ _) rfl (rv_cellA rfl rfl H.bI lQ) rfl ⟨_, _, H.pick0, zeroA, by rw [hD]; rfl, rfl, by rw [hD]; exact zeroP_R _⟩
          | false =>
            cases hR : rightP ⟨false, KS, [], LS⟩ with
            | false =>
              rw [hR, if_neg (by simp), if_neg (by simp)] at hA
              have hD := decP_eq hA
              have hRR : ∀ w, Sat h8 w → SpecV Tryd.prog 23 #[.agg (pgV ⟨false, KS, [], LS⟩ ⟨ak, ck, none, 0, al, cl⟩).toArray] w (.bool false) := fun w hs => by
                have := page_Right _ _ h8 w hs hPg; rw [hR] at this; exact this
              repeat' (first | ((first | refine WL.p rfl ?_ | refine WL.u ?_ | refine WL.g rfl rfl ?_ | refine WL.gu rfl ?_); first | (refine opk 1 rfl ?_; first | (refine ost_VB H rfl (rd_Done _ _ _ _ _ _ H.bI) rfl ?_ ?_ <;> (intro hc; (try (first | exact (bcon hc ‹_›).elim | exact (bcon ‹_› hc).elim)); try (clear H; intro wk H))) | (refine ost_V H rfl (hRR _ H.sat) rfl ?_; clear H; intro wk H)) | refine pvQ ?_ | (refine opk 3 rfl ?_; (refine ost_cmp rfl rfl rfl rfl (fun hc => ?_) (fun hc => ?_) <;> (simp only [cmpP] at hc; try exact prIQ))) | (refine opk 4 rfl ?_; (refine ost_cmp rfl rfl rfl rfl (fun hc => ?_) (fun hc => ?_) <;> (simp only [cmpP] at hc; try exact prIQ))) | (refine opk 8 rfl ?_; first | (refine ost_store1 H rfl rfl vlQ gvQ ixQ (by first | decide | (simp; omega) | (simp; done) | omega) ?_; clear H; intro wk H; simp only [List.set_cons_zero, List.set_cons_succ, Nat.reduceAdd] at H) | (refine ost_storeW H rfl rfl rfl rfl lQ ixQ lQ okQ ?_; clear H; intro wk H; simp only [List.set_cons_zero, List.set_cons_succ, Nat.reduceAdd] at H)) | (refine opk 9 rfl ?_; first | (refine ost_boxq H rfl ?_; clear H; intro bk wk H) | (refine ost_allocA H rfl ?_; clear H; intro bk wk H) | (refine ost_build1 H rfl rfl rfl evQ lsQ rfl ?_; clear H; intro bk wk H))) | refine Wc.seq ?_ | refine then_n ?_ | refine WL.nil ?_ | refine Wc.region ?_ | refine Wc.block ?_ | refine then_r ?_ | refine then_e ?_ | refine inb_e rfl ?_ | refine inb_o rfl ?_ | refine inb_n ?_ | refine inb_r ?_ | refine Wc.skip ?_ | refine Wc.exit ?_ | refine Wc.ret ?_ | refine Wc.cond_true rfl ?_ | refine Wc.cond_false rfl ?_ | (refine Wc.drawn (id := 16) 5 (by kernel_rfl) ?_) | refine WL.skp rfl rfl ?_ | refine WL.sku rfl ?_ | (refine rgs_nil ?_; intro vs wk hE; replace H := H.ext hE; clear hE) | refine RGs.skp (fun _ => rfl) rfl ?_ | (refine RGs.bq (fun _ => rfl) rfl (by intro vs w hE hP; have H := H.ext hE; first | exact dbQ | fail) (fun hc => ?_) (fun hc => ?_) <;> ((try simp only [cmpP, decide_eq_true_eq, decide_eq_false_iff_not, dcd_iff, dcd_no] at hc); try exact prDQ)) | refine RGs.pq (fun _ => rfl) rfl (by intro vs w hE hP; have H := H.ext hE; first | exact dvQ | fail) ?_)
              all_goals exact fn_ret2 (v2 := .int _ _) rfl (rv_cellA rfl rfl H.bI lQ) rfl ⟨_, _, H.pick0, zeroA, by rw [hD]; rfl, rfl, by rw [hD]; exact zeroP_R _⟩
            | true =>
              have hRR : ∀ w, Sat h8 w → SpecV Tryd.prog 23 #[.agg (pgV ⟨false, KS, [], LS⟩ ⟨ak, ck, none, 0, al, cl⟩).toArray] w (.bool true) := fun w hs => by
                have := page_Right _ _ h8 w hs hPg; rw [hR] at this; exact this
              repeat' (first | ((first | refine WL.p rfl ?_ | refine WL.u ?_ | refine WL.g rfl rfl ?_ | refine WL.gu rfl ?_); first | (refine opk 1 rfl ?_; first | (refine ost_VB H rfl (rd_Done _ _ _ _ _ _ H.bI) rfl ?_ ?_ <;> (intro hc; (try (first | exact (bcon hc ‹_›).elim | exact (bcon ‹_› hc).elim)); try (clear H; intro wk H))) | (refine ost_V H rfl (hRR _ H.sat) rfl ?_; clear H; intro wk H)) | refine pvQ ?_ | (refine opk 3 rfl ?_; (refine ost_cmp rfl rfl rfl rfl (fun hc => ?_) (fun hc => ?_) <;> (simp only [cmpP] at hc; try exact prIQ))) | (refine opk 4 rfl ?_; (refine ost_cmp rfl rfl rfl rfl (fun hc => ?_) (fun hc => ?_) <;> (simp only [cmpP] at hc; try exact prIQ))) | (refine opk 8 rfl ?_; first | (refine ost_store1 H rfl rfl vlQ gvQ ixQ (by first | decide | (simp; omega) | (simp; done) | omega) ?_; clear H; intro wk H; simp only [List.set_cons_zero, List.set_cons_succ, Nat.reduceAdd] at H) | (refine ost_storeW H rfl rfl rfl rfl lQ ixQ lQ okQ ?_; clear H; intro wk H; simp only [List.set_cons_zero, List.set_cons_succ, Nat.reduceAdd] at H)) | (refine opk 9 rfl ?_; first | (refine ost_boxq H rfl ?_; clear H; intro bk wk H) | (refine ost_allocA H rfl ?_; clear H; intro bk wk H) | (refine ost_build1 H rfl rfl rfl evQ lsQ rfl ?_; clear H; intro bk wk H))) | refine Wc.seq ?_ | refine then_n ?_ | refine WL.nil ?_ | refine Wc.region ?_ | refine Wc.block ?_ | refine then_r ?_ | refine then_e ?_ | refine inb_e rfl ?_ | refine inb_o rfl ?_ | refine inb_n ?_ | refine inb_r ?_ | refine Wc.skip ?_ | refine Wc.exit ?_ | refine Wc.ret ?_ | refine Wc.cond_true rfl ?_ | refine Wc.cond_false rfl ?_ | (refine Wc.drawn (id := 16) 5 (by kernel_rfl) ?_) | refine WL.skp rfl rfl ?_ | refine WL.sku rfl ?_ | (refine rgs_nil ?_; intro vs wk hE; replace H := H.ext hE; clear hE) | refine RGs.skp (fun _ => rfl) rfl ?_ | (refine RGs.bq (fun _ => rfl) rfl (by intro vs w hE hP; have H := H.ext hE; first | exact dbQ | fail) (fun hc => ?_) (fun hc => ?_) <;> ((try simp only [cmpP, decide_eq_true_eq, decide_eq_false_iff_not, dcd_iff, dcd_no] at hc); try exact prDQ)) | refine RGs.pq (fun _ => rfl) rfl (by intro vs w hE hP; have H := H.ext hE; first | exact dvQ | fail) ?_)
              · have hd : te = 0 ∧ txs = [] := by
                  simp only [Bool.and_eq_true, decide_eq_true_eq, List.length_eq_zero_iff] at hc; exact hc
                rw [if_pos ⟨rfl, hd.1, hd.2, hR⟩, if_pos ⟨rfl, hd.1, hd.2, hR⟩] at hA
                have hD := decP_eq hA
                exact fn_ret2 (v2 := .int _ _) rfl (rv_cellA rfl rfl H.bI lQ) rfl ⟨_, _, H.pick0, ⟨ak, ck, none, 0, al, cl⟩, by rw [hD]; rfl, rfl, by rw [hD]; exact hPg⟩
              · have hd : ¬ (te = 0 ∧ txs = []) := fun h => by
                  rw [h.1, h.2] at hc; simp at hc
                rw [if_neg fun h => hd ⟨h.2.1, h.2.2.1⟩, if_neg fun h => hd ⟨h.2.1, h.2.2.1⟩] at hA
                have hD := decP_eq hA
                exact fn_ret2 (v2 := .int _ _) rfl (rv_cellA rfl rfl H.bI lQ) rfl ⟨_, _, H.pick0, zeroA, by rw [hD]; rfl, rfl, by rw [hD]; exact zeroP_R _⟩
    · rw [decP_eq (hN fun h => hk h.2)]
      repeat' (first | ((first | refine WL.p rfl ?_ | refine WL.u ?_ | refine WL.g rfl rfl ?_ | refine WL.gu rfl ?_); first | (refine opk 1 rfl ?_; (refine ost_Sk H rfl (hFF _ H.sat hT hr (by omega)) rfl ?_; clear H; rintro vk wk hfk Lk ⟨a1, c1, rfl, rfl, rfl⟩ hle H; simp only [List.cons_append, List.nil_append] at H)) | refine pvQ ?_ | (refine opk 3 rfl ?_; (refine ost_cmp rfl rfl rfl rfl (fun hc => ?_) (fun hc => ?_) <;> (simp only [cmpP] at hc; try exact prIQ))) | (refine opk 4 rfl ?_; (refine ost_cmp rfl rfl rfl rfl (fun hc => ?_) (fun hc => ?_) <;> (simp only [cmpP] at hc; try exact prIQ))) | (refine opk 8 rfl ?_; first | (refine ost_store1 H rfl rfl vlQ gvQ ixQ (by first | decide | (simp; omega) | (simp; done) | omega) ?_; clear H; intro wk H; simp only [List.set_cons_zero, List.set_cons_succ, Nat.reduceAdd] at H) | (refine ost_storeW H rfl rfl rfl rfl lQ ixQ lQ okQ ?_; clear H; intro wk H; simp only [List.set_cons_zero, List.set_cons_succ, Nat.reduceAdd] at H)) | (refine opk 9 rfl ?_; first | (refine ost_boxq H rfl ?_; clear H; intro bk wk H) | (refine ost_allocA H rfl ?_; clear H; intro bk wk H) | (refine ost_build1 H rfl rfl rfl evQ lsQ rfl ?_; clear H; intro bk wk H))) | refine Wc.seq ?_ | refine then_n ?_ | refine WL.nil ?_ | refine Wc.region ?_ | refine Wc.block ?_ | refine then_r ?_ | refine then_e ?_ | refine inb_e rfl ?_ | refine inb_o rfl ?_ | refine inb_n ?_ | refine inb_r ?_ | refine Wc.skip ?_ | refine Wc.exit ?_ | refine Wc.ret ?_ | refine Wc.cond_true rfl ?_ | refine Wc.cond_false rfl ?_ | (refine Wc.drawn (id := 16) 5 (by kernel_rfl) ?_) | refine WL.skp rfl rfl ?_ | refine WL.sku rfl ?_ | (refine rgs_nil ?_; intro vs wk hE; replace H := H.ext hE; clear hE) | refine RGs.skp (fun _ => rfl) rfl ?_ | (refine RGs.bq (fun _ => rfl) rfl (by intro vs w hE hP; have H := H.ext hE; first | exact dbQ | fail) (fun hc => ?_) (fun hc => ?_) <;> ((try simp only [cmpP, decide_eq_true_eq, decide_eq_false_iff_not, dcd_iff, dcd_no] at hc); try exact prDQ)) | refine RGs.pq (fun _ => rfl) rfl (by intro vs w hE hP; have H := H.ext hE; first | exact dvQ | fail) ?_)
      exact fn_ret2 (v2 := .int _ _) rfl (rv_cellA rfl rfl H.bI lQ) rfl ⟨_, _, H.pick0, zeroA, rfl, rfl, zeroP_R _⟩
  · rw [decP_eq (hN fun h => he (by have := h.1; omega))]
    repeat' (first | ((first | refine WL.p rfl ?_ | refine WL.u ?_ | refine WL.g rfl rfl ?_ | refine WL.gu rfl ?_); first | (refine opk 1 rfl ?_; (refine ost_Sk H rfl (hFF _ H.sat hT hr (by omega)) rfl ?_; clear H; rintro vk wk hfk Lk ⟨a1, c1, rfl, rfl, rfl⟩ hle H; simp only [List.cons_append, List.nil_append] at H)) | refine pvQ ?_ | (refine opk 3 rfl ?_; (refine ost_cmp rfl rfl rfl rfl (fun hc => ?_) (fun hc => ?_) <;> (simp only [cmpP] at hc; try exact prIQ))) | (refine opk 4 rfl ?_; (refine ost_cmp rfl rfl rfl rfl (fun hc => ?_) (fun hc => ?_) <;> (simp only [cmpP] at hc; try exact prIQ))) | (refine opk 8 rfl ?_; first | (refine ost_store1 H rfl rfl vlQ gvQ ixQ (by first | decide | (simp; omega) | (simp; done) | omega) ?_; clear H; intro wk H; simp only [List.set_cons_zero, List.set_cons_succ, Nat.reduceAdd] at H) | (refine ost_storeW H rfl rfl rfl rfl lQ ixQ lQ okQ ?_; clear H; intro wk H; simp only [List.set_cons_zero, List.set_cons_succ, Nat.reduceAdd] at H)) | (refine opk 9 rfl ?_; first | (refine ost_boxq H rfl ?_; clear H; intro bk wk H) | (refine ost_allocA H rfl ?_; clear H; intro bk wk H) | (refine ost_build1 H rfl rfl rfl evQ lsQ rfl ?_; clear H; intro bk wk H))) | refine Wc.seq ?_ | refine then_n ?_ | refine WL.nil ?_ | refine Wc.region ?_ | refine Wc.block ?_ | refine then_r ?_ | refine then_e ?_ | refine inb_e rfl ?_ | refine inb_o rfl ?_ | refine inb_n ?_ | refine inb_r ?_ | refine Wc.skip ?_ | refine Wc.exit ?_ | refine Wc.ret ?_ | refine Wc.cond_true rfl ?_ | refine Wc.cond_false rfl ?_ | (refine Wc.drawn (id := 16) 5 (by kernel_rfl) ?_) | refine WL.skp rfl rfl ?_ | refine WL.sku rfl ?_ | (refine rgs_nil ?_; intro vs wk hE; replace H := H.ext hE; clear hE) | refine RGs.skp (fun _ => rfl) rfl ?_ | (refine RGs.bq (fun _ => rfl) rfl (by intro vs w hE hP; have H := H.ext hE; first | exact dbQ | fail) (fun hc => ?_) (fun hc => ?_) <;> ((try simp only [cmpP, decide_eq_true_eq, decide_eq_false_iff_not, dcd_iff, dcd_no] at hc); try exact prDQ)) | refine RGs.pq (fun _ => rfl) rfl (by intro vs w hE hP; have H := H.ext hE; first | exact dvQ | fail) ?_)
    exact fn_ret2 (v2 := .int _ _) rfl (rv_cellA rfl rfl H.bI lQ) rfl ⟨_, _, H.pick0, zeroA, rfl, rfl, zeroP_R _⟩
end Go.Tg

set_option linter.unusedVariables false
set_option linter.unusedSimpArgs false
set_option maxRecDepth 100000
set_option maxHeartbeats 4000000
namespace Go.Tg
open Go Go.Proofs
def fewP (p : PageT) : Bool := decide (p.keys.length ≤ 300 ∧ p.locs.length ≤ 300 ∧ p.kids.length ≤ 300)
theorem law13_few (p : PageT) (A : PAd) (w : World) : SpecV Tryd.prog 19 #[.agg (pgV p A).toArray] w (.bool (fewP p)) := by
  refine specV_of fun h0 hs H => ?_
  obtain ⟨lf, ks, ls, ds⟩ := p
  obtain ⟨ak, ck, al, cl, ad, cd⟩ := A
  rw [show pgV ⟨lf, ks, ls, ds⟩ ⟨ak, ck, al, cl, ad, cd⟩ = pgL lf ks.length ls.length ds.length ak ck al cl ad cd from rfl]
  have lp : (pgL lf ks.length ls.length ds.length ak ck al cl ad cd).length = 4 := rfl
  refine calls_of Tryd.func19 rfl Tryd.ntmps19 (by simp) ?_
  repeat' (first | ((first | refine WL.p rfl ?_ | refine WL.u ?_ | refine WL.g rfl rfl ?_ | refine WL.gu rfl ?_); first | refine pvQ ?_ | (refine opk 3 rfl ?_; (refine ost_cmp rfl rfl rfl rfl (fun hc => ?_) (fun hc => ?_) <;> (simp only [cmpP] at hc; try exact prIQ))) | (refine opk 4 rfl ?_; (refine ost_cmp rfl rfl rfl rfl (fun hc => ?_) (fun hc => ?_) <;> (simp only [cmpP] at hc; try exact prIQ))) | (refine opk 9 rfl ?_; (refine ost_boxq H rfl ?_; clear H; intro bk wk H))) | refine Wc.seq ?_ | refine then_n ?_ | refine WL.nil ?_ | refine Wc.region ?_ | refine Wc.block ?_ | refine then_r ?_ | refine then_e ?_ | refine inb_e rfl ?_ | refine inb_o rfl ?_ | refine inb_n ?_ | refine inb_r ?_ | refine Wc.skip ?_ | refine Wc.exit ?_ | refine Wc.ret ?_ | refine Wc.cond_true rfl ?_ | refine Wc.cond_false rfl ?_ | refine WL.skp rfl rfl ?_ | refine WL.sku rfl ?_)
  all_goals ((first | refine fn_ret1 (v := .bool _) rfl rfl ⟨?_, H.fr⟩ | refine fn_ret1 (v := .int _ _) rfl rfl ⟨?_, H.fr⟩ | refine fn_ret1 (v := .string _) rfl rfl ⟨?_, H.fr⟩); congr 1; symm; first | exact decide_eq_true (by show ks.length ≤ 300 ∧ ls.length ≤ 300 ∧ ds.length ≤ 300; omega) | exact decide_eq_false (by show ¬ (ks.length ≤ 300 ∧ ls.length ≤ 300 ∧ ds.length ≤ 300); omega))
theorem takeM_succ {α : Type} (f : α → List Value) (xs : List α) {k : Nat} (h : k < xs.length) : (xs.take (k + 1)).map f = (xs.take k).map f ++ [f xs[k]] := by
  rw [List.take_add_one, List.getElem?_eq_getElem h, List.map_append]; rfl
theorem cKey_one (k : KeyT) : (cKey k).all Value.oneCell' = true := rfl
theorem cLoc_one (k : LocT) : (cLoc k).all Value.oneCell' = true := rfl
theorem law13_theirs (p : PageT) (A : PAd) (h0 : FH) (w : World) (hs : Sat h0 w) (hP : PgR h0 p A) (hb1 : p.keys.length ≤ 1000000) (hb2 : p.locs.length ≤ 1000000) :
    Spec Tryd.prog 21 #[.agg (pgV p A).toArray] w [] h0 (fun v h' L' => ∃ A', v = .agg (pgV p A').toArray ∧ L' = [] ∧ PgR h' p A') := by
  have H := St.start hs
  obtain ⟨lf, ks, ls, ds⟩ := p
  obtain ⟨ak, ck, al, cl, ad, cd⟩ := A
  rw [show pgV ⟨lf, ks, ls, ds⟩ ⟨ak, ck, al, cl, ad, cd⟩ = pgL lf ks.length ls.length ds.length ak ck al cl ad cd from rfl]
  have lp : (pgL lf ks.length ls.length ds.length ak ck al cl ad cd).length = 4 := rfl
  have q1 := hP.k.lenM
  have q2 := hP.l.lenM
  dsimp only at q1 q2 hb1 hb2
  unfold Spec
  refine calls_of Tryd.func21 rfl Tryd.ntmps21 (by simp) ?_
  repeat' (first | ((first | refine WL.p rfl ?_ | refine WL.u ?_); first | (refine opk 9 rfl ?_; (refine ost_buildS rfl (evP_cons (rfl : _ = Value.bool _) (evP_cons (rfl : _ = Value.slice _ _ _) evP_nil)) rfl (rfl : _ = [_, _, _, _]) ?_)) | refine pvQ ?_ | (refine opk 3 rfl ?_; (refine ost_cmp rfl rfl rfl rfl (fun hc => ?_) (fun hc => ?_) <;> (simp only [cmpP] at hc; try exact prIQ))) | (refine opk 4 rfl ?_; (refine ost_cmp rfl rfl rfl rfl (fun hc => ?_) (fun hc => ?_) <;> (simp only [cmpP] at hc; try exact prIQ))) | (refine opk 8 rfl ?_; first | (refine ost_store1 H rfl rfl vlQ gvQ ixQ (by first | decide | (simp; omega) | (simp; done) | omega) ?_; clear H; intro wk H; simp only [List.set_cons_zero, List.set_cons_succ, Nat.reduceAdd] at H) | (refine ost_storeW H rfl rfl rfl rfl lQ ixQ lQ okQ ?_; clear H; intro wk H; simp only [List.set_cons_zero, List.set_cons_succ, Nat.reduceAdd] at H)) | (refine opk 9 rfl ?_; first | (refine ost_boxq H rfl ?_; clear H; intro bk wk H) | (refine ost_allocA H rfl ?_; clear H; intro bk wk H) | (refine ost_build1 H rfl rfl rfl evQ lsQ rfl ?_; clear H; intro bk wk H))) | refine Wc.seq ?_ | refine then_n ?_ | refine WL.nil ?_ | refine Wc.region ?_ | refine Wc.block ?_ | refine then_r ?_ | refine then_e ?_ | refine inb_e rfl ?_ | refine inb_o rfl ?_ | refine inb_n ?_ | refine inb_r ?_ | refine Wc.skip ?_ | refine Wc.exit ?_ | refine Wc.ret ?_ | refine Wc.cond_true rfl ?_ | refine Wc.cond_false rfl ?_)
  obtain ⟨b3, e3⟩ := H.nameB idx0
  subst e3
  obtain ⟨b2, e2⟩ := H.nameB idx1
  subst e2
  obtain ⟨b1, e1⟩ := H.nameB idx2
  subst e1
  replace H : St w [] h0 h0 [ownR (.slice none ((ks.take 0).map cKey).length 0) 42 3 ((ks.take 0).map cKey), .blk b3 (.cells [Value.bool lf, .slice none ((ks.take 0).map cKey).length 0, .slice none 0 0, .slice ad ds.length cd].toArray 40 (0, 0)), .blk b2 (.cells [Value.bool false, .slice none 0 0, .slice none 0 0, .slice none 0 0].toArray 40 (0, 0)), .blk b1 (.cells (pgL lf ks.length ls.length ds.length ak ck al cl ad cd).toArray 26 (0, 0))] wk := H.nilOwn 42 3
  refine Wc.loopE (fun s0 m s w' => ∃ (k : Nat) (a1 : Option Addr) (c1 : Nat), m = ks.length - k ∧ k ≤ ks.length ∧ Agree [5, 16, 17, 18, 19, 20, 21, 22, 23, 24, 25, 26] s s0 ∧ s 16 = .int .i64 k ∧
    St w [] h0 h0 [ownR (.slice a1 ((ks.take k).map cKey).length c1) 42 3 ((ks.take k).map cKey), .blk b3 (.cells [Value.bool lf, .slice a1 ((ks.take k).map cKey).length c1, .slice none 0 0, .slice ad ds.length cd].toArray 40 (0, 0)), .blk b2 (.cells [Value.bool false, .slice none 0 0, .slice none 0 0, .slice none 0 0].toArray 40 (0, 0)), .blk b1 (.cells (pgL lf ks.length ls.length ds.length ak ck al cl ad cd).toArray 26 (0, 0))] w') ks.length ⟨0, _, _, rfl, by omega, Agree.refl _ _, rfl, H⟩ ?_
  clear H
  rintro m s w' ⟨k, a1, c1, rfl, hk, hA, e1, H⟩
  obtain ⟨j, rfl⟩ := hA.env1 e1
  clear hA e1
  have hKl : ((ks.take k).map cKey).length = k := by simp; omega
  by_cases hlt : k < ks.length
  · obtain ⟨b, off, l, T, fr, e2, eb, eg⟩ := hP.k.getM (by decide) (Nat.lt_of_le_of_lt (Nat.zero_le _) hlt)
    dsimp only at e2 eg
    subst e2
    have g1 := eg (k : Int).toNat k hlt (by omega)
    have hsucc := takeM_succ cKey ks hlt
    generalize ks[k] = x at g1 hsucc
    have lx := cKey_len x
    have ox := allOne_of (cKey_one x)
    generalize (ks.take k).map cKey = KS at H hKl hsucc
    repeat' (first | ((first | refine WL.p rfl ?_ | refine WL.u ?_); first | (refine opk 1 rfl ?_; (refine ost_appR (rows := KS) (row := cKey x) H rfl rfl rfl (by (exact ixQ)) (by (exact ixQ)) (by rfl) (by first | simp; done | exact Nat.succ_pos _) rfl (allOne_of rfl) rfl (by omega) ?_; clear H; intro aa ca wk H; simp only [List.set_cons_zero, List.set_cons_succ] at H)) | (refine opk 9 rfl ?_; (refine ost_buildR (rows := [cKey x]) H rfl (by decide) rfl (by rfl) (evP1 vxQ) (.cons rfl .nil) rfl (fun r hr => by rw [List.mem_singleton.1 hr]; rfl) ?_; clear H; intro bk wk H)) | refine pvQ ?_ | (refine opk 3 rfl ?_; (refine ost_cmp rfl rfl rfl rfl (fun hc => ?_) (fun hc => ?_) <;> (simp only [cmpP] at hc; try exact prIQ))) | (refine opk 4 rfl ?_; (refine ost_cmp rfl rfl rfl rfl (fun hc => ?_) (fun hc => ?_) <;> (simp only [cmpP] at hc; try exact prIQ))) | (refine opk 8 rfl ?_; first | (refine ost_store1 H rfl rfl vlQ gvQ ixQ (by first | decide | (simp; omega) | (simp; done) | omega) ?_; clear H; intro wk H; simp only [List.set_cons_zero, List.set_cons_succ, Nat.reduceAdd] at H) | (refine ost_storeW H rfl rfl rfl rfl lQ ixQ lQ okQ ?_; clear H; intro wk H; simp only [List.set_cons_zero, List.set_cons_succ, Nat.reduceAdd] at H)) | (refine opk 9 rfl ?_; first | (refine ost_boxq H rfl ?_; clear H; intro bk wk H) | (refine ost_allocA H rfl ?_; clear H; intro bk wk H) | (refine ost_build1 H rfl rfl rfl evQ lsQ rfl ?_; clear H; intro bk wk H))) | refine Wc.seq ?_ | refine then_n ?_ | refine WL.nil ?_ | refine Wc.region ?_ | refine Wc.block ?_ | refine then_r ?_ | refine then_e ?_ | refine inb_e rfl ?_ | refine inb_o rfl ?_ | refine inb_n ?_ | refine inb_r ?_ | refine Wc.skip ?_ | refine Wc.exit ?_ | refine Wc.ret ?_ | refine Wc.cond_true rfl ?_ | refine Wc.cond_false rfl ?_)
    rw [← hsucc] at H
    exact ⟨ks.length - (k + 1), by omega, k + 1, _, _, rfl, by omega, by (repeat' (first | exact Agree.refl _ _ | exact Agree.havoc | refine Agree.upd rfl ?_ | refine Agree.hav2 rfl ?_)), rfl, H.picks [2, 3, 4, 5] rfl (by decide)⟩
  · obtain rfl : k = ks.length := by omega
    clear hKl
    repeat' (first | ((first | refine WL.p rfl ?_ | refine WL.u ?_); first | refine pvQ ?_ | (refine opk 3 rfl ?_; (refine ost_cmp rfl rfl rfl rfl (fun hc => ?_) (fun hc => ?_) <;> (simp only [cmpP] at hc; try exact prIQ))) | (refine opk 4 rfl ?_; (refine ost_cmp rfl rfl rfl rfl (fun hc => ?_) (fun hc => ?_) <;> (simp only [cmpP] at hc; try exact prIQ))) | (refine opk 8 rfl ?_; first | (refine ost_store1 H rfl rfl vlQ gvQ ixQ (by first | decide | (simp; omega) | (simp; done) | omega) ?_; clear H; intro wk H; simp only [List.set_cons_zero, List.set_cons_succ, Nat.reduceAdd] at H) | (refine ost_storeW H rfl rfl rfl rfl lQ ixQ lQ okQ ?_; clear H; intro wk H; simp only [List.set_cons_zero, List.set_cons_succ, Nat.reduceAdd] at H)) | (refine opk 9 rfl ?_; first | (refine ost_boxq H rfl ?_; clear H; intro bk wk H) | (refine ost_allocA H rfl ?_; clear H; intro bk wk H) | (refine ost_build1 H rfl rfl rfl evQ lsQ rfl ?_; clear H; intro bk wk H))) | refine Wc.seq ?_ | refine then_n ?_ | refine WL.nil ?_ | refine Wc.region ?_ | refine Wc.block ?_ | refine then_r ?_ | refine then_e ?_ | refine inb_e rfl ?_ | refine inb_o rfl ?_ | refine inb_n ?_ | refine inb_r ?_ | refine Wc.skip ?_ | refine Wc.exit ?_ | refine Wc.ret ?_ | refine Wc.cond_true rfl ?_ | refine Wc.cond_false rfl ?_)
    rw [List.take_length, List.length_map] at H
    replace H : St w [] h0 h0 [ownR (.slice none ((ls.take 0).map cLoc).length 0) 114 2 ((ls.take 0).map cLoc), ownR (.slice a1 ks.length c1) 42 3 (ks.map cKey), .blk b3 (.cells [Value.bool lf, .slice a1 ks.length c1, .slice none ((ls.take 0).map cLoc).length 0, .slice ad ds.length cd].toArray 40 (0, 0)), .blk b2 (.cells [Value.bool false, .slice none 0 0, .slice none 0 0, .slice none 0 0].toArray 40 (0, 0)), .blk b1 (.cells (pgL lf ks.length ls.length ds.length ak ck al cl ad cd).toArray 26 (0, 0))] w' := H.nilOwn 114 2
    refine Wc.loopE (fun s0 m s w' => ∃ (k : Nat) (a2 : Option Addr) (c2 : Nat), m = ls.length - k ∧ k ≤ ls.length ∧ Agree [7, 30, 31, 32, 33, 34, 35, 36, 37, 38, 39, 40] s s0 ∧ s 30 = .int .i64 k ∧
      St w [] h0 h0 [ownR (.slice a2 ((ls.take k).map cLoc).length c2) 114 2 ((ls.take k).map cLoc), ownR (.slice a1 ks.length c1) 42 3 (ks.map cKey), .blk b3 (.cells [Value.bool lf, .slice a1 ks.length c1, .slice a2 ((ls.take k).map cLoc).length c2, .slice ad ds.length cd].toArray 40 (0, 0)), .blk b2 (.cells [Value.bool false, .slice none 0 0, .slice none 0 0, .slice none 0 0].toArray 40 (0, 0)), .blk b1 (.cells (pgL lf ks.length ls.length ds.length ak ck al cl ad cd).toArray 26 (0, 0))] w') ls.length ⟨0, _, _, rfl, by omega, Agree.refl _ _, rfl, H⟩ ?_
    clear H
    rintro m s w' ⟨k, a2, c2, rfl, hk, hA, e1, H⟩
    obtain ⟨j, rfl⟩ := hA.env1 e1
    clear hA e1
    have hKl : ((ls.take k).map cLoc).length = k := by simp; omega
    by_cases hlt : k < ls.length
    · obtain ⟨b, off, l, T, fr, e2, eb, eg⟩ := hP.l.getM (by decide) (Nat.lt_of_le_of_lt (Nat.zero_le _) hlt)
      dsimp only at e2 eg
      subst e2
      have g1 := eg (k : Int).toNat k hlt (by omega)
      have hsucc := takeM_succ cLoc ls hlt
      generalize ls[k] = x at g1 hsucc
      have lx : (cLoc x).length = 2 := rfl
      have ox := allOne_of (cLoc_one x)
      generalize (ls.take k).map cLoc = LS at H hKl hsucc
      repeat' (first | ((first | refine WL.p rfl ?_ | refine WL.u ?_); first | (refine opk 1 rfl ?_; (refine ost_appR (rows := LS) (row := cLoc x) H rfl rfl rfl (by (exact ixQ)) (by (exact ixQ)) (by rfl) (by first | simp; done | exact Nat.succ_pos _) rfl (allOne_of rfl) rfl (by omega) ?_; clear H; intro aa ca wk H; simp only [List.set_cons_zero, List.set_cons_succ] at H)) | (refine opk 9 rfl ?_; (refine ost_buildR (rows := [cLoc x]) H rfl (by decide) rfl (by rfl) (evP1 vxQ) (.cons rfl .nil) rfl (fun r hr => by rw [List.mem_singleton.1 hr]; rfl) ?_; clear H; intro bk wk H)) | refine pvQ ?_ | (refine opk 3 rfl ?_; (refine ost_cmp rfl rfl rfl rfl (fun hc => ?_) (fun hc => ?_) <;> (simp only [cmpP] at hc; try exact prIQ))) | (refine opk 4 rfl ?_; (refine ost_cmp rfl rfl rfl rfl (fun hc => ?_) (fun hc => ?_) <;> (simp only [cmpP] at hc; try exact prIQ))) | (refine opk 8 rfl ?_; first | (refine ost_store1 H rfl rfl vlQ gvQ ixQ (by first | decide | (simp; omega) | (simp; done) | omega) ?_; clear H; intro wk H; simp only [List.set_cons_zero, List.set_cons_succ, Nat.reduceAdd] at H) | (refine ost_storeW H rfl rfl rfl rfl lQ ixQ lQ okQ ?_; clear H; intro wk H; simp only [List.set_cons_zero, List.set_cons_succ, Nat.reduceAdd] at H)) | (refine opk 9 rfl ?_; first | (refine ost_boxq H rfl ?_; clear H; intro bk wk H) | (refine ost_allocA H rfl ?_; clear H; intro bk wk H) | (refine ost_build1 H rfl rfl rfl evQ lsQ rfl ?_; clear H; intro bk wk H))) | refine Wc.seq ?_ | refine then_n ?_ | refine WL.nil ?_ | refine Wc.region ?_ | refine Wc.block ?_ | refine then_r ?_ | refine then_e ?_ | refine inb_e rfl ?_ | refine inb_o rfl ?_ | refine inb_n ?_ | refine inb_r ?_ | refine Wc.skip ?_ | refine Wc.exit ?_ | refine Wc.ret ?_ | refine Wc.cond_true rfl ?_ | refine Wc.cond_false rfl ?_)
      rw [← hsucc] at H
      exact ⟨ls.length - (k + 1), by omega, k + 1, _, _, rfl, by omega, by (repeat' (first | exact Agree.refl _ _ | exact Agree.havoc | refine Agree.upd rfl ?_ | refine Agree.hav2 rfl ?_)), rfl, H.picks [2, 3, 4, 5, 6] rfl (by decide)⟩
    · obtain rfl : k = ls.length := by omega
      clear hKl
      rw [List.take_length, List.length_map] at H
      obtain ⟨al2, cl2, h7, e7, hle7, hL7, H⟩ := H.freezeR (rows_len2 ls)
      injection e7 with e71 e72 e73
      subst e71; subst e73
      obtain ⟨ak2, ck2, h8, e8, hle8, hK8, H⟩ := H.freezeR (rows_len3 ks)
      injection e8 with e81 e82 e83
      subst e81; subst e83
      repeat' (first | ((first | refine WL.p rfl ?_ | refine WL.u ?_); first | refine pvQ ?_ | (refine opk 3 rfl ?_; (refine ost_cmp rfl rfl rfl rfl (fun hc => ?_) (fun hc => ?_) <;> (simp only [cmpP] at hc; try exact prIQ))) | (refine opk 4 rfl ?_; (refine ost_cmp rfl rfl rfl rfl (fun hc => ?_) (fun hc => ?_) <;> (simp only [cmpP] at hc; try exact prIQ))) | (refine opk 8 rfl ?_; first | (refine ost_store1 H rfl rfl vlQ gvQ ixQ (by first | decide | (simp; omega) | (simp; done) | omega) ?_; clear H; intro wk H; simp only [List.set_cons_zero, List.set_cons_succ, Nat.reduceAdd] at H) | (refine ost_storeW H rfl rfl rfl rfl lQ ixQ lQ okQ ?_; clear H; intro wk H; simp only [List.set_cons_zero, List.set_cons_succ, Nat.reduceAdd] at H)) | (refine opk 9 rfl ?_; first | (refine ost_boxq H rfl ?_; clear H; intro bk wk H) | (refine ost_allocA H rfl ?_; clear H; intro bk wk H) | (refine ost_build1 H rfl rfl rfl evQ lsQ rfl ?_; clear H; intro bk wk H))) | refine Wc.seq ?_ | refine then_n ?_ | refine WL.nil ?_ | refine Wc.region ?_ | refine Wc.block ?_ | refine then_r ?_ | refine then_e ?_ | refine inb_e rfl ?_ | refine inb_o rfl ?_ | refine inb_n ?_ | refine inb_r ?_ | refine Wc.skip ?_ | refine Wc.exit ?_ | refine Wc.ret ?_ | refine Wc.cond_true rfl ?_ | refine Wc.cond_false rfl ?_)
      exact fn_ret1 rfl (rv_cellA rfl rfl H.bI lQ) ⟨_, _, H.pick0, ⟨_, _, _, _, ad, cd⟩, rfl, rfl, ⟨hK8, hL7.mono hle8, (hP.d.mono hle7).mono hle8⟩⟩
theorem law13_Ours (p : PageT) (A : PAd) (h0 : FH) (w : World) (hs : Sat h0 w) (hP : PgR h0 p A) (hb1 : p.keys.length ≤ 1000000) (hb2 : p.locs.length ≤ 1000000) :
    Spec Tryd.prog 32 #[.agg (pgV p A).toArray] w [] h0 (fun v h' L' => ∃ A', v = .agg (pgV p A').toArray ∧ L' = [] ∧ PgR h' p A') := by
  have H := St.start hs
  obtain ⟨lf, ks, ls, ds⟩ := p
  obtain ⟨ak, ck, al, cl, ad, cd⟩ := A
  rw [show pgV ⟨lf, ks, ls, ds⟩ ⟨ak, ck, al, cl, ad, cd⟩ = pgL lf ks.length ls.length ds.length ak ck al cl ad cd from rfl]
  have lp : (pgL lf ks.length ls.length ds.length ak ck al cl ad cd).length = 4 := rfl
  have q1 := hP.k.lenM
  have q2 := hP.l.lenM
  dsimp only at q1 q2 hb1 hb2
  unfold Spec
  refine calls_of Tryd.func32 rfl Tryd.ntmps32 (by simp) ?_
  repeat' (first | ((first | refine WL.p rfl ?_ | refine WL.u ?_); first | (refine opk 9 rfl ?_; (refine ost_buildS rfl (evP_cons (rfl : _ = Value.bool _) (evP_cons (rfl : _ = Value.slice _ _ _) evP_nil)) rfl (rfl : _ = [_, _, _, _]) ?_)) | refine pvQ ?_ | (refine opk 3 rfl ?_; (refine ost_cmp rfl rfl rfl rfl (fun hc => ?_) (fun hc => ?_) <;> (simp only [cmpP] at hc; try exact prIQ))) | (refine opk 4 rfl ?_; (refine ost_cmp rfl rfl rfl rfl (fun hc => ?_) (fun hc => ?_) <;> (simp only [cmpP] at hc; try exact prIQ))) | (refine opk 8 rfl ?_; first | (refine ost_store1 H rfl rfl vlQ gvQ ixQ (by first | decide | (simp; omega) | (simp; done) | omega) ?_; clear H; intro wk H; simp only [List.set_cons_zero, List.set_cons_succ, Nat.reduceAdd] at H) | (refine ost_storeW H rfl rfl rfl rfl lQ ixQ lQ okQ ?_; clear H; intro wk H; simp only [List.set_cons_zero, List.set_cons_succ, Nat.reduceAdd] at H)) | (refine opk 9 rfl ?_; first | (refine ost_boxq H rfl ?_; clear H; intro bk wk H) | (refine ost_allocA H rfl ?_; clear H; intro bk wk H) | (refine ost_build1 H rfl rfl rfl evQ lsQ rfl ?_; clear H; intro bk wk H))) | refine Wc.seq ?_ | refine then_n ?_ | refine WL.nil ?_ | refine Wc.region ?_ | refine Wc.block ?_ | refine then_r ?_ | refine then_e ?_ | refine inb_e rfl ?_ | refine inb_o rfl ?_ | refine inb_n ?_ | refine inb_r ?_ | refine Wc.skip ?_ | refine Wc.exit ?_ | refine Wc.ret ?_ | refine Wc.cond_true rfl ?_ | refine Wc.cond_false rfl ?_)
  obtain ⟨b3, e3⟩ := H.nameB idx0
  subst e3
  obtain ⟨b2, e2⟩ := H.nameB idx1
  subst e2
  obtain ⟨b1, e1⟩ := H.nameB idx2
  subst e1
  replace H : St w [] h0 h0 [ownR (.slice none ((ks.take 0).map cKey).length 0) 32 3 ((ks.take 0).map cKey), .blk b3 (.cells [Value.bool lf, .slice none ((ks.take 0).map cKey).length 0, .slice none 0 0, .slice ad ds.length cd].toArray 26 (0, 0)), .blk b2 (.cells [Value.bool false, .slice none 0 0, .slice none 0 0, .slice none 0 0].toArray 26 (0, 0)), .blk b1 (.cells (pgL lf ks.length ls.length ds.length ak ck al cl ad cd).toArray 40 (0, 0))] wk := H.nilOwn 32 3
  refine Wc.loopE (fun s0 m s w' => ∃ (k : Nat) (a1 : Option Addr) (c1 : Nat), m = ks.length - k ∧ k ≤ ks.length ∧ Agree [5, 16, 17, 18, 19, 20, 21, 22, 23, 24, 25, 26] s s0 ∧ s 16 = .int .i64 k ∧
    St w [] h0 h0 [ownR (.slice a1 ((ks.take k).map cKey).length c1) 32 3 ((ks.take k).map cKey), .blk b3 (.cells [Value.bool lf, .slice a1 ((ks.take k).map cKey).length c1, .slice none 0 0, .slice ad ds.length cd].toArray 26 (0, 0)), .blk b2 (.cells [Value.bool false, .slice none 0 0, .slice none 0 0, .slice none 0 0].toArray 26 (0, 0)), .blk b1 (.cells (pgL lf ks.length ls.length ds.length ak ck al cl ad cd).toArray 40 (0, 0))] w') ks.length ⟨0, _, _, rfl, by omega, Agree.refl _ _, rfl, H⟩ ?_
  clear H
  rintro m s w' ⟨k, a1, c1, rfl, hk, hA, e1, H⟩
  obtain ⟨j, rfl⟩ := hA.env1 e1
  clear hA e1
  have hKl : ((ks.take k).map cKey).length = k := by simp; omega
  by_cases hlt : k < ks.length
  · obtain ⟨b, off, l, T, fr, e2, eb, eg⟩ := hP.k.getM (by decide) (Nat.lt_of_le_of_lt (Nat.zero_le _) hlt)
    dsimp only at e2 eg
    subst e2
    have g1 := eg (k : Int).toNat k hlt (by omega)
    have hsucc := takeM_succ cKey ks hlt
    generalize ks[k] = x at g1 hsucc
    have lx := cKey_len x
    have ox := allOne_of (cKey_one x)
    generalize (ks.take k).map cKey = KS at H hKl hsucc
    repeat' (first | ((first | refine WL.p rfl ?_ | refine WL.u ?_); first | (refine opk 1 rfl ?_; (refine ost_appR (rows := KS) (row := cKey x) H rfl rfl rfl (by (exact ixQ)) (by (exact ixQ)) (by rfl) (by first | simp; done | exact Nat.succ_pos _) rfl (allOne_of rfl) rfl (by omega) ?_; clear H; intro aa ca wk H; simp only [List.set_cons_zero, List.set_cons_succ] at H)) | (refine opk 9 rfl ?_; (refine ost_buildR (rows := [cKey x]) H rfl (by decide) rfl (by rfl) (evP1 vxQ) (.cons rfl .nil) rfl (fun r hr => by rw [List.mem_singleton.1 hr]; rfl) ?_; clear H; intro bk wk H)) | refine pvQ ?_ | (refine opk 3 rfl ?_; (refine ost_cmp rfl rfl rfl rfl (fun hc => ?_) (fun hc => ?_) <;> (simp only [cmpP] at hc; try exact prIQ))) | (refine opk 4 rfl ?_; (refine ost_cmp rfl rfl rfl rfl (fun hc => ?_) (fun hc => ?_) <;> (simp only [cmpP] at hc; try exact prIQ))) | (refine opk 8 rfl ?_; first | (refine ost_store1 H rfl rfl vlQ gvQ ixQ (by first | decide | (simp; omega) | (simp; done) | omega) ?_; clear H; intro wk H; simp only [List.set_cons_zero, List.set_cons_succ, Nat.reduceAdd] at H) | (refine ost_storeW H rfl rfl rfl rfl lQ ixQ lQ okQ ?_; clear H; intro wk H; simp only [List.set_cons_zero, List.set_cons_succ, Nat.reduceAdd] at H)) | (refine opk 9 rfl ?_; first | (refine ost_boxq H rfl ?_; clear H; intro bk wk H) | (refine ost_allocA H rfl ?_; clear H; intro bk wk H) | (refine ost_build1 H rfl rfl rfl evQ lsQ rfl ?_; clear H; intro bk wk H))) | refine Wc.seq ?_ | refine then_n ?_ | refine WL.nil ?_ | refine Wc.region ?_ | refine Wc.block ?_ | refine then_r ?_ | refine then_e ?_ | refine inb_e rfl ?_ | refine inb_o rfl ?_ | refine inb_n ?_ | refine inb_r ?_ | refine Wc.skip ?_ | refine Wc.exit ?_ | refine Wc.ret ?_ | refine Wc.cond_true rfl ?_ | refine Wc.cond_false rfl ?_)
    rw [← hsucc] at H
    exact ⟨ks.length - (k + 1), by omega, k + 1, _, _, rfl, by omega, by (repeat' (first | exact Agree.refl _ _ | exact Agree.havoc | refine Agree.upd rfl ?_ | refine Agree.hav2 rfl ?_)), rfl, H.picks [2, 3, 4, 5] rfl (by decide)⟩
  · obtain rfl : k = ks.length := by omega
    clear hKl
    repeat' (first | ((first | refine WL.p rfl ?_ | refine WL.u ?_); first | refine pvQ ?_ | (refine opk 3 rfl ?_; (refine ost_cmp rfl rfl rfl rfl (fun hc => ?_) (fun hc => ?_) <;> (simp only [cmpP] at hc; try exact prIQ))) | (refine opk 4 rfl ?_; (refine ost_cmp rfl rfl rfl rfl (fun hc => ?_) (fun hc => ?_) <;> (simp only [cmpP] at hc; try exact prIQ))) | (refine opk 8 rfl ?_; first | (refine ost_store1 H rfl rfl vlQ gvQ ixQ (by first | decide | (simp; omega) | (simp; done) | omega) ?_; clear H; intro wk H; simp only [List.set_cons_zero, List.set_cons_succ, Nat.reduceAdd] at H) | (refine ost_storeW H rfl rfl rfl rfl lQ ixQ lQ okQ ?_; clear H; intro wk H; simp only [List.set_cons_zero, List.set_cons_succ, Nat.reduceAdd] at H)) | (refine opk 9 rfl ?_; first | (refine ost_boxq H rfl ?_; clear H; intro bk wk H) | (refine ost_allocA H rfl ?_; clear H; intro bk wk H) | (refine ost_build1 H rfl rfl rfl evQ lsQ rfl ?_; clear H; intro bk wk H))) | refine Wc.seq ?_ | refine then_n ?_ | refine WL.nil ?_ | refine Wc.region ?_ | refine Wc.block ?_ | refine then_r ?_ | refine then_e ?_ | refine inb_e rfl ?_ | refine inb_o rfl ?_ | refine inb_n ?_ | refine inb_r ?_ | refine Wc.skip ?_ | refine Wc.exit ?_ | refine Wc.ret ?_ | refine Wc.cond_true rfl ?_ | refine Wc.cond_false rfl ?_)
    rw [List.take_length, List.length_map] at H
    replace H : St w [] h0 h0 [ownR (.slice none ((ls.take 0).map cLoc).length 0) 117 2 ((ls.take 0).map cLoc), ownR (.slice a1 ks.length c1) 32 3 (ks.map cKey), .blk b3 (.cells [Value.bool lf, .slice a1 ks.length c1, .slice none ((ls.take 0).map cLoc).length 0, .slice ad ds.length cd].toArray 26 (0, 0)), .blk b2 (.cells [Value.bool false, .slice none 0 0, .slice none 0 0, .slice none 0 0].toArray 26 (0, 0)), .blk b1 (.cells (pgL lf ks.length ls.length ds.length ak ck al cl ad cd).toArray 40 (0, 0))] w' := H.nilOwn 117 2
    refine Wc.loopE (fun s0 m s w' => ∃ (k : Nat) (a2 : Option Addr) (c2 : Nat), m = ls.length - k ∧ k ≤ ls.length ∧ Agree [7, 30, 31, 32, 33, 34, 35, 36, 37, 38, 39, 40] s s0 ∧ s 30 = .int .i64 k ∧
      St w [] h0 h0 [ownR (.slice a2 ((ls.take k).map cLoc).length c2) 117 2 ((ls.take k).map cLoc), ownR (.slice a1 ks.length c1) 32 3 (ks.map cKey), .blk b3 (.cells [Value.bool lf, .slice a1 ks.length c1, .slice a2 ((ls.take k).map cLoc).length c2, .slice ad ds.length cd].toArray 26 (0, 0)), .blk b2 (.cells [Value.bool false, .slice none 0 0, .slice none 0 0, .slice none 0 0].toArray 26 (0, 0)), .blk b1 (.cells (pgL lf ks.length ls.length ds.length ak ck al cl ad cd).toArray 40 (0, 0))] w') ls.length ⟨0, _, _, rfl, by omega, Agree.refl _ _, rfl, H⟩ ?_
    clear H
    rintro m s w' ⟨k, a2, c2, rfl, hk, hA, e1, H⟩
    obtain ⟨j, rfl⟩ := hA.env1 e1
    clear hA e1
    have hKl : ((ls.take k).map cLoc).length = k := by simp; omega
    by_cases hlt : k < ls.length
    · obtain ⟨b, off, l, T, fr, e2, eb, eg⟩ := hP.l.getM (by decide) (Nat.lt_of_le_of_lt (Nat.zero_le _) hlt)
      dsimp only at e2 eg
      subst e2
      have g1 := eg (k : Int).toNat k hlt (by omega)
      have hsucc := takeM_succ cLoc ls hlt
      generalize ls[k] = x at g1 hsucc
      have lx : (cLoc x).length = 2 := rfl
      have ox := allOne_of (cLoc_one x)
      generalize (ls.take k).map cLoc = LS at H hKl hsucc
      repeat' (first | ((first | refine WL.p rfl ?_ | refine WL.u ?_); first | (refine opk 1 rfl ?_; (refine ost_appR (rows := LS) (row := cLoc x) H rfl rfl rfl (by (exact ixQ)) (by (exact ixQ)) (by rfl) (by first | simp; done | exact Nat.succ_pos _) rfl (allOne_of rfl) rfl (by omega) ?_; clear H; intro aa ca wk H; simp only [List.set_cons_zero, List.set_cons_succ] at H)) | (refine opk 9 rfl ?_; (refine ost_buildR (rows := [cLoc x]) H rfl (by decide) rfl (by rfl) (evP1 vxQ) (.cons rfl .nil) rfl (fun r hr => by rw [List.mem_singleton.1 hr]; rfl) ?_; clear H; intro bk wk H)) | refine pvQ ?_ | (refine opk 3 rfl ?_; (refine ost_cmp rfl rfl rfl rfl (fun hc => ?_) (fun hc => ?_) <;> (simp only [cmpP] at hc; try exact prIQ))) | (refine opk 4 rfl ?_; (refine ost_cmp rfl rfl rfl rfl (fun hc => ?_) (fun hc => ?_) <;> (simp only [cmpP] at hc; try exact prIQ))) | (refine opk 8 rfl ?_; first | (refine ost_store1 H rfl rfl vlQ gvQ ixQ (by first | decide | (simp; omega) | (simp; done) | omega) ?_; clear H; intro wk H; simp only [List.set_cons_zero, List.set_cons_succ, Nat.reduceAdd] at H) | (refine ost_storeW H rfl rfl rfl rfl lQ ixQ lQ okQ ?_; clear H; intro wk H; simp only [List.set_cons_zero, List.set_cons_succ, Nat.reduceAdd] at H)) | (refine opk 9 rfl ?_; first | (refine ost_boxq H rfl ?_; clear H; intro bk wk H) | (refine ost_allocA H rfl ?_; clear H; intro bk wk H) | (refine ost_build1 H rfl rfl rfl evQ lsQ rfl ?_; clear H; intro bk wk H))) | refine Wc.seq ?_ | refine then_n ?_ | refine WL.nil ?_ | refine Wc.region ?_ | refine Wc.block ?_ | refine then_r ?_ | refine then_e ?_ | refine inb_e rfl ?_ | refine inb_o rfl ?_ | refine inb_n ?_ | refine inb_r ?_ | refine Wc.skip ?_ | refine Wc.exit ?_ | refine Wc.ret ?_ | refine Wc.cond_true rfl ?_ | refine Wc.cond_false rfl ?_)
      rw [← hsucc] at H
      exact ⟨ls.length - (k + 1), by omega, k + 1, _, _, rfl, by omega, by (repeat' (first | exact Agree.refl _ _ | exact Agree.havoc | refine Agree.upd rfl ?_ | refine Agree.hav2 rfl ?_)), rfl, H.picks [2, 3, 4, 5, 6] rfl (by decide)⟩
    · obtain rfl : k = ls.length := by omega
      clear hKl
      rw [List.take_length, List.length_map] at H
      obtain ⟨al2, cl2, h7, e7, hle7, hL7, H⟩ := H.freezeR (rows_len2 ls)
      injection e7 with e71 e72 e73
      subst e71; subst e73
      obtain ⟨ak2, ck2, h8, e8, hle8, hK8, H⟩ := H.freezeR (rows_len3 ks)
      injection e8 with e81 e82 e83
      subst e81; subst e83
      repeat' (first | ((first | refine WL.p rfl ?_ | refine WL.u ?_); first | refine pvQ ?_ | (refine opk 3 rfl ?_; (refine ost_cmp rfl rfl rfl rfl (fun hc => ?_) (fun hc => ?_) <;> (simp only [cmpP] at hc; try exact prIQ))) | (refine opk 4 rfl ?_; (refine ost_cmp rfl rfl rfl rfl (fun hc => ?_) (fun hc => ?_) <;> (simp only [cmpP] at hc; try exact prIQ))) | (refine opk 8 rfl ?_; first | (refine ost_store1 H rfl rfl vlQ gvQ ixQ (by first | decide | (simp; omega) | (simp; done) | omega) ?_; clear H; intro wk H; simp only [List.set_cons_zero, List.set_cons_succ, Nat.reduceAdd] at H) | (refine ost_storeW H rfl rfl rfl rfl lQ ixQ lQ okQ ?_; clear H; intro wk H; simp only [List.set_cons_zero, List.set_cons_succ, Nat.reduceAdd] at H)) | (refine opk 9 rfl ?_; first | (refine ost_boxq H rfl ?_; clear H; intro bk wk H) | (refine ost_allocA H rfl ?_; clear H; intro bk wk H) | (refine ost_build1 H rfl rfl rfl evQ lsQ rfl ?_; clear H; intro bk wk H))) | refine Wc.seq ?_ | refine then_n ?_ | refine WL.nil ?_ | refine Wc.region ?_ | refine Wc.block ?_ | refine then_r ?_ | refine then_e ?_ | refine inb_e rfl ?_ | refine inb_o rfl ?_ | refine inb_n ?_ | refine inb_r ?_ | refine Wc.skip ?_ | refine Wc.exit ?_ | refine Wc.ret ?_ | refine Wc.cond_true rfl ?_ | refine Wc.cond_false rfl ?_)
      exact fn_ret1 rfl (rv_cellA rfl rfl H.bI lQ) ⟨_, _, H.pick0, ⟨_, _, _, _, ad, cd⟩, rfl, rfl, ⟨hK8, hL7.mono hle8, (hP.d.mono hle7).mono hle8⟩⟩
end Go.Tg

set_option linter.unusedVariables false
set_option linter.unusedSimpArgs false
set_option maxRecDepth 100000
set_option maxHeartbeats 1000000
namespace Go.Tg
open Go Go.Proofs
def kk (n : UInt32) : KeyT := ⟨3, ⟨0, n⟩⟩
def pA : PageT := ⟨true, [kk 1, kk 4], [⟨1, 0⟩, ⟨0, 2⟩], []⟩
theorem keyN_kk (n : UInt32) : keyN (kk n) = 3298534883328 + n.toNat := by
  unfold keyN kk
  have h1 : (3 : UInt16).toNat = 3 := by decide
  have h2 : (0 : UInt8).toNat = 0 := by decide
  dsimp only
  rw [h1, h2]; (try omega)
theorem pA_right : rightP pA = true := by
  refine rightP_iff.2 ⟨fun i h => ?_, (shapeP_T _ _ _).2 ⟨by decide, rfl, rfl⟩⟩
  have h : i + 1 < 2 := h
  obtain rfl : i = 0 := by omega
  show keyN (kk 1) < keyN (kk 4)
  rw [keyN_kk, keyN_kk]; (try decide)
theorem zeroP_right : rightP zeroP = false := rightP_no.2 fun h => by
  have := ((shapeP_F _ _ _).1 h.2).1
  exact absurd this (by decide)
theorem pA_find : findP pA (kk 2) = (1, false) := by
  unfold findP
  rw [if_pos pA_right]
  have h1 : cntK pA.keys (kk 2) = 1 := cntK_eq (i := 1) (by decide) (fun t h ht => by
    obtain rfl : t = 0 := by omega
    show keyN (kk 1) < keyN (kk 2)
    rw [keyN_kk, keyN_kk]; (try decide)) (fun t h ht => by
    have h : t < 2 := h
    obtain rfl : t = 1 := by omega
    show keyN (kk 2) ≤ keyN (kk 4)
    rw [keyN_kk, keyN_kk]; (try decide))
  have h2 : hasK pA.keys (kk 2) = false := by
    unfold hasK; rw [dcd_no]
    intro h
    have h : kk 2 ∈ [kk 1, kk 4] := h
    simp only [List.mem_cons, List.not_mem_nil, or_false] at h
    rcases h with h | h
    · have := congrArg keyN h; rw [keyN_kk, keyN_kk] at this; revert this; decide
    · have := congrArg keyN h; rw [keyN_kk, keyN_kk] at this; revert this; decide
  rw [h1, h2]
theorem pA_less : lessK (kk 1) (kk 4) = true := by rw [lessK_iff, keyN_kk, keyN_kk]; decide
theorem al13_key (n : UInt32) (w : World) : SpecV Tryd.prog 61 #[.int .u32 n.toNat] w (.agg (cKey (kk n)).toArray) := by
  refine specV_of fun h0 hs H => ?_
  refine calls_of Tryd.func61 rfl Tryd.ntmps61 (by simp) ?_
  repeat' (first | ((first | refine WL.p rfl ?_ | refine WL.u ?_); first | (refine opk 9 rfl ?_; first | (refine ost_buildS rfl (evP_cons (rfl : _ = Value.int .u32 _) evP_nil) rfl (rfl : _ = [_, _]) ?_) | (refine ost_buildS rfl (evP_cons (rfl : _ = Value.int .u16 _) (evP_cons (rfl : _ = Value.agg _) evP_nil)) rfl (rfl : _ = [_, _, _]) ?_)) | refine pvQ ?_ | (refine opk 8 rfl ?_; (refine ost_storeW H rfl rfl rfl rfl lQ ixQ lQ okQ ?_; clear H; intro wk H; simp only [List.set_cons_zero, List.set_cons_succ, Nat.reduceAdd] at H)) | (refine opk 9 rfl ?_; (refine ost_allocA H rfl ?_; clear H; intro bk wk H))) | refine Wc.seq ?_ | refine then_n ?_ | refine WL.nil ?_ | refine Wc.region ?_ | refine Wc.block ?_ | refine then_r ?_ | refine then_e ?_ | refine inb_e rfl ?_ | refine inb_o rfl ?_ | refine inb_n ?_ | refine inb_r ?_ | refine Wc.skip ?_ | refine Wc.exit ?_ | refine Wc.ret ?_ | refine Wc.cond_true rfl ?_ | refine Wc.cond_false rfl ?_)
  refine fn_ret1 rfl (rv_cellA rfl rfl H.bI lQ) ⟨?_, H.fr⟩
  rfl
theorem al13_1 (w : World) : SpecV Tryd.prog 61 #[.int .u32 1] w (.agg (cKey (kk 1)).toArray) := al13_key 1 w
theorem al13_2 (w : World) : SpecV Tryd.prog 61 #[.int .u32 2] w (.agg (cKey (kk 2)).toArray) := al13_key 2 w
theorem al13_4 (w : World) : SpecV Tryd.prog 61 #[.int .u32 4] w (.agg (cKey (kk 4)).toArray) := al13_key 4 w
theorem alive13 (h0 : FH) (w : World) (hs : Sat h0 w) (hT : Half h0) : SpecV Tryd.prog 18 #[] w (.bool true) := by
  have H := St.start hs
  have l1 : (cKey (kk 1)).length = 3 := rfl
  unfold SpecV
  refine calls_of Tryd.func18 rfl Tryd.ntmps18 (by simp) ?_
  repeat' (first | ((first | refine WL.p rfl ?_ | refine WL.u ?_ | refine WL.g rfl rfl ?_ | refine WL.gu rfl ?_); first | (refine opk 1 rfl ?_; first | (refine ost_VE H (ent_v rfl rfl rfl) (al13_1 _) ?_; clear H; intro wk H) | (refine ost_VE H (ent_v rfl rfl rfl) (al13_4 _) ?_; clear H; intro wk H)) | (refine opk 9 rfl ?_; first | (refine ost_buildR (rows := [cKey (kk 1), cKey (kk 4)]) H rfl (by decide) rfl (by rfl) (evP2 vxQ vxQ) (.cons rfl (.cons rfl .nil)) rfl (rows_len3 [kk 1, kk 4]) ?_; clear H; intro bk wk H) | (refine ost_buildR (rows := [cLoc ⟨1, 0⟩, cLoc ⟨0, 2⟩]) H rfl (by decide) rfl (by rfl) (evP2 vxQ vxQ) (.cons rfl (.cons rfl .nil)) rfl (rows_len2 [⟨1, 0⟩, ⟨0, 2⟩]) ?_; clear H; intro bk wk H)) | refine pvQ ?_ | (refine opk 3 rfl ?_; (refine ost_cmp rfl rfl rfl rfl (fun hc => ?_) (fun hc => ?_) <;> (simp only [cmpP] at hc; try exact prIQ))) | (refine opk 4 rfl ?_; (refine ost_cmp rfl rfl rfl rfl (fun hc => ?_) (fun hc => ?_) <;> (simp only [cmpP] at hc; try exact prIQ))) | (refine opk 8 rfl ?_; (refine ost_storeW H rfl rfl rfl rfl lQ ixQ lQ okQ ?_; clear H; intro wk H; simp only [List.set_cons_zero, List.set_cons_succ, Nat.reduceAdd] at H)) | (refine opk 9 rfl ?_; first | (refine ost_allocA H rfl ?_; clear H; intro bk wk H) | (refine ost_build1 H rfl rfl rfl evQ lsQ rfl ?_; clear H; intro bk wk H))) | refine Wc.seq ?_ | refine then_n ?_ | refine WL.nil ?_ | refine Wc.region ?_ | refine Wc.block ?_ | refine then_r ?_ | refine then_e ?_ | refine inb_e rfl ?_ | refine inb_o rfl ?_ | refine inb_n ?_ | refine inb_r ?_ | refine Wc.skip ?_ | refine Wc.exit ?_ | refine Wc.ret ?_ | refine Wc.cond_true rfl ?_ | refine Wc.cond_false rfl ?_ | refine WL.skp rfl rfl ?_ | refine WL.sku rfl ?_)
  obtain ⟨bp, ebp⟩ := H.nameB idx0
  subst ebp
  obtain ⟨ak, ck, h7, e7, hle7, hK7, H⟩ := (H.front 2 rfl).freezeR (rows_len3 [kk 1, kk 4])
  cases e7
  obtain ⟨al, cl, h8, e8, hle8, hL8, H⟩ := (H.front 1 rfl).freezeR (rows_len2 [⟨1, 0⟩, ⟨0, 2⟩])
  cases e8
  replace hK7 := hK7.mono hle8
  generalize some (⟨_, 0, none⟩ : Addr) = ak at H hK7 ⊢
  generalize some (⟨_, 0, none⟩ : Addr) = al at H hL8 ⊢
  replace H : St w [] h0 h8 [.blk bp (.cells (pgV pA ⟨ak, 2, al, 2, none, 0⟩).toArray 40 (0, 0))] wk := H
  have hPg : PgR h8 pA ⟨ak, 2, al, 2, none, 0⟩ := ⟨hK7, hL8, Sl.nil _ _⟩
  have hT8 : Half h8 := (hT.mono hle7).mono hle8
  have lp : (pgV pA ⟨ak, 2, al, 2, none, 0⟩).length = 4 := rfl
  have cR : ∀ w, Sat h8 w → SpecV Tryd.prog 23 #[.agg (pgV pA ⟨ak, 2, al, 2, none, 0⟩).toArray] w (.bool true) := fun w hs => by
    have := page_Right _ _ h8 w hs hPg; rw [pA_right] at this; exact this
  have cF : ∀ w, Sat h8 w → SpecV Tryd.prog 20 #[.agg (pgV pA ⟨ak, 2, al, 2, none, 0⟩).toArray, .agg (cKey (kk 2)).toArray] w (.tuple #[.int .i64 1, .bool false]) := fun w hs => by
    have := page_Find _ _ (kk 2) h8 w hs hPg; rw [pA_find] at this; exact this
  have cL : ∀ w, SpecV Tryd.prog 25 #[.agg (cKey (kk 1)).toArray, .agg (cKey (kk 4)).toArray] w (.bool true) := fun w => by
    have := page_Less (kk 1) (kk 4) w; rw [pA_less] at this; exact this
  have cE : ∀ w, Sat h8 w → Spec Tryd.prog 27 #[.agg (pgV pA ⟨ak, 2, al, 2, none, 0⟩).toArray] w [] h8 (fun v h' L' => ∃ a' c', v = .tuple #[.slice a' (encP pA).length c', .int .i64 0] ∧ h' = h8 ∧ L' = [own8 (.slice a' (encP pA).length c') 5 (encP pA)]) := fun w hs => by
    have := page_Encode _ _ h8 w hs hT8 hPg
    rw [show outP pA = (encP pA, 0) by unfold outP; rw [if_pos pA_right]] at this; exact this
  repeat' (first | ((first | refine WL.p rfl ?_ | refine WL.u ?_ | refine WL.g rfl rfl ?_ | refine WL.gu rfl ?_); first | (refine opk 1 rfl ?_; first | (refine ost_VE H (ent_v rfl rfl rfl) (al13_2 _) ?_; clear H; intro wk H) | (refine ost_V H rfl (cF _ H.sat) rfl ?_; clear H; intro wk H) | (refine ost_Sk H rfl (cE _ H.sat) rfl ?_; clear H; rintro vk wk hfk Lk ⟨a1, c1, rfl, e9, rfl⟩ hle H; simp only [List.cons_append, List.nil_append] at H)) | refine pvQ ?_ | (refine opk 3 rfl ?_; (refine ost_cmp rfl rfl rfl rfl (fun hc => ?_) (fun hc => ?_) <;> (simp only [cmpP] at hc; try exact prIQ))) | (refine opk 4 rfl ?_; (refine ost_cmp rfl rfl rfl rfl (fun hc => ?_) (fun hc => ?_) <;> (simp only [cmpP] at hc; try exact prIQ))) | (refine opk 8 rfl ?_; (refine ost_storeW H rfl rfl rfl rfl lQ ixQ lQ okQ ?_; clear H; intro wk H; simp only [List.set_cons_zero, List.set_cons_succ, Nat.reduceAdd] at H)) | (refine opk 9 rfl ?_; first | (refine ost_allocA H rfl ?_; clear H; intro bk wk H) | (refine ost_build1 H rfl rfl rfl evQ lsQ rfl ?_; clear H; intro bk wk H))) | refine Wc.seq ?_ | refine then_n ?_ | refine WL.nil ?_ | refine Wc.region ?_ | refine Wc.block ?_ | refine then_r ?_ | refine then_e ?_ | refine inb_e rfl ?_ | refine inb_o rfl ?_ | refine inb_n ?_ | refine inb_r ?_ | refine Wc.skip ?_ | refine Wc.exit ?_ | refine Wc.ret ?_ | refine Wc.cond_true rfl ?_ | refine Wc.cond_false rfl ?_ | (refine Wc.drawn (id := 3) 8 (by kernel_rfl) ?_) | refine WL.skp rfl rfl ?_ | refine WL.sku rfl ?_ | (refine rgs_nil ?_; intro vs wk hE; replace H := H.ext hE; clear hE) | refine RGs.skp (fun _ => rfl) rfl ?_ | (refine RGs.bq (fun _ => rfl) rfl (by intro vs w hE hP; have H := H.ext hE; first | exact dbQ | fail) (fun hc => ?_) (fun hc => ?_) <;> ((try simp only [cmpP, decide_eq_true_eq, decide_eq_false_iff_not, dcd_iff, dcd_no] at hc); try exact prDQ)) | refine RGs.pq (fun _ => rfl) rfl (by intro vs w hE hP; have H := H.ext hE; first | (refine opk 1 rfl ?_; first | (exact ost_V0E (ent_v rfl rfl rfl) (al13_2 _)) | (exact ost_V0d rfl (cF _ H.sat) rfl)) | exact dvQ | fail) ?_)
  replace e9 := e9.symm
  subst e9
  obtain ⟨a6, c6, h9, e6, hle9, hr6, H⟩ := H.freeze8
  cases e6
  have hT9 := hT8.mono hle9
  have cD : ∀ w, Sat h9 w → Spec Tryd.prog 29 #[.slice a1 (encP pA).length c1] w [] h9 (fun v h' L' => ∃ k1 k2 k3 k4 k5 k6, v = .tuple #[.agg [Value.bool true, .slice k1 2 k2, .slice k3 2 k4, .slice k5 0 k6].toArray, .int .i64 0] ∧ L' = [] ∧ Sl h' 2 k3 k4 (pA.locs.map cLoc)) := fun w hs => by
    have := page_Decode h9 a1 c1 (encP pA) w hs hT9 hr6 (by have := encP_len pA_right; omega)
    rw [decP_enc pA_right] at this
    exact this.mono fun v h' L' ⟨A, h1, h2, h3⟩ => ⟨A.ak, A.ck, A.al, A.cl, A.ad, A.cd, h1, h2, h3.l⟩
  clear hr6 cE
  generalize encP pA = E at H cD ⊢
  repeat' (first | ((first | refine WL.p rfl ?_ | refine WL.u ?_ | refine WL.g rfl rfl ?_ | refine WL.gu rfl ?_); first | (refine opk 1 rfl ?_; (refine ost_Sk H rfl (cD _ H.sat) rfl ?_; clear H; rintro vk wk hfk Lk ⟨k1, k2, k3, k4, k5, k6, rfl, rfl, hL9⟩ hle H; simp only [List.cons_append, List.nil_append] at H)) | refine pvQ ?_ | (refine opk 3 rfl ?_; (refine ost_cmp rfl rfl rfl rfl (fun hc => ?_) (fun hc => ?_) <;> (simp only [cmpP] at hc; try exact prIQ))) | (refine opk 4 rfl ?_; (refine ost_cmp rfl rfl rfl rfl (fun hc => ?_) (fun hc => ?_) <;> (simp only [cmpP] at hc; try exact prIQ))) | (refine opk 8 rfl ?_; (refine ost_storeW H rfl rfl rfl rfl lQ ixQ lQ okQ ?_; clear H; intro wk H; simp only [List.set_cons_zero, List.set_cons_succ, Nat.reduceAdd] at H)) | (refine opk 9 rfl ?_; first | (refine ost_allocA H rfl ?_; clear H; intro bk wk H) | (refine ost_build1 H rfl rfl rfl evQ lsQ rfl ?_; clear H; intro bk wk H))) | refine Wc.seq ?_ | refine then_n ?_ | refine WL.nil ?_ | refine Wc.region ?_ | refine Wc.block ?_ | refine then_r ?_ | refine then_e ?_ | refine inb_e rfl ?_ | refine inb_o rfl ?_ | refine inb_n ?_ | refine inb_r ?_ | refine Wc.skip ?_ | refine Wc.exit ?_ | refine Wc.ret ?_ | refine Wc.cond_true rfl ?_ | refine Wc.cond_false rfl ?_ | (refine Wc.drawn (id := 3) 8 (by kernel_rfl) ?_) | refine WL.skp rfl rfl ?_ | refine WL.sku rfl ?_ | (refine rgs_nil ?_; intro vs wk hE; replace H := H.ext hE; clear hE) | refine RGs.skp (fun _ => rfl) rfl ?_ | (refine RGs.bq (fun _ => rfl) rfl (by intro vs w hE hP; have H := H.ext hE; first | exact dbQ | fail) (fun hc => ?_) (fun hc => ?_) <;> ((try simp only [cmpP, decide_eq_true_eq, decide_eq_false_iff_not, dcd_iff, dcd_no] at hc); try exact prDQ)) | refine RGs.pq (fun _ => rfl) rfl (by intro vs w hE hP; have H := H.ext hE; first | exact dvQ | fail) ?_)
  obtain ⟨b5, off5, l5, T5, fr5, e5, eb5, eg5⟩ := hL9.getM (by decide) (by decide : 0 < pA.locs.length)
  subst e5
  have g5 : l5[off5 + (1 : Int).toNat * 2 + 1]? = some (.int .u32 2) := row_cell (eg5 (1 : Int).toNat 1 (by decide) rfl) (q := 1) (by decide)
  have cZ : ∀ w, Sat hfk w → Spec Tryd.prog 27 #[.agg [Value.bool false, .slice none 0 0, .slice none 0 0, .slice none 0 0].toArray] w [] hfk (fun v h' L' => ∃ a' c', v = .tuple #[.slice a' 0 c', .int .i64 15] ∧ L' = [own8 (.slice a' 0 c') 5 []]) := fun w hs => by
    have := page_Encode zeroP zeroA hfk w hs (hT9.mono hle) (zeroP_R _)
    rw [show outP zeroP = ([], 15) by unfold outP; rw [zeroP_right]; rfl] at this
    exact this.mono fun v h' L' ⟨a', c', h1, _, h2⟩ => ⟨a', c', h1, h2⟩
  have cR9 : ∀ w, Sat hfk w → SpecV Tryd.prog 23 #[.agg (pgV pA ⟨ak, 2, al, 2, none, 0⟩).toArray] w (.bool true) := fun w hs => cR w fun k o e => hs k o (hle _ _ (hle9 _ _ e))
  have cR9 : ∀ (h : FH), FLe hfk h → ∀ w, Sat h w → SpecV Tryd.prog 23 #[.agg (pgV pA ⟨ak, 2, al, 2, none, 0⟩).toArray] w (.bool true) := fun h hl w hs => cR9 w fun k o e => hs k o (hl _ _ e)
  repeat' (first | ((first | refine WL.p rfl ?_ | refine WL.u ?_ | refine WL.g rfl rfl ?_ | refine WL.gu rfl ?_); first | (refine opk 1 rfl ?_; (refine ost_Sk H rfl (cZ _ H.sat) rfl ?_; clear H; rintro vk wk hfk Lk ⟨a7, c7, rfl, rfl⟩ hle H; simp only [List.cons_append, List.nil_append] at H)) | refine pvQ ?_ | (refine opk 3 rfl ?_; (refine ost_cmp rfl rfl rfl rfl (fun hc => ?_) (fun hc => ?_) <;> (simp only [cmpP] at hc; try exact prIQ))) | (refine opk 4 rfl ?_; (refine ost_cmp rfl rfl rfl rfl (fun hc => ?_) (fun hc => ?_) <;> (simp only [cmpP] at hc; try exact prIQ))) | (refine opk 8 rfl ?_; (refine ost_storeW H rfl rfl rfl rfl lQ ixQ lQ okQ ?_; clear H; intro wk H; simp only [List.set_cons_zero, List.set_cons_succ, Nat.reduceAdd] at H)) | (refine opk 9 rfl ?_; first | (refine ost_allocA H rfl ?_; clear H; intro bk wk H) | (refine ost_build1 H rfl rfl rfl evQ lsQ rfl ?_; clear H; intro bk wk H))) | refine Wc.seq ?_ | refine then_n ?_ | refine WL.nil ?_ | refine Wc.region ?_ | refine Wc.block ?_ | refine then_r ?_ | refine then_e ?_ | refine inb_e rfl ?_ | refine inb_o rfl ?_ | refine inb_n ?_ | refine inb_r ?_ | refine Wc.skip ?_ | refine Wc.exit ?_ | refine Wc.ret ?_ | refine Wc.cond_true rfl ?_ | refine Wc.cond_false rfl ?_ | (refine Wc.drawn (id := 3) 8 (by kernel_rfl) ?_) | refine WL.skp rfl rfl ?_ | refine WL.sku rfl ?_ | (refine rgs_nil ?_; intro vs wk hE; replace H := H.ext hE; clear hE) | refine RGs.skp (fun _ => rfl) rfl ?_ | (refine RGs.bq (fun _ => rfl) rfl (by intro vs w hE hP; have H := H.ext hE; first | exact dbQ | fail) (fun hc => ?_) (fun hc => ?_) <;> ((try simp only [cmpP, decide_eq_true_eq, decide_eq_false_iff_not, dcd_iff, dcd_no] at hc); try exact prDQ)) | refine RGs.pq (fun _ => rfl) rfl (by intro vs w hE hP; have H := H.ext hE; first | exact dvQ | fail) ?_)
  have eb6 := hle _ _ eb5
  have cR3 := fun w hs => cR9 _ hle w hs
  clear eb5 cR9 cZ cD cF cR eg5 hL9
  repeat' (first | ((first | refine WL.p rfl ?_ | refine WL.u ?_ | refine WL.g rfl rfl ?_ | refine WL.gu rfl ?_); first | (refine opk 1 rfl ?_; (refine ost_V H rfl (cR3 _ H.sat) rfl ?_; clear H; intro wk H)) | refine pvQ ?_ | (refine opk 3 rfl ?_; (refine ost_cmp rfl rfl rfl rfl (fun hc => ?_) (fun hc => ?_) <;> (simp only [cmpP] at hc; try exact prIQ))) | (refine opk 4 rfl ?_; (refine ost_cmp rfl rfl rfl rfl (fun hc => ?_) (fun hc => ?_) <;> (simp only [cmpP] at hc; try exact prIQ))) | (refine opk 8 rfl ?_; (refine ost_storeW H rfl rfl rfl rfl lQ ixQ lQ okQ ?_; clear H; intro wk H; simp only [List.set_cons_zero, List.set_cons_succ, Nat.reduceAdd] at H)) | (refine opk 9 rfl ?_; first | (refine ost_allocA H rfl ?_; clear H; intro bk wk H) | (refine ost_build1 H rfl rfl rfl evQ lsQ rfl ?_; clear H; intro bk wk H))) | refine Wc.seq ?_ | refine then_n ?_ | refine WL.nil ?_ | refine Wc.region ?_ | refine Wc.block ?_ | refine then_r ?_ | refine then_e ?_ | refine inb_e rfl ?_ | refine inb_o rfl ?_ | refine inb_n ?_ | refine inb_r ?_ | refine Wc.skip ?_ | refine Wc.exit ?_ | refine Wc.ret ?_ | refine Wc.cond_true rfl ?_ | refine Wc.cond_false rfl ?_ | (refine Wc.drawn (id := 3) 8 (by kernel_rfl) ?_) | refine WL.skp rfl rfl ?_ | refine WL.sku rfl ?_ | (refine rgs_nil ?_; intro vs wk hE; replace H := H.ext hE; clear hE) | refine RGs.skp (fun _ => rfl) rfl ?_ | (refine RGs.bq (fun _ => rfl) rfl (by intro vs w hE hP; have H := H.ext hE; first | exact dbQ | fail) (fun hc => ?_) (fun hc => ?_) <;> ((try simp only [cmpP, decide_eq_true_eq, decide_eq_false_iff_not, dcd_iff, dcd_no] at hc); try exact prDQ)) | refine RGs.pq (fun _ => rfl) rfl (by intro vs w hE hP; have H := H.ext hE; first | exact dvQ | fail) ?_)
  repeat' (first | ((first | refine WL.p rfl ?_ | refine WL.u ?_ | refine WL.g rfl rfl ?_ | refine WL.gu rfl ?_); first | (refine opk 1 rfl ?_; first | (refine ost_VE H (ent_v rfl rfl rfl) (al13_1 _) ?_; clear H; intro wk H) | (refine ost_VE H (ent_v rfl rfl rfl) (al13_4 _) ?_; clear H; intro wk H)) | refine pvQ ?_ | (refine opk 3 rfl ?_; (refine ost_cmp rfl rfl rfl rfl (fun hc => ?_) (fun hc => ?_) <;> (simp only [cmpP] at hc; try exact prIQ))) | (refine opk 4 rfl ?_; (refine ost_cmp rfl rfl rfl rfl (fun hc => ?_) (fun hc => ?_) <;> (simp only [cmpP] at hc; try exact prIQ))) | (refine opk 8 rfl ?_; (refine ost_storeW H rfl rfl rfl rfl lQ ixQ lQ okQ ?_; clear H; intro wk H; simp only [List.set_cons_zero, List.set_cons_succ, Nat.reduceAdd] at H)) | (refine opk 9 rfl ?_; first | (refine ost_allocA H rfl ?_; clear H; intro bk wk H) | (refine ost_build1 H rfl rfl rfl evQ lsQ rfl ?_; clear H; intro bk wk H))) | refine Wc.seq ?_ | refine then_n ?_ | refine WL.nil ?_ | refine Wc.region ?_ | refine Wc.block ?_ | refine then_r ?_ | refine then_e ?_ | refine inb_e rfl ?_ | refine inb_o rfl ?_ | refine inb_n ?_ | refine inb_r ?_ | refine Wc.skip ?_ | refine Wc.exit ?_ | refine Wc.ret ?_ | refine Wc.cond_true rfl ?_ | refine Wc.cond_false rfl ?_ | (refine Wc.drawn (id := 3) 8 (by kernel_rfl) ?_) | refine WL.skp rfl rfl ?_ | refine WL.sku rfl ?_ | (refine rgs_nil ?_; intro vs wk hE; replace H := H.ext hE; clear hE) | refine RGs.skp (fun _ => rfl) rfl ?_ | (refine RGs.bq (fun _ => rfl) rfl (by intro vs w hE hP; have H := H.ext hE; first | exact dbQ | fail) (fun hc => ?_) (fun hc => ?_) <;> ((try simp only [cmpP, decide_eq_true_eq, decide_eq_false_iff_not, dcd_iff, dcd_no] at hc); try exact prDQ)) | refine RGs.pq (fun _ => rfl) rfl (by intro vs w hE hP; have H := H.ext hE; first | exact dvQ | fail) ?_)
  refine WL.g rfl rfl ?_
  refine ost_V H rfl (cL _) rfl ?_
  clear H; intro wk H
  clear cL cR3 g5 lp l1 hPg hT8 hT9
  repeat' (first | ((first | refine WL.p rfl ?_ | refine WL.u ?_ | refine WL.g rfl rfl ?_ | refine WL.gu rfl ?_); first | refine pvQ ?_ | (refine opk 3 rfl ?_; (refine ost_cmp rfl rfl rfl rfl (fun hc => ?_) (fun hc => ?_) <;> (simp only [cmpP] at hc; try exact prIQ))) | (refine opk 4 rfl ?_; (refine ost_cmp rfl rfl rfl rfl (fun hc => ?_) (fun hc => ?_) <;> (simp only [cmpP] at hc; try exact prIQ))) | (refine opk 8 rfl ?_; (refine ost_storeW H rfl rfl rfl rfl lQ ixQ lQ okQ ?_; clear H; intro wk H; simp only [List.set_cons_zero, List.set_cons_succ, Nat.reduceAdd] at H)) | (refine opk 9 rfl ?_; first | (refine ost_allocA H rfl ?_; clear H; intro bk wk H) | (refine ost_build1 H rfl rfl rfl evQ lsQ rfl ?_; clear H; intro bk wk H))) | refine Wc.seq ?_ | refine then_n ?_ | refine WL.nil ?_ | refine Wc.region ?_ | refine Wc.block ?_ | refine then_r ?_ | refine then_e ?_ | refine inb_e rfl ?_ | refine inb_o rfl ?_ | refine inb_n ?_ | refine inb_r ?_ | refine Wc.skip ?_ | refine Wc.exit ?_ | refine Wc.ret ?_ | refine Wc.cond_true rfl ?_ | refine Wc.cond_false rfl ?_ | (refine Wc.drawn (id := 3) 8 (by kernel_rfl) ?_) | refine WL.skp rfl rfl ?_ | refine WL.sku rfl ?_ | (refine rgs_nil ?_; intro vs wk hE; replace H := H.ext hE; clear hE) | refine RGs.skp (fun _ => rfl) rfl ?_ | (refine RGs.bq (fun _ => rfl) rfl (by intro vs w hE hP; have H := H.ext hE; first | exact dbQ | fail) (fun hc => ?_) (fun hc => ?_) <;> ((try simp only [cmpP, decide_eq_true_eq, decide_eq_false_iff_not, dcd_iff, dcd_no] at hc); try exact prDQ)) | refine RGs.pq (fun _ => rfl) rfl (by intro vs w hE hP; have H := H.ext hE; first | exact dvQ | fail) ?_)
  exact fn_ret1 (v := .bool true) rfl rfl ⟨rfl, H.fr⟩
end Go.Tg

