/- Contracts of Go functions that the laws reach: what each call answers and leaves in memory, for all arguments within the bounds that each theorem names. -/
import Derived.Test.YtajfhoeejeadkaaDoorInst
import Derived.Test.YtajfhoeejeadkaaDoorAuto
import Derived.Test.YtajfhoeejeadkaaDoorF5
import Derived.Test.YtajfhoeejeadkaaDoorG5
set_option linter.unusedVariables false
set_option linter.unusedSimpArgs false
set_option maxRecDepth 100000
set_option maxHeartbeats 4000000
namespace Go.Tg
open Go Go.Proofs
theorem tmV_three (t : TkT) (m : Nat) : tmV t (3 + m) = tkN t :: tkN (tmL t 1) :: (List.range (m + 1)).map fun i => tkN (tmL t (2 + i)) := by
  induction m with
  | zero => simp [tmV, List.range_succ, tmL]
  | succ m ih =>
    rw [show 3 + (m + 1) = (3 + m) + 1 by omega, tmV_succ, ih, List.range_succ (n := m + 1), List.map_append]
    simp only [List.cons_append, List.map_cons, List.map_nil]
    rw [show 2 + (m + 1) = 3 + m by omega]
theorem n32_segsF (t : TkT) (m : Nat) (h : ∀ i, i < m + 1 → tkN (tmL t (2 + i)) < 4294967296) : n32 (segsF t m ++ [UInt32.ofNat (tkN (tmL t (2 + m)))]) = (List.range (m + 1)).map fun i => tkN (tmL t (2 + i)) := by
  rw [← segsF_succ]
  unfold n32 segsF
  rw [List.map_map]
  apply List.map_congr_left
  intro i hi
  have := h i (List.mem_range.1 hi)
  show (UInt32.ofNat (tkN (tmL t (2 + i)))).toNat = _
  exact ofNat32 this
theorem tm_get {t : TkT} {l : List Nat} {r : List UInt8} (he : t.e = 0) (hb : t.bad = false) (hx : t.xs = numsB l ++ r) (hl : ∀ n, n ∈ l → n < 4294967296) {i : Nat} (hi : i < l.length) : tkN (tmL t i) = l[i] := by
  obtain ⟨h1, -⟩ := tmL_full he hb hx hl i (by omega)
  have h3 : l.drop i = l[i] :: l.drop (i + 1) := List.drop_eq_getElem_cons (by omega)
  exact (tm_full (t := tmL t i) (n := l[i]) (r := numsB (l.drop (i + 1)) ++ r) (by rw [h1]) (by rw [h1]) (by rw [h1, h3, numsB_cons, List.append_assoc]) (hl _ (List.getElem_mem (by omega)))).1
def okF (f : List UInt8) : Prop := (decV (flrF f)).2 = 0 ∧ (endF f).bad = false ∧ (endF f).e = 0 ∧ (endF f).xs = [] ∧ rightM (manF f) = true
theorem manF_sound {f : List UInt8} (h : okF f) : fldM (manF f) = f := by
  obtain ⟨h1, h2, h3, h4, h5⟩ := h
  obtain ⟨g1, g2, g3, g4⟩ := tmL_sound h2 h3
  have g2 : (bt2 f).2.2.1 = 0 := g2
  obtain ⟨g5, g6⟩ := bytesE_e0 g2
  obtain ⟨-, g7⟩ := numE_e0 (e := 0) g5
  have g8 := numE_inv g7
  have g9 : (numE 0 f).2.2.2 = fieldB (flrF f) ++ (t0F f).xs := by
    unfold flrF t0F bt2
    rw [g5] at g6 ⊢
    exact bytesE_inv g6
  have g10 : encV (decV (flrF f)).1 = flrF f := by
    rcases decV_spec (flrF f) with ⟨_, h⟩ | ⟨h, _, _⟩
    · exact h
    · rw [h] at h1; cases h1
  have h4 : (tmL (t0F f) (3 + mF f)).xs = [] := h4
  rw [h4, List.append_nil, tmV_three] at g3
  rw [tmV_three] at g4
  have b0 := g4 _ (List.mem_cons_self ..)
  have b1 := g4 _ (List.mem_cons_of_mem _ (List.mem_cons_self ..))
  have b2 : ∀ i, i < mF f + 1 → tkN (tmL (t0F f) (2 + i)) < 4294967296 := fun i hi => g4 _ (List.mem_cons_of_mem _ (List.mem_cons_of_mem _ (List.mem_map.2 ⟨i, List.mem_range.2 hi, rfl⟩)))
  have hm : mF f = tkN (tmL (t0F f) 1) := by
    obtain ⟨⟨c1, c2, -⟩, -⟩ := rightM_iff.1 h5
    have c2 : (segsF (t0F f) (mF f)).length ≤ 64 := c2
    rw [segsF_len] at c2
    unfold mF cntF at c2 ⊢
    rw [ofNat32 b1] at c2 ⊢
    omega
  unfold fldM
  have e1 : (manF f).ver.toNat = (numE 0 f).1 := by
    have := numE_lt 0 f
    show (UInt64.ofNat (verF f)).toNat = _
    unfold verF; simp; omega
  have e2 : (manF f).base.toNat = tkN (t0F f) := ofNat32 b0
  have e3 : (manF f).segs.length = tkN (tmL (t0F f) 1) := by rw [← hm]; exact segsF_len _ _
  have e4 : n32 ((manF f).segs ++ [(manF f).next]) = (List.range (mF f + 1)).map fun i => tkN (tmL (t0F f) (2 + i)) := n32_segsF _ _ b2
  have e5 : encV (manF f).flr = flrF f := g10
  rw [e1, e2, e3, e4, e5]
  rw [numsB_cons, numsB_cons] at g3
  conv => rhs; rw [g8, g9, g3]
  simp only [List.append_assoc]
theorem manF_full {u : ManT} {f : List UInt8} (hr : rightM u = true) (hf : f = fldM u) : manF f = u ∧ okF f := by
  obtain ⟨ver, flr, base, segs, next⟩ := u
  obtain ⟨⟨c1, c2, -⟩, -⟩ := rightM_iff.1 hr
  have c1 : 1 ≤ segs.length := c1
  have c2 : segs.length ≤ 64 := c2
  have q1 := encV_len flr
  have t1 := base.toNat_lt
  have hf2 : f = putB ver.toNat ++ (fieldB (encV flr) ++ numsB (base.toNat :: segs.length :: n32 (segs ++ [next]))) := by
    rw [hf]; unfold fldM; rw [numsB_cons, numsB_cons]; simp only [List.append_assoc]
  have e1 := numE_putB ver.toNat ver.toNat_lt (fieldB (encV flr) ++ numsB (base.toNat :: segs.length :: n32 (segs ++ [next])))
  rw [← hf2] at e1
  have e2 : bt2 f = (encV flr, 0, 0, numsB (base.toNat :: segs.length :: n32 (segs ++ [next]))) := by
    unfold bt2; rw [e1]
    exact bytesE_fieldB (encV flr) _ (by omega)
  have e3 : t0F f = ⟨0, numsB (base.toNat :: segs.length :: n32 (segs ++ [next])), false⟩ := by unfold t0F; rw [e2]
  have e4 : flrF f = encV flr := by unfold flrF; rw [e2]
  have hl : ∀ n, n ∈ base.toNat :: segs.length :: n32 (segs ++ [next]) → n < 4294967296 := by
    intro n hn
    rw [List.mem_cons, List.mem_cons] at hn
    rcases hn with rfl | rfl | hn
    · exact t1
    · omega
    · exact n32_lt _ n hn
  have hlen : (base.toNat :: segs.length :: n32 (segs ++ [next])).length = 3 + segs.length := by simp [n32]; omega
  have hx : (t0F f).xs = numsB (base.toNat :: segs.length :: n32 (segs ++ [next])) ++ [] := by rw [e3, List.append_nil]
  have hg := fun i hi => tm_get (t := t0F f) (by rw [e3]) (by rw [e3]) hx hl (i := i) hi
  have hE := (tmL_full (t := t0F f) (by rw [e3]) (by rw [e3]) hx hl (3 + segs.length) (by omega)).1
  have h1 := hg 0 (by omega)
  have h2 := hg 1 (by omega)
  have hc : cntF f = segs.length := by
    unfold cntF; rw [h2]
    exact ofNat32 (by show segs.length < _; omega)
  have hm : mF f = segs.length := by unfold mF; rw [hc]; omega
  have hs : ∀ i, i < segs.length + 1 → tkN (tmL (t0F f) (2 + i)) = (n32 (segs ++ [next])).getD i 0 := fun i hi => by
    rw [hg (2 + i) (by omega)]
    have hlt : i < (n32 (segs ++ [next])).length := by simp [n32]; omega
    have : 2 + i = i + 1 + 1 := by omega
    simp only [this, List.getElem_cons_succ, List.getD_eq_getElem?_getD, List.getElem?_eq_getElem hlt, Option.getD_some]
  have hman : manF f = ⟨ver, flr, base, segs, next⟩ := by
    unfold manF
    rw [e4, decV_enc, hm]
    have f1 : UInt64.ofNat (verF f) = ver := by unfold verF; rw [e1]; simp
    have f2 : UInt32.ofNat (tkN (t0F f)) = base := by
      rw [show tkN (t0F f) = base.toNat from h1]; simp
    have f3 : UInt32.ofNat (tkN (tmL (t0F f) (2 + segs.length))) = next := by
      rw [hs segs.length (by omega)]; simp [n32, List.getD_eq_getElem?_getD]
    have f4 : segsF (t0F f) segs.length = segs := by
      apply List.ext_getElem
      · rw [segsF_len]
      · intro i g1 g2
        have : (segsF (t0F f) segs.length)[i] = UInt32.ofNat (tkN (tmL (t0F f) (2 + i))) := by simp [segsF]
        rw [this, hs i (by omega)]
        simp [n32, List.getD_eq_getElem?_getD, List.getElem?_append_left, g2]
    dsimp only at f1 f2 f3 f4 ⊢
    rw [f1, f2, f3, f4]
  refine ⟨hman, by rw [e4, decV_enc], ?_, ?_, ?_, by rw [hman]; exact hr⟩
  all_goals
    unfold endF
    rw [hm, hE]
  · rw [← hlen, List.drop_length]; rfl
theorem decM_F {b f : List UInt8} {k : Nat} (hF : firstF b = (f, k, 0)) (hk : k = b.length) : (okF f → decM b = (manF f, 0)) ∧ (¬ okF f → decM b = (zeroM, 5)) := by
  have h1 := firstF_ok (b := b) (by rw [hF])
  rw [hF] at h1
  dsimp only at h1
  constructor
  · intro hc
    refine decM_eq (.inl ⟨rfl, hc.2.2.2.2, ?_⟩)
    unfold encM
    rw [manF_sound hc, ← h1.1, hk, List.take_length]
  · intro hc
    refine decM_eq (.inr ⟨rfl, rfl, fun u hu e => hc ?_⟩)
    rw [firstF_encM hu e] at hF
    injection hF with h2 _
    exact (manF_full hu h2.symm).2
abbrev tkm (b7 b8 br : Nat) (t : TkT) (a : Option Addr) (c : Nat) : HA := .both (.both (.blk b7 (.cells [pt br].toArray 127 (0, 0))) (.blk b8 (.cells [Value.bool t.bad].toArray 4 (0, 0)))) (rdr br true t.e a t.xs.length c)
theorem man_num (b7 b8 br : Nat) (t : TkT) (a : Option Addr) (c : Nat) (g : FH) (w : World) (HO : St w (tkm b7 b8 br t a c).fp g g [tkm b7 b8 br t a c] w) (hr : BS g a c t.xs) :
    Spec Tryd.prog 93 #[pt b7, pt b8] w (tkm b7 b8 br t a c).fp g (fun v' h' L' => v' = .int .u32 (UInt32.ofNat (tkN t)).toNat ∧ h' = g ∧ ∃ a' c', BS g a' c' (tmS t).xs ∧ L' = [tkm b7 b8 br (tmS t) a' c']) := by
  have H := HO.split.split
  have hn := numE_lt t.e t.xs
  have hu := u32_wrap2 (numE t.e t.xs).1
  unfold Spec
  refine calls_of Tryd.func93 rfl Tryd.ntmps93 (by simp) ?_
  cases hb : t.bad with
  | true =>
    rw [hb] at H
    repeat' (first | ((first | refine WL.p rfl ?_ | refine WL.u ?_ | refine WL.g rfl rfl ?_ | refine WL.gu rfl ?_); first | (refine opk 1 rfl ?_; (refine ost_H (A := rdr _ _ _ _ _ _) H rfl (by (exact ixQ)) (fun HO => rd_Num _ _ _ _ _ _ _ HO hr) rfl ?_; clear H; rintro vk wk hfk Lk ⟨rfl, rfl, a2, c2, hr2, rfl⟩ hle H; simp only [List.cons_append, List.nil_append, List.eraseIdx_cons_zero, List.eraseIdx_cons_succ] at H)) | (refine opk 6 rfl ?_; (refine ost_conv rfl rfl ?_)) | refine pvQ ?_ | (refine opk 3 rfl ?_; (refine ost_cmp rfl rfl rfl rfl (fun hc => ?_) (fun hc => ?_) <;> (simp only [cmpP] at hc; try exact prIQ))) | (refine opk 4 rfl ?_; (refine ost_cmp rfl rfl rfl rfl (fun hc => ?_) (fun hc => ?_) <;> (simp only [cmpP] at hc; try exact prIQ))) | (refine opk 8 rfl ?_; (refine ost_store1 H rfl rfl vlQ gvQ ixQ (by first | decide | (simp; omega) | (simp; done) | omega) ?_; clear H; intro wk H; simp only [List.set_cons_zero, List.set_cons_succ, Nat.reduceAdd] at H))) | refine Wc.seq ?_ | refine then_n ?_ | refine WL.nil ?_ | refine Wc.region ?_ | refine Wc.block ?_ | refine then_r ?_ | refine then_e ?_ | refine inb_e rfl ?_ | refine inb_o rfl ?_ | refine inb_n ?_ | refine inb_r ?_ | refine Wc.skip ?_ | refine Wc.exit ?_ | refine Wc.ret ?_ | refine Wc.cond_true rfl ?_ | refine Wc.cond_false rfl ?_ | refine WL.skp rfl rfl ?_ | refine WL.sku rfl ?_)
    have e : (tmS t).bad = true := by simp [tmS, hb]
    exact fn_ret1 (v := .int _ _) rfl rfl ⟨_, _, (H.picks [1, 2, 0] rfl (by decide)).join.join, hu, rfl, a2, c2, hr2, by simp only [tkm]; rw [e]⟩
  | false =>
    rw [hb] at H
    repeat' (first | ((first | refine WL.p rfl ?_ | refine WL.u ?_ | refine WL.g rfl rfl ?_ | refine WL.gu rfl ?_); first | (refine opk 1 rfl ?_; (refine ost_H (A := rdr _ _ _ _ _ _) H rfl (by (exact ixQ)) (fun HO => rd_Num _ _ _ _ _ _ _ HO hr) rfl ?_; clear H; rintro vk wk hfk Lk ⟨rfl, rfl, a2, c2, hr2, rfl⟩ hle H; simp only [List.cons_append, List.nil_append, List.eraseIdx_cons_zero, List.eraseIdx_cons_succ] at H)) | (refine opk 6 rfl ?_; (refine ost_conv rfl rfl ?_)) | refine pvQ ?_ | (refine opk 3 rfl ?_; (refine ost_cmp rfl rfl rfl rfl (fun hc => ?_) (fun hc => ?_) <;> (simp only [cmpP] at hc; try exact prIQ))) | (refine opk 4 rfl ?_; (refine ost_cmp rfl rfl rfl rfl (fun hc => ?_) (fun hc => ?_) <;> (simp only [cmpP] at hc; try exact prIQ))) | (refine opk 8 rfl ?_; (refine ost_store1 H rfl rfl vlQ gvQ ixQ (by first | decide | (simp; omega) | (simp; done) | omega) ?_; clear H; intro wk H; simp only [List.set_cons_zero, List.set_cons_succ, Nat.reduceAdd] at H))) | refine Wc.seq ?_ | refine then_n ?_ | refine WL.nil ?_ | refine Wc.region ?_ | refine Wc.block ?_ | refine then_r ?_ | refine then_e ?_ | refine inb_e rfl ?_ | refine inb_o rfl ?_ | refine inb_n ?_ | refine inb_r ?_ | refine Wc.skip ?_ | refine Wc.exit ?_ | refine Wc.ret ?_ | refine Wc.cond_true rfl ?_ | refine Wc.cond_false rfl ?_ | refine WL.skp rfl rfl ?_ | refine WL.sku rfl ?_)
    all_goals
      have hd : ((numE t.e t.xs).1 : Int).fdiv (2 ^ min (Int.toNat 32) IntKind.u64.bits) = ((tkN t / 4294967296 : Nat) : Int) := by
        rw [show (2 ^ min (Int.toNat 32) IntKind.u64.bits : Int) = 4294967296 by decide, Int.fdiv_eq_ediv_of_nonneg _ (by decide)]
        unfold tkN; simp
      rw [hd] at hc
    · have e : (tmS t).bad = true := by
        have : tkN t / 4294967296 ≠ 0 := by omega
        simp [tmS, this]
      exact fn_ret1 (v := .int _ _) rfl rfl ⟨_, _, (H.picks [1, 2, 0] rfl (by decide)).join.join, hu, rfl, a2, c2, hr2, by simp only [tkm]; rw [e]⟩
    · have e : (tmS t).bad = false := by
        have : tkN t / 4294967296 = 0 := by omega
        simp [tmS, this, hb]
      exact fn_ret1 (v := .int _ _) rfl rfl ⟨_, _, (H.picks [1, 2, 0] rfl (by decide)).join.join, hu, rfl, a2, c2, hr2, by simp only [tkm]; rw [e]⟩
end Go.Tg

set_option linter.unusedVariables false
set_option linter.unusedSimpArgs false
set_option maxRecDepth 100000
set_option maxHeartbeats 2000000
namespace Go.Tg
open Go Go.Proofs
def zeroMA : MAd := ⟨none, 0⟩
theorem zeroM_R (h : FH) : MnR h zeroM zeroMA := Sl.nil _ _
theorem mnL_set17 (ver : UInt64) (flr : V16) (base : UInt32) (ns : Nat) (next : UInt32) (a : Option Addr) (c : Nat) (x : UInt32) : (mnL ver flr base ns next a c).set 17 (.int .u32 x.toNat) = mnL ver flr x ns next a c := by
  show _ :: (cV flr ++ _).set 16 _ = _
  rw [List.set_append_right _ _ (by rw [cV_len]; decide), cV_len]; rfl
theorem mnL_set18 (ver : UInt64) (flr : V16) (base : UInt32) (ns : Nat) (next : UInt32) (a : Option Addr) (c : Nat) (a' : Option Addr) (c' n' : Nat) : (mnL ver flr base ns next a c).set 18 (.slice a' n' c') = mnL ver flr base n' next a' c' := by
  show _ :: (cV flr ++ _).set 17 _ = _
  rw [List.set_append_right _ _ (by rw [cV_len]; decide), cV_len]; rfl
theorem mnL_set19 (ver : UInt64) (flr : V16) (base : UInt32) (ns : Nat) (next : UInt32) (a : Option Addr) (c : Nat) (x : UInt32) : (mnL ver flr base ns next a c).set 19 (.int .u32 x.toNat) = mnL ver flr base ns x a c := by
  show _ :: (cV flr ++ _).set 18 _ = _
  rw [List.set_append_right _ _ (by rw [cV_len]; decide), cV_len]; rfl
theorem man_Decode (h0 : FH) (a : Option Addr) (c : Nat) (b : List UInt8) (w : World) (hs : Sat h0 w) (hT : Half h0) (hr : BS h0 a c b) (hb : b.length ≤ 1000000) :
    Spec Tryd.prog 49 #[.slice a b.length c] w [] h0 (fun v h' L' => ∃ A, v = .tuple #[.agg (mnV (decM b).1 A).toArray, .int .i64 (decM b).2] ∧ L' = [] ∧ MnR h' (decM b).1 A) := by
  have H := St.start hs
  have hFF := frame_First h0 a c b
  have hA := @decM_F b
  have hN := @decM_no b
  have hok := @firstF_ok b
  generalize firstF b = F at hFF hA hN hok
  obtain ⟨f, k, e⟩ := F
  dsimp only at hFF hN hok
  unfold Spec
  refine calls_of Tryd.func49 rfl Tryd.ntmps49 (by simp) ?_
  by_cases he : e = 0
  · subst he
    by_cases hk : k = b.length
    · obtain ⟨hY, hZ⟩ := hA rfl hk
      clear hA hN
      obtain ⟨_, hf4, _⟩ := hok rfl
      have hfl : f.length ≤ 1000000 := by omega
      repeat' (first | ((first | refine WL.p rfl ?_ | refine WL.u ?_ | refine WL.g rfl rfl ?_ | refine WL.gu rfl ?_); first | (refine opk 1 rfl ?_; (refine ost_Sk H rfl (hFF _ H.sat hT hr (by omega)) rfl ?_; clear H; rintro vk wk hfk Lk ⟨a1, c1, rfl, e9, rfl⟩ hle H; simp only [List.cons_append, List.nil_append] at H)) | refine pvQ ?_ | (refine opk 3 rfl ?_; (refine ost_cmp rfl rfl rfl rfl (fun hc => ?_) (fun hc => ?_) <;> (simp only [cmpP] at hc; try exact prIQ))) | (refine opk 4 rfl ?_; (refine ost_cmp rfl rfl rfl rfl (fun hc => ?_) (fun hc => ?_) <;> (simp only [cmpP] at hc; try exact prIQ))) | (refine opk 8 rfl ?_; first | (refine ost_store1 H rfl rfl vlQ gvQ ixQ (by first | decide | (simp; omega) | (simp; done) | omega) ?_; clear H; intro wk H; simp only [List.set_cons_zero, List.set_cons_succ, Nat.reduceAdd] at H) | (refine ost_storeW H rfl rfl rfl rfl lQ ixQ lQ okQ ?_; clear H; intro wk H; simp only [List.set_cons_zero, List.set_cons_succ, Nat.reduceAdd] at H)) | (refine opk 9 rfl ?_; first | (refine ost_allocA H rfl ?_; clear H; intro bk wk H) | (refine ost_alloc1 H rfl rfl ?_; clear H; intro bk wk H) | (refine ost_build1 H rfl rfl rfl evQ lsQ rfl ?_; clear H; intro bk wk H))) | refine Wc.seq ?_ | refine then_n ?_ | refine WL.nil ?_ | refine Wc.region ?_ | refine Wc.block ?_ | refine then_r ?_ | refine then_e ?_ | refine inb_e rfl ?_ | refine inb_o rfl ?_ | refine inb_n ?_ | refine inb_r ?_ | refine Wc.skip ?_ | refine Wc.exit ?_ | refine Wc.ret ?_ | refine Wc.cond_true rfl ?_ | refine Wc.cond_false rfl ?_ | (refine Wc.drawn (id := 17) 5 (by kernel_rfl) ?_) | refine WL.skp rfl rfl ?_ | refine WL.sku rfl ?_ | (refine rgs_nil ?_; intro vs wk hE; replace H := H.ext hE; clear hE) | refine RGs.skp (fun _ => rfl) rfl ?_ | (refine RGs.bq (fun _ => rfl) rfl (by intro vs w hE hP; have H := H.ext hE; first | exact dbQ | fail) (fun hc => ?_) (fun hc => ?_) <;> ((try simp only [cmpP, decide_eq_true_eq, decide_eq_false_iff_not, dcd_iff, dcd_no] at hc); try exact prDQ)) | refine RGs.pq (fun _ => rfl) rfl (by intro vs w hE hP; have H := H.ext hE; first | exact dvQ | fail) ?_)
      replace e9 := e9.symm
      subst e9
      obtain ⟨a6, c6, h6, e6, hle6, hr6, H⟩ := H.freeze8
      cases e6
      have l1 := numE_len 0 f
      have l2 := bytesE_len (numE 0 f).2.2.1 (numE 0 f).2.2.2
      repeat' (first | ((first | refine WL.p rfl ?_ | refine WL.u ?_ | refine WL.g rfl rfl ?_ | refine WL.gu rfl ?_); first | (refine opk 1 rfl ?_; (refine ost_Sk H rfl (pack_Read _ _ _ _ _ H.sat hr6 (by omega)) rfl ?_; clear H; rintro vk wk hfk Lk ⟨b1, a2, c2, rfl, hr2, rfl⟩ hle H; simp only [List.cons_append, List.nil_append] at H)) | refine pvQ ?_ | (refine opk 3 rfl ?_; (refine ost_cmp rfl rfl rfl rfl (fun hc => ?_) (fun hc => ?_) <;> (simp only [cmpP] at hc; try exact prIQ))) | (refine opk 4 rfl ?_; (refine ost_cmp rfl rfl rfl rfl (fun hc => ?_) (fun hc => ?_) <;> (simp only [cmpP] at hc; try exact prIQ))) | (refine opk 8 rfl ?_; first | (refine ost_store1 H rfl rfl vlQ gvQ ixQ (by first | decide | (simp; omega) | (simp; done) | omega) ?_; clear H; intro wk H; simp only [List.set_cons_zero, List.set_cons_succ, Nat.reduceAdd] at H) | (refine ost_storeW H rfl rfl rfl rfl lQ ixQ lQ okQ ?_; clear H; intro wk H; simp only [List.set_cons_zero, List.set_cons_succ, Nat.reduceAdd] at H)) | (refine opk 9 rfl ?_; first | (refine ost_allocA H rfl ?_; clear H; intro bk wk H) | (refine ost_alloc1 H rfl rfl ?_; clear H; intro bk wk H) | (refine ost_build1 H rfl rfl rfl evQ lsQ rfl ?_; clear H; intro bk wk H))) | refine Wc.seq ?_ | refine then_n ?_ | refine WL.nil ?_ | refine Wc.region ?_ | refine Wc.block ?_ | refine then_r ?_ | refine then_e ?_ | refine inb_e rfl ?_ | refine inb_o rfl ?_ | refine inb_n ?_ | refine inb_r ?_ | refine Wc.skip ?_ | refine Wc.exit ?_ | refine Wc.ret ?_ | refine Wc.cond_true rfl ?_ | refine Wc.cond_false rfl ?_ | (refine Wc.drawn (id := 17) 5 (by kernel_rfl) ?_) | refine WL.skp rfl rfl ?_ | refine WL.sku rfl ?_ | (refine rgs_nil ?_; intro vs wk hE; replace H := H.ext hE; clear hE) | refine RGs.skp (fun _ => rfl) rfl ?_ | (refine RGs.bq (fun _ => rfl) rfl (by intro vs w hE hP; have H := H.ext hE; first | exact dbQ | fail) (fun hc => ?_) (fun hc => ?_) <;> ((try simp only [cmpP, decide_eq_true_eq, decide_eq_false_iff_not, dcd_iff, dcd_no] at hc); try exact prDQ)) | refine RGs.pq (fun _ => rfl) rfl (by intro vs w hE hP; have H := H.ext hE; first | exact dvQ | fail) ?_)
      obtain ⟨b0, eb0⟩ := H.nameB idx0
      subst eb0
      obtain ⟨b8, eb8⟩ := H.nameB idx1
      subst eb8
      obtain ⟨b7, eb7⟩ := H.nameB idx2
      subst eb7
      obtain ⟨b2, eb2⟩ := H.nameB idx4
      subst eb2
      generalize hfn : Value.func (Fn.func 93) _ _ = fv
      replace hfn : fv = .func (Fn.func 93) #[] #[pt b7, pt b8] := hfn.symm.trans (by kernel_rfl)
      subst hfn
      have hv1 : Value.int .u64 ((numE 0 f).1 : Nat) = .int .u64 (UInt64.ofNat (verF f)).toNat := by
        have := numE_lt 0 f
        unfold verF; simp; omega
      repeat' (first | ((first | refine WL.p rfl ?_ | refine WL.u ?_ | refine WL.g rfl rfl ?_ | refine WL.gu rfl ?_); first | (refine opk 1 rfl ?_; (refine ost_H (A := rdr _ _ _ _ _ _) H rfl (by (exact ixQ)) (fun HO => rd_Num _ _ _ _ _ _ _ HO (by assumption)) rfl ?_; clear H; rintro vk wk hfk Lk ⟨rfl, rfl, a3, c3, hr3, rfl⟩ hle H; simp only [List.cons_append, List.nil_append, List.eraseIdx_cons_zero, List.eraseIdx_cons_succ] at H)) | refine pvQ ?_ | (refine opk 3 rfl ?_; (refine ost_cmp rfl rfl rfl rfl (fun hc => ?_) (fun hc => ?_) <;> (simp only [cmpP] at hc; try exact prIQ))) | (refine opk 4 rfl ?_; (refine ost_cmp rfl rfl rfl rfl (fun hc => ?_) (fun hc => ?_) <;> (simp only [cmpP] at hc; try exact prIQ))) | (refine opk 8 rfl ?_; first | (refine ost_store1 H rfl rfl vlQ gvQ ixQ (by first | decide | (simp; omega) | (simp; done) | omega) ?_; clear H; intro wk H; simp only [List.set_cons_zero, List.set_cons_succ, Nat.reduceAdd] at H) | (refine ost_storeW H rfl rfl rfl rfl lQ ixQ lQ okQ ?_; clear H; intro wk H; simp only [List.set_cons_zero, List.set_cons_succ, Nat.reduceAdd] at H)) | (refine opk 9 rfl ?_; first | (refine ost_allocA H rfl ?_; clear H; intro bk wk H) | (refine ost_alloc1 H rfl rfl ?_; clear H; intro bk wk H) | (refine ost_build1 H rfl rfl rfl evQ lsQ rfl ?_; clear H; intro bk wk H))) | refine Wc.seq ?_ | refine then_n ?_ | refine WL.nil ?_ | refine Wc.region ?_ | refine Wc.block ?_ | refine then_r ?_ | refine then_e ?_ | refine inb_e rfl ?_ | refine inb_o rfl ?_ | refine inb_n ?_ | refine inb_r ?_ | refine Wc.skip ?_ | refine Wc.exit ?_ | refine Wc.ret ?_ | refine Wc.cond_true rfl ?_ | refine Wc.cond_false rfl ?_ | (refine Wc.drawn (id := 17) 5 (by kernel_rfl) ?_) | refine WL.skp rfl rfl ?_ | refine WL.sku rfl ?_ | (refine rgs_nil ?_; intro vs wk hE; replace H := H.ext hE; clear hE) | refine RGs.skp (fun _ => rfl) rfl ?_ | (refine RGs.bq (fun _ => rfl) rfl (by intro vs w hE hP; have H := H.ext hE; first | exact dbQ | fail) (fun hc => ?_) (fun hc => ?_) <;> ((try simp only [cmpP, decide_eq_true_eq, decide_eq_false_iff_not, dcd_iff, dcd_no] at hc); try exact prDQ)) | refine RGs.pq (fun _ => rfl) rfl (by intro vs w hE hP; have H := H.ext hE; first | exact dvQ | fail) ?_)
      rw [hv1] at H
      replace H : St w [] h0 hfk [rdr b1 true (numE 0 f).2.2.1 a3 (numE 0 f).2.2.2.length c3, .blk b0 (.cells (mnL (UInt64.ofNat (verF f)) (fun _ => 0) 0 0 0 none 0).toArray 95 (0, 0)), .blk b8 (.cells [Value.bool false].toArray 4 (0, 0)), .blk b7 (.cells [pt b1].toArray 127 (0, 0)), .blk b2 (.cells (mnL 0 (fun _ => 0) 0 0 0 none 0).toArray 95 (0, 0))] wk := H
      repeat' (first | ((first | refine WL.p rfl ?_ | refine WL.u ?_ | refine WL.g rfl rfl ?_ | refine WL.gu rfl ?_); first | (refine opk 1 rfl ?_; (refine ost_H (A := rdr _ _ _ _ _ _) H rfl (by (exact ixQ)) (fun HO => rd_Bytes _ _ _ _ _ _ _ HO (by assumption) (by omega)) rfl ?_; clear H; rintro vk wk hfk Lk ⟨a4, c4, a5, c5, rfl, rfl, hr5, rfl⟩ hle H; simp only [List.cons_append, List.nil_append, List.eraseIdx_cons_zero, List.eraseIdx_cons_succ] at H)) | refine pvQ ?_ | (refine opk 3 rfl ?_; (refine ost_cmp rfl rfl rfl rfl (fun hc => ?_) (fun hc => ?_) <;> (simp only [cmpP] at hc; try exact prIQ))) | (refine opk 4 rfl ?_; (refine ost_cmp rfl rfl rfl rfl (fun hc => ?_) (fun hc => ?_) <;> (simp only [cmpP] at hc; try exact prIQ))) | (refine opk 8 rfl ?_; first | (refine ost_store1 H rfl rfl vlQ gvQ ixQ (by first | decide | (simp; omega) | (simp; done) | omega) ?_; clear H; intro wk H; simp only [List.set_cons_zero, List.set_cons_succ, Nat.reduceAdd] at H) | (refine ost_storeW H rfl rfl rfl rfl lQ ixQ lQ okQ ?_; clear H; intro wk H; simp only [List.set_cons_zero, List.set_cons_succ, Nat.reduceAdd] at H)) | (refine opk 9 rfl ?_; first | (refine ost_allocA H rfl ?_; clear H; intro bk wk H) | (refine ost_alloc1 H rfl rfl ?_; clear H; intro bk wk H) | (refine ost_build1 H rfl rfl rfl evQ lsQ rfl ?_; clear H; intro bk wk H))) | refine Wc.seq ?_ | refine then_n ?_ | refine WL.nil ?_ | refine Wc.region ?_ | refine Wc.block ?_ | refine then_r ?_ | refine then_e ?_ | refine inb_e rfl ?_ | refine inb_o rfl ?_ | refine inb_n ?_ | refine inb_r ?_ | refine Wc.skip ?_ | refine Wc.exit ?_ | refine Wc.ret ?_ | refine Wc.cond_true rfl ?_ | refine Wc.cond_false rfl ?_ | (refine Wc.drawn (id := 17) 5 (by kernel_rfl) ?_) | refine WL.skp rfl rfl ?_ | refine WL.sku rfl ?_ | (refine rgs_nil ?_; intro vs wk hE; replace H := H.ext hE; clear hE) | refine RGs.skp (fun _ => rfl) rfl ?_ | (refine RGs.bq (fun _ => rfl) rfl (by intro vs w hE hP; have H := H.ext hE; first | exact dbQ | fail) (fun hc => ?_) (fun hc => ?_) <;> ((try simp only [cmpP, decide_eq_true_eq, decide_eq_false_iff_not, dcd_iff, dcd_no] at hc); try exact prDQ)) | refine RGs.pq (fun _ => rfl) rfl (by intro vs w hE hP; have H := H.ext hE; first | exact dvQ | fail) ?_)
      have ob : bytesE (numE 0 f).2.2.1 (numE 0 f).2.2.2 = bt2 f := rfl
      rw [ob] at H hr5
      obtain ⟨a8, c8, h8, e8, hle8, hr8, H⟩ := H.freeze8
      cases e8
      have hr9 : BS h8 a5 c5 (t0F f).xs := hr5.mono hle8
      have hT8 := (hT.mono hle6).mono ((by assumption : FLe h6 hfk).trans hle8)
      replace H : St w [] h0 h8 [rdr b1 true (t0F f).e a5 (t0F f).xs.length c5, .blk b0 (.cells (mnL (UInt64.ofNat (verF f)) (fun _ => 0) 0 0 0 none 0).toArray 95 (0, 0)), .blk b8 (.cells [Value.bool false].toArray 4 (0, 0)), .blk b7 (.cells [pt b1].toArray 127 (0, 0)), .blk b2 (.cells (mnL 0 (fun _ => 0) 0 0 0 none 0).toArray 95 (0, 0))] wk := H
      have hD := vec_Decode h8 a4 c4 (flrF f)
      have hfl8 : (flrF f).length ≤ 1000000 := Nat.le_trans l2 (Nat.le_trans l1 hfl)
      replace hr8 : BS h8 a4 c4 (flrF f) := hr8
      have lv := cV_len (decV (flrF f)).1
      have hok3 : okF f → (decV (flrF f)).2 = 0 := fun h => h.1
      have hman : manF f = ⟨UInt64.ofNat (verF f), (decV (flrF f)).1, UInt32.ofNat (tkN (t0F f)), segsF (t0F f) (mF f), UInt32.ofNat (tkN (tmL (t0F f) (2 + mF f)))⟩ := rfl
      have hokd : okF f ↔ (decV (flrF f)).2 = 0 ∧ (endF f).bad = false ∧ (endF f).e = 0 ∧ (endF f).xs = [] ∧ rightM (manF f) = true := Iff.rfl
      have lz := mnL_len (UInt64.ofNat (verF f)) (fun _ => 0) 0 0 0 none 0
      have lz2 := mnL_len 0 (fun _ => 0) 0 0 0 none 0
      generalize decV (flrF f) = D at hD lv hok3 hman hokd
      by_cases hv : D.2 = 0
      · repeat' (first | ((first | refine WL.p rfl ?_ | refine WL.u ?_ | refine WL.g rfl rfl ?_ | refine WL.gu rfl ?_); first | (refine opk 1 rfl ?_; (refine ost_V H rfl (hD _ H.sat hr8 hfl8) rfl ?_; clear H; intro wk H)) | (refine opk 8 rfl ?_; (refine ost_storeA (i := 1) (vs := cV D.1) H rfl rfl rfl (cV_one _) (cV_len _) (by rfl) (by omega) ?_; clear H; intro wk H)) | refine pvQ ?_ | (refine opk 3 rfl ?_; (refine ost_cmp rfl rfl rfl rfl (fun hc => ?_) (fun hc => ?_) <;> (simp only [cmpP] at hc; try exact prIQ))) | (refine opk 4 rfl ?_; (refine ost_cmp rfl rfl rfl rfl (fun hc => ?_) (fun hc => ?_) <;> (simp only [cmpP] at hc; try exact prIQ))) | (refine opk 8 rfl ?_; first | (refine ost_store1 H rfl rfl vlQ gvQ ixQ (by first | decide | (simp; omega) | (simp; done) | omega) ?_; clear H; intro wk H; simp only [List.set_cons_zero, List.set_cons_succ, Nat.reduceAdd] at H) | (refine ost_storeW H rfl rfl rfl rfl lQ ixQ lQ okQ ?_; clear H; intro wk H; simp only [List.set_cons_zero, List.set_cons_succ, Nat.reduceAdd] at H)) | (refine opk 9 rfl ?_; first | (refine ost_allocA H rfl ?_; clear H; intro bk wk H) | (refine ost_alloc1 H rfl rfl ?_; clear H; intro bk wk H) | (refine ost_build1 H rfl rfl rfl evQ lsQ rfl ?_; clear H; intro bk wk H))) | refine Wc.seq ?_ | refine then_n ?_ | refine WL.nil ?_ | refine Wc.region ?_ | refine Wc.block ?_ | refine then_r ?_ | refine then_e ?_ | refine inb_e rfl ?_ | refine inb_o rfl ?_ | refine inb_n ?_ | refine inb_r ?_ | refine Wc.skip ?_ | refine Wc.exit ?_ | refine Wc.ret ?_ | refine Wc.cond_true rfl ?_ | refine Wc.cond_false rfl ?_ | (refine Wc.drawn (id := 17) 5 (by kernel_rfl) ?_) | refine WL.skp rfl rfl ?_ | refine WL.sku rfl ?_ | (refine rgs_nil ?_; intro vs wk hE; replace H := H.ext hE; clear hE) | refine RGs.skp (fun _ => rfl) rfl ?_ | (refine RGs.bq (fun _ => rfl) rfl (by intro vs w hE hP; have H := H.ext hE; first | exact dbQ | fail) (fun hc => ?_) (fun hc => ?_) <;> ((try simp only [cmpP, decide_eq_true_eq, decide_eq_false_iff_not, dcd_iff, dcd_no] at hc); try exact prDQ)) | refine RGs.pq (fun _ => rfl) rfl (by intro vs w hE hP; have H := H.ext hE; first | exact dvQ | fail) ?_)
        rw [lv] at H
        replace H : St w [] h0 h8 [tkm b7 b8 b1 (t0F f) a5 c5, .blk b0 (.cells (mnL (UInt64.ofNat (verF f)) D.1 0 0 0 none 0).toArray 95 (0, 0)), .blk b2 (.cells (mnL 0 (fun _ => 0) 0 0 0 none 0).toArray 95 (0, 0))] wk := ((H.picks [3, 2, 0, 1, 4] rfl (by decide)).join).join
        clear lz
        have lz := fun base ns next a c => mnL_len (UInt64.ofNat (verF f)) D.1 base ns next a c
        have lz1 := lz 0 0 0 none 0
        have hC := fun w HO => man_num b7 b8 b1 (t0F f) a5 c5 h8 w HO hr9
        repeat' (first | ((first | refine WL.p rfl ?_ | refine WL.u ?_ | refine WL.g rfl rfl ?_ | refine WL.gu rfl ?_); first | (refine opk 1 rfl ?_; (refine ost_HE (A := tkm b7 b8 b1 (t0F f) a5 c5) (f := 93) (vs := [pt b7, pt b8]) H (ent_v rfl rfl rfl) (by (exact ixQ)) (fun HO => hC _ HO) ?_; clear H; rintro vk wk hfk Lk ⟨rfl, rfl, a6, c6, hr6, rfl⟩ hle H; simp only [List.cons_append, List.nil_append, List.eraseIdx_cons_zero, List.eraseIdx_cons_succ] at H)) | refine pvQ ?_ | (refine opk 3 rfl ?_; (refine ost_cmp rfl rfl rfl rfl (fun hc => ?_) (fun hc => ?_) <;> (simp only [cmpP] at hc; try exact prIQ))) | (refine opk 4 rfl ?_; (refine ost_cmp rfl rfl rfl rfl (fun hc => ?_) (fun hc => ?_) <;> (simp only [cmpP] at hc; try exact prIQ))) | (refine opk 8 rfl ?_; first | (refine ost_store1 H rfl rfl vlQ gvQ ixQ (by first | decide | (simp; omega) | (simp; done) | omega) ?_; clear H; intro wk H; simp only [List.set_cons_zero, List.set_cons_succ, Nat.reduceAdd] at H) | (refine ost_storeW H rfl rfl rfl rfl lQ ixQ lQ okQ ?_; clear H; intro wk H; simp only [List.set_cons_zero, List.set_cons_succ, Nat.reduceAdd] at H)) | (refine opk 9 rfl ?_; first | (refine ost_allocA H rfl ?_; clear H; intro bk wk H) | (refine ost_alloc1 H rfl rfl ?_; clear H; intro bk wk H) | (refine ost_build1 H rfl rfl rfl evQ lsQ rfl ?_; clear H; intro bk wk H))) | refine Wc.seq ?_ | refine then_n ?_ | refine WL.nil ?_ | refine Wc.region ?_ | refine Wc.block ?_ | refine then_r ?_ | refine then_e ?_ | refine inb_e rfl ?_ | refine inb_o rfl ?_ | refine inb_n ?_ | refine inb_r ?_ | refine Wc.skip ?_ | refine Wc.exit ?_ | refine Wc.ret ?_ | refine Wc.cond_true rfl ?_ | refine Wc.cond_false rfl ?_ | (refine Wc.drawn (id := 17) 5 (by kernel_rfl) ?_) | refine WL.skp rfl rfl ?_ | refine WL.sku rfl ?_ | (refine rgs_nil ?_; intro vs wk hE; replace H := H.ext hE; clear hE) | refine RGs.skp (fun _ => rfl) rfl ?_ | (refine RGs.bq (fun _ => rfl) rfl (by intro vs w hE hP; have H := H.ext hE; first | exact dbQ | fail) (fun hc => ?_) (fun hc => ?_) <;> ((try simp only [cmpP, decide_eq_true_eq, decide_eq_false_iff_not, dcd_iff, dcd_no] at hc); try exact prDQ)) | refine RGs.pq (fun _ => rfl) rfl (by intro vs w hE hP; have H := H.ext hE; first | exact dvQ | fail) ?_)
        rw [mnL_set17] at H
        generalize hbs : UInt32.ofNat (tkN (t0F f)) = base at H hman ⊢
        have hc2 : cntF f = (UInt32.ofNat (tkN (tmS (t0F f)))).toNat := rfl
        generalize hT1 : tmS (t0F f) = T1 at H hr6 hc2
        clear hC
        have hC := fun w HO => man_num b7 b8 b1 T1 a6 c6 hfk w HO hr6
        repeat' (first | ((first | refine WL.p rfl ?_ | refine WL.u ?_ | refine WL.g rfl rfl ?_ | refine WL.gu rfl ?_); first | (refine opk 1 rfl ?_; (refine ost_HE (A := tkm b7 b8 b1 T1 a6 c6) (f := 93) (vs := [pt b7, pt b8]) H (ent_v rfl rfl rfl) (by (exact ixQ)) (fun HO => hC _ HO) ?_; clear H; rintro vk wk hfk Lk ⟨rfl, rfl, a6, c6, hr6, rfl⟩ hle H; simp only [List.cons_append, List.nil_append, List.eraseIdx_cons_zero, List.eraseIdx_cons_succ] at H)) | refine pvQ ?_ | (refine opk 3 rfl ?_; (refine ost_cmp rfl rfl rfl rfl (fun hc => ?_) (fun hc => ?_) <;> (simp only [cmpP] at hc; try exact prIQ))) | (refine opk 4 rfl ?_; (refine ost_cmp rfl rfl rfl rfl (fun hc => ?_) (fun hc => ?_) <;> (simp only [cmpP] at hc; try exact prIQ))) | (refine opk 8 rfl ?_; first | (refine ost_store1 H rfl rfl vlQ gvQ ixQ (by first | decide | (simp; omega) | (simp; done) | omega) ?_; clear H; intro wk H; simp only [List.set_cons_zero, List.set_cons_succ, Nat.reduceAdd] at H) | (refine ost_storeW H rfl rfl rfl rfl lQ ixQ lQ okQ ?_; clear H; intro wk H; simp only [List.set_cons_zero, List.set_cons_succ, Nat.reduceAdd] at H)) | (refine opk 9 rfl ?_; first | (refine ost_allocA H rfl ?_; clear H; intro bk wk H) | (refine ost_alloc1 H rfl rfl ?_; clear H; intro bk wk H) | (refine ost_build1 H rfl rfl rfl evQ lsQ rfl ?_; clear H; intro bk wk H))) | refine Wc.seq ?_ | refine then_n ?_ | refine WL.nil ?_ | refine Wc.region ?_ | refine Wc.block ?_ | refine then_r ?_ | refine then_e ?_ | refine inb_e rfl ?_ | refine inb_o rfl ?_ | refine inb_n ?_ | refine inb_r ?_ | refine Wc.skip ?_ | refine Wc.exit ?_ | refine Wc.ret ?_ | refine Wc.cond_true rfl ?_ | refine Wc.cond_false rfl ?_ | (refine Wc.drawn (id := 17) 5 (by kernel_rfl) ?_) | refine WL.skp rfl rfl ?_ | refine WL.sku rfl ?_ | (refine rgs_nil ?_; intro vs wk hE; replace H := H.ext hE; clear hE) | refine RGs.skp (fun _ => rfl) rfl ?_ | (refine RGs.bq (fun _ => rfl) rfl (by intro vs w hE hP; have H := H.ext hE; first | exact dbQ | fail) (fun hc => ?_) (fun hc => ?_) <;> ((try simp only [cmpP, decide_eq_true_eq, decide_eq_false_iff_not, dcd_iff, dcd_no] at hc); try exact prDQ)) | refine RGs.pq (fun _ => rfl) rfl (by intro vs w hE hP; have H := H.ext hE; first | exact dvQ | fail) ?_)
        subst hT1
        have hm9 : ((min ((UInt32.ofNat (tkN (tmS (t0F f)))).toNat : Int) 65)) = ((mF f : Nat) : Int) := by unfold mF; rw [hc2]; omega
        have hm8 : mF f ≤ 65 := by unfold mF; omega
        replace hr6 : BS hfk a6 c6 (tmL (t0F f) (2 + 0)).xs := hr6
        replace H : St w [] h0 hfk [ownR (.slice none ((segsF (t0F f) 0).map cKid).length 0) 28 1 ((segsF (t0F f) 0).map cKid), tkm b7 b8 b1 (tmL (t0F f) (2 + 0)) a6 c6, .blk b0 (.cells (mnL (UInt64.ofNat (verF f)) D.1 base ((segsF (t0F f) 0).map cKid).length 0 none 0).toArray 95 (0, 0)), .blk b2 (.cells (mnL 0 (fun _ => 0) 0 0 0 none 0).toArray 95 (0, 0))] wk := H.nilOwn 28 1
        refine Wc.loopE (fun s0 m s w' => ∃ (k : Nat) (ak : Option Addr) (ck : Nat) (a3 : Option Addr) (c3 : Nat), m = mF f - k ∧ k ≤ mF f ∧ Agree [59, 60, 61, 62, 63, 64, 65, 66, 67, 68] s s0 ∧ s 59 = .int .u32 k ∧ BS hfk a3 c3 (tmL (t0F f) (2 + k)).xs ∧
          St w [] h0 hfk [ownR (.slice ak ((segsF (t0F f) k).map cKid).length ck) 28 1 ((segsF (t0F f) k).map cKid), tkm b7 b8 b1 (tmL (t0F f) (2 + k)) a3 c3, .blk b0 (.cells (mnL (UInt64.ofNat (verF f)) D.1 base ((segsF (t0F f) k).map cKid).length 0 ak ck).toArray 95 (0, 0)), .blk b2 (.cells (mnL 0 (fun _ => 0) 0 0 0 none 0).toArray 95 (0, 0))] w') (mF f) ⟨0, _, _, _, _, rfl, by omega, Agree.refl _ _, rfl, hr6, H⟩ ?_
        clear H hr6 hC
        rintro m s w' ⟨k, ak, ck, a3, c3, rfl, hk9, hA9, e1, hr3, H⟩
        obtain ⟨j, rfl⟩ := hA9.env1 e1
        clear hA9 e1
        have hLl : ((segsF (t0F f) k).map cKid).length = k := by rw [List.length_map, segsF_len]
        have lz1 := lz base ((segsF (t0F f) k).map cKid).length 0 ak ck
        have q18 := mnL_18 (UInt64.ofNat (verF f)) D.1 base ((segsF (t0F f) k).map cKid).length 0 ak ck
        by_cases hlt : k < mF f
        · have hL1 := segsF_succ (t0F f) k
          have hT1 : tmL (t0F f) (2 + (k + 1)) = tmS (tmL (t0F f) (2 + k)) := rfl
          generalize segsF (t0F f) k = LS at H hL1 hLl lz1 q18
          generalize tmL (t0F f) (2 + k) = T at H hr3 hT1 hL1
          have hrl := rows_len1 LS
          have hC := fun w HO => man_num b7 b8 b1 T a3 c3 hfk w HO hr3
          repeat' (first | ((first | refine WL.p rfl ?_ | refine WL.u ?_ | refine WL.g rfl rfl ?_ | refine WL.gu rfl ?_); first | (refine opk 1 rfl ?_; (refine ost_appR (rows := LS.map cKid) (row := [Value.int .u32 ((UInt32.ofNat (tkN T)).toNat : Int)]) H rfl rfl rfl (by (exact ixQ)) (by (exact ixQ)) (by rfl) (by first | simp; done | exact Nat.succ_pos _) rfl (allOne_of rfl) rfl (by omega) ?_; clear H; intro aa ca wk H; simp only [List.set_cons_zero, List.set_cons_succ] at H)) | refine pvQ ?_ | (refine opk 3 rfl ?_; (refine ost_cmp rfl rfl rfl rfl (fun hc => ?_) (fun hc => ?_) <;> (simp only [cmpP] at hc; try exact prIQ))) | (refine opk 4 rfl ?_; (refine ost_cmp rfl rfl rfl rfl (fun hc => ?_) (fun hc => ?_) <;> (simp only [cmpP] at hc; try exact prIQ))) | (refine opk 8 rfl ?_; first | (refine ost_store1 H rfl rfl vlQ gvQ ixQ (by first | decide | (simp; omega) | (simp; done) | omega) ?_; clear H; intro wk H; simp only [List.set_cons_zero, List.set_cons_succ, Nat.reduceAdd] at H) | (refine ost_storeW H rfl rfl rfl rfl lQ ixQ lQ okQ ?_; clear H; intro wk H; simp only [List.set_cons_zero, List.set_cons_succ, Nat.reduceAdd] at H)) | (refine opk 9 rfl ?_; first | (refine ost_allocA H rfl ?_; clear H; intro bk wk H) | (refine ost_alloc1 H rfl rfl ?_; clear H; intro bk wk H) | (refine ost_build1 H rfl rfl rfl evQ lsQ rfl ?_; clear H; intro bk wk H))) | refine Wc.seq ?_ | refine then_n ?_ | refine WL.nil ?_ | refine Wc.region ?_ | refine Wc.block ?_ | refine then_r ?_ | refine then_e ?_ | refine inb_e rfl ?_ | refine inb_o rfl ?_ | refine inb_n ?_ | refine inb_r ?_ | refine Wc.skip ?_ | refine Wc.exit ?_ | refine Wc.ret ?_ | refine Wc.cond_true rfl ?_ | refine Wc.cond_false rfl ?_ | refine WL.skp rfl rfl ?_ | refine WL.sku rfl ?_ | (refine Wc.drawM (id := 17) 5 [(3, [tkm b7 b8 b1 T a3 c3], fun v L' => v = Value.int .u32 ((UInt32.ofNat (tkN T)).toNat : Int) ∧ ∃ a' c', BS hfk a' c' (tmS T).xs ∧ L' = [tkm b7 b8 b1 (tmS T) a' c']), (4, [], fun v L' => ∃ b, v = Value.slice (some ⟨b, 0, none⟩) 1 1 ∧ L' = [ownR (Value.slice (some ⟨b, 0, none⟩) 1 1) 28 1 [[Value.int .u32 ((UInt32.ofNat (tkN T)).toNat : Int)]]])] [ownR _ _ _ _, .blk _ _, .blk _ _] [3, 4] H (by kernel_rfl) rfl (by kernel_rfl) (perm_pick [0, 2, 3, 1] 4 rfl (by decide) rfl) ?_) | (refine rgm_nil ?_; intro vs wk outs HM hR; obtain ⟨v3, ⟨e3, a2, c2, hr2, o3⟩, h3⟩ := hR 3 _ rfl; have hv3 : vs (0 + 1 + 1 + 1) = _ := (h3 (by kernel_rfl)).trans e3; obtain ⟨v4, ⟨b4, e4, o4⟩, h4⟩ := hR 4 _ rfl; have hv4 : vs (0 + 1 + 1 + 1 + 1) = _ := (h4 (by kernel_rfl)).trans e4; simp only [outsL, o3, o4, List.cons_append, List.nil_append, List.append_nil] at HM; (try dsimp only); rw [hv3, hv4]; replace H := HM; clear HM hR) | refine RGm.skp (fun _ => rfl) rfl ?_ | (refine RGm.bq (fun _ => rfl) rfl (by intro vs w TT hP H; simp only [List.cons_append, List.nil_append] at H; first | exact dbQ | fail) (fun hc => ?_) (fun hc => ?_) <;> ((try simp only [cmpP, decide_eq_true_eq, decide_eq_false_iff_not, dcd_iff, dcd_no] at hc); try exact prDQ)) | refine RGm.pq (fun _ => rfl) rfl (by intro vs w TT hP H; simp only [List.cons_append, List.nil_append] at H; first | exact dvQ | fail) ?_ | refine RGm.mq (fun _ => rfl) rfl (by intro vs w TT hP H; simp only [List.cons_append, List.nil_append] at H; first | (refine ost_HE (A := tkm b7 b8 b1 T a3 c3) (f := 93) (vs := [pt b7, pt b8]) H (ent_v rfl rfl rfl) ixQ (fun HO => hC _ HO) ?_; rintro vk wk hfk2 Lk ⟨rfl, rfl, a8, c8, hr8, rfl⟩ hle2 H2; simp only [List.cons_append, List.nil_append, List.eraseIdx_cons_zero, List.eraseIdx_cons_succ] at H2; exact ⟨_, ⟨rfl, a8, c8, hr8, rfl⟩, H2⟩) | (obtain ⟨L9, e9, -⟩ := hP 3 _ (by kernel_rfl) rfl rfl; have e8 : vs (0 + 1 + 1 + 1) = _ := e9; rw [e8]; refine ost_buildR (rows := [[Value.int .u32 ((UInt32.ofNat (tkN T)).toNat : Int)]]) H rfl (by decide) rfl (by rfl) (evP1 vxQ) (.cons rfl .nil) rfl (by simp) ?_; intro bk wk H2; exact ⟨[_], ⟨_, rfl, rfl⟩, H2⟩) | fail) ?_ | refine RGm.mu rfl (by intro vs w TT hP H; simp only [List.cons_append, List.nil_append] at H; first | (refine ost_HE (A := tkm b7 b8 b1 T a3 c3) (f := 93) (vs := [pt b7, pt b8]) H (ent_v rfl rfl rfl) ixQ (fun HO => hC _ HO) ?_; rintro vk wk hfk2 Lk ⟨rfl, rfl, a8, c8, hr8, rfl⟩ hle2 H2; simp only [List.cons_append, List.nil_append, List.eraseIdx_cons_zero, List.eraseIdx_cons_succ] at H2; exact ⟨_, ⟨rfl, a8, c8, hr8, rfl⟩, H2⟩) | (obtain ⟨L9, e9, -⟩ := hP 3 _ (by kernel_rfl) rfl rfl; have e8 : vs (0 + 1 + 1 + 1) = _ := e9; rw [e8]; refine ost_buildR (rows := [[Value.int .u32 ((UInt32.ofNat (tkN T)).toNat : Int)]]) H rfl (by decide) rfl (by rfl) (evP1 vxQ) (.cons rfl .nil) rfl (by simp) ?_; intro bk wk H2; exact ⟨[_], ⟨_, rfl, rfl⟩, H2⟩) | fail) ?_)
          have hLr : (segsF (t0F f) (k + 1)).map cKid = LS.map cKid ++ [[Value.int .u32 ((UInt32.ofNat (tkN T)).toNat : Int)]] := by rw [hL1, List.map_append]; rfl
          rw [mnL_set18, ← hLr, ← hT1] at H
          rw [← hT1] at hr2
          exact ⟨mF f - (k + 1), by omega, k + 1, _, _, a2, c2, rfl, by omega, by (repeat' (first | exact Agree.refl _ _ | exact Agree.havoc | refine Agree.upd rfl ?_ | refine Agree.hav2 rfl ?_)), rfl, hr2, H.picks [0, 3, 1, 2] rfl (by decide)⟩
        · obtain rfl : k = mF f := by omega
          have hEn : endF f = tmS (tmL (t0F f) (2 + mF f)) := by unfold endF; rw [show 3 + mF f = 2 + mF f + 1 by omega]; rfl
          rw [hEn] at hokd
          generalize tmL (t0F f) (2 + mF f) = T at H hr3 hokd hman
          generalize segsF (t0F f) (mF f) = LS at H hLl lz1 q18 hman
          have hC := fun w HO => man_num b7 b8 b1 T a3 c3 hfk w HO hr3
          obtain ⟨ak9, ck9, h9, e9, hle9, hS9, H⟩ := H.freezeR (rows_len1 LS)
          cases e9
          replace hC := fun w HO => man_num b7 b8 b1 T a3 c3 h9 w HO (hr3.mono hle9)
          repeat' (first | ((first | refine WL.p rfl ?_ | refine WL.u ?_ | refine WL.g rfl rfl ?_ | refine WL.gu rfl ?_); first | (refine opk 1 rfl ?_; (refine ost_HE (A := tkm b7 b8 b1 T a3 c3) (f := 93) (vs := [pt b7, pt b8]) H (ent_v rfl rfl rfl) (by (exact ixQ)) (fun HO => hC _ HO) ?_; clear H; rintro vk wk hfk Lk ⟨rfl, rfl, a6, c6, hr6, rfl⟩ hle H; simp only [List.cons_append, List.nil_append, List.eraseIdx_cons_zero, List.eraseIdx_cons_succ] at H)) | refine pvQ ?_ | (refine opk 3 rfl ?_; (refine ost_cmp rfl rfl rfl rfl (fun hc => ?_) (fun hc => ?_) <;> (simp only [cmpP] at hc; try exact prIQ))) | (refine opk 4 rfl ?_; (refine ost_cmp rfl rfl rfl rfl (fun hc => ?_) (fun hc => ?_) <;> (simp only [cmpP] at hc; try exact prIQ))) | (refine opk 8 rfl ?_; first | (refine ost_store1 H rfl rfl vlQ gvQ ixQ (by first | decide | (simp; omega) | (simp; done) | omega) ?_; clear H; intro wk H; simp only [List.set_cons_zero, List.set_cons_succ, Nat.reduceAdd] at H) | (refine ost_storeW H rfl rfl rfl rfl lQ ixQ lQ okQ ?_; clear H; intro wk H; simp only [List.set_cons_zero, List.set_cons_succ, Nat.reduceAdd] at H)) | (refine opk 9 rfl ?_; first | (refine ost_allocA H rfl ?_; clear H; intro bk wk H) | (refine ost_alloc1 H rfl rfl ?_; clear H; intro bk wk H) | (refine ost_build1 H rfl rfl rfl evQ lsQ rfl ?_; clear H; intro bk wk H))) | refine Wc.seq ?_ | refine then_n ?_ | refine WL.nil ?_ | refine Wc.region ?_ | refine Wc.block ?_ | refine then_r ?_ | refine then_e ?_ | refine inb_e rfl ?_ | refine inb_o rfl ?_ | refine inb_n ?_ | refine inb_r ?_ | refine Wc.skip ?_ | refine Wc.exit ?_ | refine Wc.ret ?_ | refine Wc.cond_true rfl ?_ | refine Wc.cond_false rfl ?_ | (refine Wc.drawn (id := 17) 5 (by kernel_rfl) ?_) | refine WL.skp rfl rfl ?_ | refine WL.sku rfl ?_ | (refine rgs_nil ?_; intro vs wk hE; replace H := H.ext hE; clear hE) | refine RGs.skp (fun _ => rfl) rfl ?_ | (refine RGs.bq (fun _ => rfl) rfl (by intro vs w hE hP; have H := H.ext hE; first | exact dbQ | fail) (fun hc => ?_) (fun hc => ?_) <;> ((try simp only [cmpP, decide_eq_true_eq, decide_eq_false_iff_not, dcd_iff, dcd_no] at hc); try exact prDQ)) | refine RGs.pq (fun _ => rfl) rfl (by intro vs w hE hP; have H := H.ext hE; first | exact dvQ | fail) ?_)
          rw [mnL_set19] at H
          generalize UInt32.ofNat (tkN T) = next at H hman
          simp only [List.length_map] at H
          rw [hman] at hY hokd
          have hMn : MnR hfk ⟨UInt64.ofNat (verF f), D.1, base, LS, next⟩ ⟨ak, ck⟩ := hS9
          have lz1 := lz base LS.length next ak ck
          have hRt := man_Right ⟨UInt64.ofNat (verF f), D.1, base, LS, next⟩ ⟨ak, ck⟩ hfk
          generalize tmS T = U at H hokd hr6
          obtain ⟨ue, uxs, ubad⟩ := U
          dsimp only at hokd H hr6
          replace H := H.split.split
          cases ubad with
          | true =>
            rw [hZ fun h => by have := (hokd.1 h).2.1; simp at this]
            repeat' (first | ((first | refine WL.p rfl ?_ | refine WL.u ?_ | refine WL.g rfl rfl ?_ | refine WL.gu rfl ?_); first | refine pvQ ?_ | (refine opk 3 rfl ?_; (refine ost_cmp rfl rfl rfl rfl (fun hc => ?_) (fun hc => ?_) <;> (simp only [cmpP] at hc; try exact prIQ))) | (refine opk 4 rfl ?_; (refine ost_cmp rfl rfl rfl rfl (fun hc => ?_) (fun hc => ?_) <;> (simp only [cmpP] at hc; try exact prIQ))) | (refine opk 8 rfl ?_; first | (refine ost_store1 H rfl rfl vlQ gvQ ixQ (by first | decide | (simp; omega) | (simp; done) | omega) ?_; clear H; intro wk H; simp only [List.set_cons_zero, List.set_cons_succ, Nat.reduceAdd] at H) | (refine ost_storeW H rfl rfl rfl rfl lQ ixQ lQ okQ ?_; clear H; intro wk H; simp only [List.set_cons_zero, List.set_cons_succ, Nat.reduceAdd] at H)) | (refine opk 9 rfl ?_; first | (refine ost_allocA H rfl ?_; clear H; intro bk wk H) | (refine ost_alloc1 H rfl rfl ?_; clear H; intro bk wk H) | (refine ost_build1 H rfl rfl rfl evQ lsQ rfl ?_; clear H; intro bk wk H))) | refine Wc.seq ?_ | refine then_n ?_ | refine WL.nil ?_ | refine Wc.region ?_ | refine Wc.block ?_ | refine then_r ?_ | refine then_e ?_ | refine inb_e rfl ?_ | refine inb_o rfl ?_ | refine inb_n ?_ | refine inb_r ?_ | refine Wc.skip ?_ | refine Wc.exit ?_ | refine Wc.ret ?_ | refine Wc.cond_true rfl ?_ | refine Wc.cond_false rfl ?_ | (refine Wc.drawn (id := 17) 5 (by kernel_rfl) ?_) | refine WL.skp rfl rfl ?_ | refine WL.sku rfl ?_ | (refine rgs_nil ?_; intro vs wk hE; replace H := H.ext hE; clear hE) | refine RGs.skp (fun _ => rfl) rfl ?_ | (refine RGs.bq (fun _ => rfl) rfl (by intro vs w hE hP; have H := H.ext hE; first | exact dbQ | fail) (fun hc => ?_) (fun hc => ?_) <;> ((try simp only [cmpP, decide_eq_true_eq, decide_eq_false_iff_not, dcd_iff, dcd_no] at hc); try exact prDQ)) | refine RGs.pq (fun _ => rfl) rfl (by intro vs w hE hP; have H := H.ext hE; first | exact dvQ | fail) ?_)
            exact fn_ret2 (v2 := .int _ _) rfl (rv_cellA rfl rfl H.bI lQ) rfl ⟨_, _, H.pick0, zeroMA, rfl, rfl, zeroM_R _⟩
          | false =>
            cases hR : rightM ⟨UInt64.ofNat (verF f), D.1, base, LS, next⟩ with
            | false =>
              rw [hZ fun h => by have := (hokd.1 h).2.2.2.2; rw [hR] at this; simp at this]
              rw [hR] at hRt
              repeat' (first | ((first | refine WL.p rfl ?_ | refine WL.u ?_ | refine WL.g rfl rfl ?_ | refine WL.gu rfl ?_); first | (refine opk 1 rfl ?_; first | (refine ost_VB H rfl (rd_Done _ _ _ _ _ _ H.bI) rfl ?_ ?_ <;> (intro hc; (try (first | exact (bcon hc ‹_›).elim | exact (bcon ‹_› hc).elim)); try (clear H; intro wk H))) | (refine ost_V H rfl (hRt _ H.sat hMn) rfl ?_; clear H; intro wk H)) | refine pvQ ?_ | (refine opk 3 rfl ?_; (refine ost_cmp rfl rfl rfl rfl (fun hc => ?_) (fun hc => ?_) <;> (simp only [cmpP] at hc; try exact prIQ))) | (refine opk 4 rfl ?_; (refine ost_cmp rfl rfl rfl rfl (fun hc => ?_) (fun hc => ?_) <;> (simp only [cmpP] at hc; try exact prIQ))) | (refine opk 8 rfl ?_; first | (refine ost_store1 H rfl rfl vlQ gvQ ixQ (by first | decide | (simp; omega) | (simp; done) | omega) ?_; clear H; intro wk H; simp only [List.set_cons_zero, List.set_cons_succ, Nat.reduceAdd] at H) | (refine ost_storeW H rfl rfl rfl rfl lQ ixQ lQ okQ ?_; clear H; intro wk H; simp only [List.set_cons_zero, List.set_cons_succ, Nat.reduceAdd] at H)) | (refine opk 9 rfl ?_; first | (refine ost_allocA H rfl ?_; clear H; intro bk wk H) | (refine ost_alloc1 H rfl rfl ?_; clear H; intro bk wk H) | (refine ost_build1 H rfl rfl rfl evQ lsQ rfl ?_; clear H; intro bk wk H))) | refine Wc.seq ?_ | refine then_n ?_ | refine WL.nil ?_ | refine Wc.region ?_ | refine Wc.block ?_ | refine then_r ?_ | refine then_e ?_ | refine inb_e rfl ?_ | refine inb_o rfl ?_ | refine inb_n ?_ | refine inb_r ?_ | refine Wc.skip ?_ | refine Wc.exit ?_ | refine Wc.ret ?_ | refine Wc.cond_true rfl ?_ | refine Wc.cond_false rfl ?_ | (refine Wc.drawn (id := 17) 5 (by kernel_rfl) ?_) | refine WL.skp rfl rfl ?_ | refine WL.sku rfl ?_ | (refine rgs_nil ?_; intro vs wk hE; replace H := H.ext hE; clear hE) | refine RGs.skp (fun _ => rfl) rfl ?_ | (refine RGs.bq (fun _ => rfl) rfl (by intro vs w hE hP; have H := H.ext hE; first | exact dbQ | fail) (fun hc => ?_) (fun hc => ?_) <;> ((try simp only [cmpP, decide_eq_true_eq, decide_eq_false_iff_not, dcd_iff, dcd_no] at hc); try exact prDQ)) | refine RGs.pq (fun _ => rfl) rfl (by intro vs w hE hP; have H := H.ext hE; first | exact dvQ | fail) ?_)
              all_goals exact fn_ret2 (v2 := .int _ _) rfl (rv_cellA rfl rfl H.bI lQ) rfl ⟨_, _, H.pick0, zeroMA, rfl, rfl, zeroM_R _⟩
            | true =>
              rw [hR] at hRt
              repeat' (first | ((first | refine WL.p rfl ?_ | refine WL.u ?_ | refine WL.g rfl rfl ?_ | refine WL.gu rfl ?_); first | (refine opk 1 rfl ?_; first | (refine ost_VB H rfl (rd_Done _ _ _ _ _ _ H.bI) rfl ?_ ?_ <;> (intro hc; (try (first | exact (bcon hc ‹_›).elim | exact (bcon ‹_› hc).elim)); try (clear H; intro wk H))) | (refine ost_V H rfl (hRt _ H.sat hMn) rfl ?_; clear H; intro wk H)) | refine pvQ ?_ | (refine opk 3 rfl ?_; (refine ost_cmp rfl rfl rfl rfl (fun hc => ?_) (fun hc => ?_) <;> (simp only [cmpP] at hc; try exact prIQ))) | (refine opk 4 rfl ?_; (refine ost_cmp rfl rfl rfl rfl (fun hc => ?_) (fun hc => ?_) <;> (simp only [cmpP] at hc; try exact prIQ))) | (refine opk 8 rfl ?_; first | (refine ost_store1 H rfl rfl vlQ gvQ ixQ (by first | decide | (simp; omega) | (simp; done) | omega) ?_; clear H; intro wk H; simp only [List.set_cons_zero, List.set_cons_succ, Nat.reduceAdd] at H) | (refine ost_storeW H rfl rfl rfl rfl lQ ixQ lQ okQ ?_; clear H; intro wk H; simp only [List.set_cons_zero, List.set_cons_succ, Nat.reduceAdd] at H)) | (refine opk 9 rfl ?_; first | (refine ost_allocA H rfl ?_; clear H; intro bk wk H) | (refine ost_alloc1 H rfl rfl ?_; clear H; intro bk wk H) | (refine ost_build1 H rfl rfl rfl evQ lsQ rfl ?_; clear H; intro bk wk H))) | refine Wc.seq ?_ | refine then_n ?_ | refine WL.nil ?_ | refine Wc.region ?_ | refine Wc.block ?_ | refine then_r ?_ | refine then_e ?_ | refine inb_e rfl ?_ | refine inb_o rfl ?_ | refine inb_n ?_ | refine inb_r ?_ | refine Wc.skip ?_ | refine Wc.exit ?_ | refine Wc.ret ?_ | refine Wc.cond_true rfl ?_ | refine Wc.cond_false rfl ?_ | (refine Wc.drawn (id := 17) 5 (by kernel_rfl) ?_) | refine WL.skp rfl rfl ?_ | refine WL.sku rfl ?_ | (refine rgs_nil ?_; intro vs wk hE; replace H := H.ext hE; clear hE) | refine RGs.skp (fun _ => rfl) rfl ?_ | (refine RGs.bq (fun _ => rfl) rfl (by intro vs w hE hP; have H := H.ext hE; first | exact dbQ | fail) (fun hc => ?_) (fun hc => ?_) <;> ((try simp only [cmpP, decide_eq_true_eq, decide_eq_false_iff_not, dcd_iff, dcd_no] at hc); try exact prDQ)) | refine RGs.pq (fun _ => rfl) rfl (by intro vs w hE hP; have H := H.ext hE; first | exact dvQ | fail) ?_)
              · have hd : ue = 0 ∧ uxs = [] := by
                  simp only [Bool.and_eq_true, decide_eq_true_eq, List.length_eq_zero_iff] at hc; exact hc
                rw [hY (hokd.2 ⟨hv, rfl, hd.1, hd.2, hR⟩)]
                exact fn_ret2 (v2 := .int _ _) rfl (rv_cellA rfl rfl H.bI lQ) rfl ⟨_, _, H.pick0, ⟨ak, ck⟩, rfl, rfl, hMn⟩
              · have hd : ¬ (ue = 0 ∧ uxs = []) := fun h => by
                  rw [h.1, h.2] at hc; simp at hc
                rw [hZ fun h => hd ⟨(hokd.1 h).2.2.1, (hokd.1 h).2.2.2.1⟩]
                exact fn_ret2 (v2 := .int _ _) rfl (rv_cellA rfl rfl H.bI lQ) rfl ⟨_, _, H.pick0, zeroMA, rfl, rfl, zeroM_R _⟩
      · rw [hZ fun h => hv (hok3 h)]
        repeat' (first | ((first | refine WL.p rfl ?_ | refine WL.u ?_ | refine WL.g rfl rfl ?_ | refine WL.gu rfl ?_); first | (refine opk 1 rfl ?_; (refine ost_V H rfl (hD _ H.sat hr8 hfl8) rfl ?_; clear H; intro wk H)) | (refine opk 8 rfl ?_; (refine ost_storeA (i := 1) (vs := cV D.1) H rfl rfl rfl (cV_one _) (cV_len _) (by rfl) (by omega) ?_; clear H; intro wk H)) | refine pvQ ?_ | (refine opk 3 rfl ?_; (refine ost_cmp rfl rfl rfl rfl (fun hc => ?_) (fun hc => ?_) <;> (simp only [cmpP] at hc; try exact prIQ))) | (refine opk 4 rfl ?_; (refine ost_cmp rfl rfl rfl rfl (fun hc => ?_) (fun hc => ?_) <;> (simp only [cmpP] at hc; try exact prIQ))) | (refine opk 8 rfl ?_; first | (refine ost_store1 H rfl rfl vlQ gvQ ixQ (by first | decide | (simp; omega) | (simp; done) | omega) ?_; clear H; intro wk H; simp only [List.set_cons_zero, List.set_cons_succ, Nat.reduceAdd] at H) | (refine ost_storeW H rfl rfl rfl rfl lQ ixQ lQ okQ ?_; clear H; intro wk H; simp only [List.set_cons_zero, List.set_cons_succ, Nat.reduceAdd] at H)) | (refine opk 9 rfl ?_; first | (refine ost_allocA H rfl ?_; clear H; intro bk wk H) | (refine ost_alloc1 H rfl rfl ?_; clear H; intro bk wk H) | (refine ost_build1 H rfl rfl rfl evQ lsQ rfl ?_; clear H; intro bk wk H))) | refine Wc.seq ?_ | refine then_n ?_ | refine WL.nil ?_ | refine Wc.region ?_ | refine Wc.block ?_ | refine then_r ?_ | refine then_e ?_ | refine inb_e rfl ?_ | refine inb_o rfl ?_ | refine inb_n ?_ | refine inb_r ?_ | refine Wc.skip ?_ | refine Wc.exit ?_ | refine Wc.ret ?_ | refine Wc.cond_true rfl ?_ | refine Wc.cond_false rfl ?_ | (refine Wc.drawn (id := 17) 5 (by kernel_rfl) ?_) | refine WL.skp rfl rfl ?_ | refine WL.sku rfl ?_ | (refine rgs_nil ?_; intro vs wk hE; replace H := H.ext hE; clear hE) | refine RGs.skp (fun _ => rfl) rfl ?_ | (refine RGs.bq (fun _ => rfl) rfl (by intro vs w hE hP; have H := H.ext hE; first | exact dbQ | fail) (fun hc => ?_) (fun hc => ?_) <;> ((try simp only [cmpP, decide_eq_true_eq, decide_eq_false_iff_not, dcd_iff, dcd_no] at hc); try exact prDQ)) | refine RGs.pq (fun _ => rfl) rfl (by intro vs w hE hP; have H := H.ext hE; first | exact dvQ | fail) ?_)
        all_goals first | (exfalso; omega) | exact fn_ret2 (v2 := .int _ _) rfl (rv_cellA rfl rfl H.bI lQ) rfl ⟨_, _, H.pick0, zeroMA, rfl, rfl, zeroM_R _⟩
    · rw [decM_eq (hN fun h => hk h.2)]
      repeat' (first | ((first | refine WL.p rfl ?_ | refine WL.u ?_ | refine WL.g rfl rfl ?_ | refine WL.gu rfl ?_); first | (refine opk 1 rfl ?_; (refine ost_Sk H rfl (hFF _ H.sat hT hr (by omega)) rfl ?_; clear H; rintro vk wk hfk Lk ⟨a1, c1, rfl, rfl, rfl⟩ hle H; simp only [List.cons_append, List.nil_append] at H)) | refine pvQ ?_ | (refine opk 3 rfl ?_; (refine ost_cmp rfl rfl rfl rfl (fun hc => ?_) (fun hc => ?_) <;> (simp only [cmpP] at hc; try exact prIQ))) | (refine opk 4 rfl ?_; (refine ost_cmp rfl rfl rfl rfl (fun hc => ?_) (fun hc => ?_) <;> (simp only [cmpP] at hc; try exact prIQ))) | (refine opk 8 rfl ?_; first | (refine ost_store1 H rfl rfl vlQ gvQ ixQ (by first | decide | (simp; omega) | (simp; done) | omega) ?_; clear H; intro wk H; simp only [List.set_cons_zero, List.set_cons_succ, Nat.reduceAdd] at H) | (refine ost_storeW H rfl rfl rfl rfl lQ ixQ lQ okQ ?_; clear H; intro wk H; simp only [List.set_cons_zero, List.set_cons_succ, Nat.reduceAdd] at H)) | (refine opk 9 rfl ?_; first | (refine ost_allocA H rfl ?_; clear H; intro bk wk H) | (refine ost_alloc1 H rfl rfl ?_; clear H; intro bk wk H) | (refine ost_build1 H rfl rfl rfl evQ lsQ rfl ?_; clear H; intro bk wk H))) | refine Wc.seq ?_ | refine then_n ?_ | refine WL.nil ?_ | refine Wc.region ?_ | refine Wc.block ?_ | refine then_r ?_ | refine then_e ?_ | refine inb_e rfl ?_ | refine inb_o rfl ?_ | refine inb_n ?_ | refine inb_r ?_ | refine Wc.skip ?_ | refine Wc.exit ?_ | refine Wc.ret ?_ | refine Wc.cond_true rfl ?_ | refine Wc.cond_false rfl ?_ | (refine Wc.drawn (id := 17) 5 (by kernel_rfl) ?_) | refine WL.skp rfl rfl ?_ | refine WL.sku rfl ?_ | (refine rgs_nil ?_; intro vs wk hE; replace H := H.ext hE; clear hE) | refine RGs.skp (fun _ => rfl) rfl ?_ | (refine RGs.bq (fun _ => rfl) rfl (by intro vs w hE hP; have H := H.ext hE; first | exact dbQ | fail) (fun hc => ?_) (fun hc => ?_) <;> ((try simp only [cmpP, decide_eq_true_eq, decide_eq_false_iff_not, dcd_iff, dcd_no] at hc); try exact prDQ)) | refine RGs.pq (fun _ => rfl) rfl (by intro vs w hE hP; have H := H.ext hE; first | exact dvQ | fail) ?_)
      exact fn_ret2 (v2 := .int _ _) rfl (rv_cellA rfl rfl H.bI lQ) rfl ⟨_, _, H.pick0, zeroMA, rfl, rfl, zeroM_R _⟩
  · rw [decM_eq (hN fun h => he (by have := h.1; omega))]
    repeat' (first | ((first | refine WL.p rfl ?_ | refine WL.u ?_ | refine WL.g rfl rfl ?_ | refine WL.gu rfl ?_); first | (refine opk 1 rfl ?_; (refine ost_Sk H rfl (hFF _ H.sat hT hr (by omega)) rfl ?_; clear H; rintro vk wk hfk Lk ⟨a1, c1, rfl, rfl, rfl⟩ hle H; simp only [List.cons_append, List.nil_append] at H)) | refine pvQ ?_ | (refine opk 3 rfl ?_; (refine ost_cmp rfl rfl rfl rfl (fun hc => ?_) (fun hc => ?_) <;> (simp only [cmpP] at hc; try exact prIQ))) | (refine opk 4 rfl ?_; (refine ost_cmp rfl rfl rfl rfl (fun hc => ?_) (fun hc => ?_) <;> (simp only [cmpP] at hc; try exact prIQ))) | (refine opk 8 rfl ?_; first | (refine ost_store1 H rfl rfl vlQ gvQ ixQ (by first | decide | (simp; omega) | (simp; done) | omega) ?_; clear H; intro wk H; simp only [List.set_cons_zero, List.set_cons_succ, Nat.reduceAdd] at H) | (refine ost_storeW H rfl rfl rfl rfl lQ ixQ lQ okQ ?_; clear H; intro wk H; simp only [List.set_cons_zero, List.set_cons_succ, Nat.reduceAdd] at H)) | (refine opk 9 rfl ?_; first | (refine ost_allocA H rfl ?_; clear H; intro bk wk H) | (refine ost_alloc1 H rfl rfl ?_; clear H; intro bk wk H) | (refine ost_build1 H rfl rfl rfl evQ lsQ rfl ?_; clear H; intro bk wk H))) | refine Wc.seq ?_ | refine then_n ?_ | refine WL.nil ?_ | refine Wc.region ?_ | refine Wc.block ?_ | refine then_r ?_ | refine then_e ?_ | refine inb_e rfl ?_ | refine inb_o rfl ?_ | refine inb_n ?_ | refine inb_r ?_ | refine Wc.skip ?_ | refine Wc.exit ?_ | refine Wc.ret ?_ | refine Wc.cond_true rfl ?_ | refine Wc.cond_false rfl ?_ | (refine Wc.drawn (id := 17) 5 (by kernel_rfl) ?_) | refine WL.skp rfl rfl ?_ | refine WL.sku rfl ?_ | (refine rgs_nil ?_; intro vs wk hE; replace H := H.ext hE; clear hE) | refine RGs.skp (fun _ => rfl) rfl ?_ | (refine RGs.bq (fun _ => rfl) rfl (by intro vs w hE hP; have H := H.ext hE; first | exact dbQ | fail) (fun hc => ?_) (fun hc => ?_) <;> ((try simp only [cmpP, decide_eq_true_eq, decide_eq_false_iff_not, dcd_iff, dcd_no] at hc); try exact prDQ)) | refine RGs.pq (fun _ => rfl) rfl (by intro vs w hE hP; have H := H.ext hE; first | exact dvQ | fail) ?_)
    exact fn_ret2 (v2 := .int _ _) rfl (rv_cellA rfl rfl H.bI lQ) rfl ⟨_, _, H.pick0, zeroMA, rfl, rfl, zeroM_R _⟩
end Go.Tg

set_option linter.unusedVariables false
set_option linter.unusedSimpArgs false
set_option maxRecDepth 100000
set_option maxHeartbeats 4000000
namespace Go.Tg
open Go Go.Proofs
theorem orph_fn (b5 : Nat) (h : FH) (nd : List (List UInt8)) (an : Option Addr) (cn n : Nat) (T : TypeId) (fr : Nat × Nat) (hn : n = nd.length) (hb : h b5 = some (.cells [Value.slice an n cn].toArray T fr)) (hN : Sl h 1 an cn (nd.map cStr)) (x : List UInt8) (w : World) (hs : Sat h w) :
    SpecV Tryd.prog 105 #[.string (bstr x), pt b5] w (.bool (decide (x ∈ nd))) := by
  have H := St.start hs
  unfold SpecV
  refine calls_of Tryd.func105 rfl Tryd.ntmps105 (by simp) ?_
  repeat' (first | ((first | refine WL.p rfl ?_ | refine WL.u ?_); first | (refine opk 1 rfl ?_; (refine ost_V H rfl (contains_str _ an cn n nd x _ H.sat hn hN) rfl ?_; clear H; intro wk H)) | refine pvQ ?_) | refine Wc.seq ?_ | refine then_n ?_ | refine WL.nil ?_ | refine Wc.region ?_ | refine Wc.block ?_ | refine then_r ?_ | refine then_e ?_ | refine inb_e rfl ?_ | refine inb_o rfl ?_ | refine inb_n ?_ | refine inb_r ?_ | refine Wc.skip ?_ | refine Wc.exit ?_ | refine Wc.ret ?_ | refine Wc.cond_true rfl ?_ | refine Wc.cond_false rfl ?_)
  exact fn_ret1 (v := .bool _) rfl rfl ⟨rfl, H.fr⟩
def manW : List UInt8 := [109, 97, 110, 105, 102, 101, 115, 116]
def needM (m : ManT) : List (List UInt8) := ([manW] ++ m.segs.map fun s => segW s.toNat) ++ (if m.base.toNat = 0 then [] else [baseW m.base.toNat])
def orphM (m : ManT) (l : List (List UInt8)) : List (List UInt8) := l.filter fun x => !decide (x ∈ needM m)
def ndK (segs : List UInt32) (k : Nat) : List (List UInt8) := [manW] ++ (segs.take k).map fun s => segW s.toNat
theorem ndK_succ {segs : List UInt32} {k : Nat} (h : k < segs.length) : ndK segs (k + 1) = ndK segs k ++ [segW segs[k].toNat] := by
  unfold ndK
  rw [List.take_add_one, List.getElem?_eq_getElem h, List.map_append, List.append_assoc]; rfl
theorem ndK_len (segs : List UInt32) (k : Nat) : (ndK segs k).length ≤ k + 1 := by
  unfold ndK
  rw [List.length_append, List.length_map, List.length_take, List.length_singleton]; omega
theorem man_Orphans (m : ManT) (A : MAd) (h0 : FH) (w : World) (hs : Sat h0 w) (hT : Pow h0) (hP : MnR h0 m A) (hsl : m.segs.length ≤ 300) (an : Option Addr) (cn : Nat) (l : List (List UInt8)) (hN : Sl h0 1 an cn (l.map cStr)) (hl : l.length ≤ 1000) :
    Spec Tryd.prog 55 #[.agg (mnV m A).toArray, .slice an l.length cn] w [] h0 (fun v h' L' => ∃ a' c', v = .slice a' (orphM m l).length c' ∧ L' = [ownS v (orphM m l)]) := by
  have H := St.start hs
  obtain ⟨ver, flr, base, segs, next⟩ := m
  obtain ⟨a, c⟩ := A
  rw [show mnV ⟨ver, flr, base, segs, next⟩ ⟨a, c⟩ = mnL ver flr base segs.length next a c from rfl]
  have lm := mnL_len ver flr base segs.length next a c
  have q17 := mnL_17 ver flr base segs.length next a c
  have q18 := mnL_18 ver flr base segs.length next a c
  have lf := cV_len flr
  have u1 := base.toNat_lt
  have hP : Sl h0 1 a c (segs.map cKid) := hP
  have hsl : segs.length ≤ 300 := hsl
  have qc := hP.lenM
  unfold Spec
  refine calls_of Tryd.func55 rfl Tryd.ntmps55 (by simp) ?_
  repeat' (first | ((first | refine WL.p rfl ?_ | refine WL.u ?_); first | (refine opk 9 rfl ?_; (refine ost_buildR (rows := [[Value.string (bstr manW)]]) H rfl (by decide) rfl (by rfl) (evP1 vxQ) (.cons rfl .nil) rfl (fun r hr => by rw [List.mem_singleton.1 hr]; rfl) ?_; clear H; intro bk wk H)) | refine pvQ ?_ | (refine opk 3 rfl ?_; (refine ost_cmp rfl rfl rfl rfl (fun hc => ?_) (fun hc => ?_) <;> (simp only [cmpP] at hc; try exact prIQ))) | (refine opk 4 rfl ?_; (refine ost_cmp rfl rfl rfl rfl (fun hc => ?_) (fun hc => ?_) <;> (simp only [cmpP] at hc; try exact prIQ))) | (refine opk 8 rfl ?_; (refine ost_store1 H rfl rfl vlQ gvQ ixQ (by first | decide | (simp; omega) | (simp; done) | omega) ?_; clear H; intro wk H; simp only [List.set_cons_zero, List.set_cons_succ, Nat.reduceAdd] at H)) | (refine opk 9 rfl ?_; first | (refine ost_boxq H rfl ?_; clear H; intro bk wk H) | (refine ost_alloc1 H rfl rfl ?_; clear H; intro bk wk H) | (refine ost_build1 H rfl rfl rfl evQ lsQ rfl ?_; clear H; intro bk wk H))) | refine Wc.seq ?_ | refine then_n ?_ | refine WL.nil ?_ | refine Wc.region ?_ | refine Wc.block ?_ | refine then_r ?_ | refine then_e ?_ | refine inb_e rfl ?_ | refine inb_o rfl ?_ | refine inb_n ?_ | refine inb_r ?_ | refine Wc.skip ?_ | refine Wc.exit ?_ | refine Wc.ret ?_ | refine Wc.cond_true rfl ?_ | refine Wc.cond_false rfl ?_ | (refine Wc.drawn (id := 5) 4 (by kernel_rfl) ?_) | (refine Wc.drawn (id := 8) 5 (by kernel_rfl) ?_) | (refine rgs_nil ?_; intro vs wk hE; replace H := H.ext hE; clear hE) | (refine RGs.bq (fun _ => rfl) rfl (by intro vs w hE hP; have H := H.ext hE; first | exact dbQ | fail) (fun hc => ?_) (fun hc => ?_) <;> ((try simp only [cmpP, decide_eq_true_eq, decide_eq_false_iff_not, dcd_iff, dcd_no] at hc); try exact prDQ)) | refine RGs.pq (fun _ => rfl) rfl (by intro vs w hE hP; have H := H.ext hE; first | exact dvQ | fail) ?_)
  obtain ⟨b5, eb5⟩ := H.nameB idx0
  subst eb5
  obtain ⟨bm, ebm⟩ := H.nameB idx2
  subst ebm
  replace H : St w [] h0 h0 [ownR (.slice (some ⟨bk, 0, none⟩) ((ndK segs 0).map cStr).length 1) 9 1 ((ndK segs 0).map cStr), .blk b5 (.cells [Value.slice (some ⟨bk, 0, none⟩) ((ndK segs 0).map cStr).length 1].toArray 107 (0, 0)), .blk bm (.cells (mnL ver flr base segs.length next a c).toArray 95 (0, 0))] wk := H.front 1 rfl
  refine Wc.loopE (fun s0 m s w' => ∃ (k : Nat) (ak : Option Addr) (ck : Nat), m = segs.length - k ∧ k ≤ segs.length ∧ Agree [7, 12, 13, 14, 15, 16, 17, 18, 19, 20, 21] s s0 ∧ s 12 = .int .i64 k ∧
    St w [] h0 h0 [ownR (.slice ak ((ndK segs k).map cStr).length ck) 9 1 ((ndK segs k).map cStr), .blk b5 (.cells [Value.slice ak ((ndK segs k).map cStr).length ck].toArray 107 (0, 0)), .blk bm (.cells (mnL ver flr base segs.length next a c).toArray 95 (0, 0))] w') segs.length ⟨0, _, _, rfl, by omega, Agree.refl _ _, rfl, H⟩ ?_
  clear H
  rintro m s w' ⟨k, ak, ck, rfl, hk, hA9, e1, H⟩
  obtain ⟨j, rfl⟩ := hA9.env1 e1
  clear hA9 e1
  have hnk := ndK_len segs k
  have hnl : ((ndK segs k).map cStr).length = (ndK segs k).length := List.length_map ..
  by_cases hlt : k < segs.length
  · obtain ⟨b', off, L9, T9, fr9, e1, eb, eg⟩ := hP.getM (by decide) (Nat.lt_of_le_of_lt (Nat.zero_le _) hlt)
    subst e1
    have g1 : L9[off + (k : Int).toNat * 1]? = some (.int .u32 segs[k].toNat) := row_cell (eg (k : Int).toNat k hlt (by omega)) (q := 0) (by simp [cKid])
    have hS := ndK_succ hlt
    generalize ndK segs k = nd at H hnk hnl hS
    have hSN := man_SegName segs[k] h0
    repeat' (first | ((first | refine WL.p rfl ?_ | refine WL.u ?_); first | (refine opk 1 rfl ?_; (refine ost_appR (rows := nd.map cStr) (row := [Value.string (bstr (segW segs[k].toNat))]) H rfl rfl rfl (by (exact ixQ)) (by (exact ixQ)) (by rfl) (by first | simp; done | exact Nat.succ_pos _) rfl (allOne_of rfl) rfl (by omega) ?_; clear H; intro aa ca wk H; simp only [List.set_cons_zero, List.set_cons_succ] at H)) | refine pvQ ?_ | (refine opk 3 rfl ?_; (refine ost_cmp rfl rfl rfl rfl (fun hc => ?_) (fun hc => ?_) <;> (simp only [cmpP] at hc; try exact prIQ))) | (refine opk 4 rfl ?_; (refine ost_cmp rfl rfl rfl rfl (fun hc => ?_) (fun hc => ?_) <;> (simp only [cmpP] at hc; try exact prIQ))) | (refine opk 8 rfl ?_; (refine ost_store1 H rfl rfl vlQ gvQ ixQ (by first | decide | (simp; omega) | (simp; done) | omega) ?_; clear H; intro wk H; simp only [List.set_cons_zero, List.set_cons_succ, Nat.reduceAdd] at H)) | (refine opk 9 rfl ?_; first | (refine ost_boxq H rfl ?_; clear H; intro bk wk H) | (refine ost_alloc1 H rfl rfl ?_; clear H; intro bk wk H) | (refine ost_build1 H rfl rfl rfl evQ lsQ rfl ?_; clear H; intro bk wk H))) | refine Wc.seq ?_ | refine then_n ?_ | refine WL.nil ?_ | refine Wc.region ?_ | refine Wc.block ?_ | refine then_r ?_ | refine then_e ?_ | refine inb_e rfl ?_ | refine inb_o rfl ?_ | refine inb_n ?_ | refine inb_r ?_ | refine Wc.skip ?_ | refine Wc.exit ?_ | refine Wc.ret ?_ | refine Wc.cond_true rfl ?_ | refine Wc.cond_false rfl ?_ | (refine Wc.drawn (id := 8) 5 (by kernel_rfl) ?_) | (refine rgs_nil ?_; intro vs wk hE; replace H := H.ext hE; clear hE) | (refine RGs.bq (fun _ => rfl) rfl (by intro vs w hE hP; have H := H.ext hE; first | exact dbQ | fail) (fun hc => ?_) (fun hc => ?_) <;> ((try simp only [cmpP, decide_eq_true_eq, decide_eq_false_iff_not, dcd_iff, dcd_no] at hc); try exact prDQ)) | refine RGs.pq (fun _ => rfl) rfl (by intro vs w hE hP; have H := H.ext hE; first | (refine opk 1 rfl ?_; (exact ost_V0d rfl (hSN _ H.sat hT) rfl)) | exact dvQ | fail) ?_ | (refine Wc.drawM (id := 5) 4 [(3, [], fun v L' => ∃ b, v = Value.slice (some ⟨b, 0, none⟩) 1 1 ∧ L' = [ownR (Value.slice (some ⟨b, 0, none⟩) 1 1) 9 1 [[Value.string (bstr (segW segs[k].toNat))]]])] [ownR _ _ _ _, .blk _ _, .blk _ _] [3] H (by kernel_rfl) rfl (by kernel_rfl) (perm_pick [0, 1, 2] 3 rfl (by decide) rfl) ?_) | (refine rgm_nil ?_; intro vs wk outs HM hR; obtain ⟨v3, ⟨b3, e3, o3⟩, h3⟩ := hR 3 _ rfl; have hv3 : vs (0 + 1 + 1 + 1) = _ := (h3 (by kernel_rfl)).trans e3; simp only [outsL, o3, List.cons_append, List.nil_append, List.append_nil] at HM; (try dsimp only); rw [hv3]; replace H := HM; clear HM hR) | (refine RGm.bq (fun _ => rfl) rfl (by intro vs w TT hP H; simp only [List.cons_append, List.nil_append] at H; first | exact dbQ | fail) (fun hc => ?_) (fun hc => ?_) <;> ((try simp only [cmpP, decide_eq_true_eq, decide_eq_false_iff_not, dcd_iff, dcd_no] at hc); try exact prDQ)) | refine RGm.pq (fun _ => rfl) rfl (by intro vs w TT hP H; simp only [List.cons_append, List.nil_append] at H; first | (refine opk 1 rfl ?_; (exact ost_V0d rfl (hSN _ H.sat hT) rfl)) | exact dvQ | fail) ?_ | refine RGm.mq (fun _ => rfl) rfl (by intro vs w TT hP H; simp only [List.cons_append, List.nil_append] at H; first | (refine ost_buildR (rows := [[Value.string (bstr (segW segs[k].toNat))]]) H rfl (by decide) rfl (by rfl) (evP1 rfl) (.cons rfl .nil) rfl (by simp) ?_; intro bk wk H2; exact ⟨[_], ⟨_, rfl, rfl⟩, H2⟩) | fail) ?_ | refine RGm.mu rfl (by intro vs w TT hP H; simp only [List.cons_append, List.nil_append] at H; first | (refine ost_buildR (rows := [[Value.string (bstr (segW segs[k].toNat))]]) H rfl (by decide) rfl (by rfl) (evP1 rfl) (.cons rfl .nil) rfl (by simp) ?_; intro bk wk H2; exact ⟨[_], ⟨_, rfl, rfl⟩, H2⟩) | fail) ?_)
    have hLr : (ndK segs (k + 1)).map cStr = nd.map cStr ++ [[Value.string (bstr (segW segs[k].toNat))]] := by rw [hS, List.map_append]; rfl
    rw [← hLr] at H
    exact ⟨segs.length - (k + 1), by omega, k + 1, _, _, rfl, by omega, by (repeat' (first | exact Agree.refl _ _ | exact Agree.havoc | refine Agree.upd rfl ?_ | refine Agree.hav2 rfl ?_)), rfl, H.picks [0, 1, 2] rfl (by decide)⟩
  · obtain rfl : k = segs.length := by omega
    have hk9 : ndK segs segs.length = [manW] ++ segs.map fun s => segW s.toNat := by unfold ndK; rw [List.take_length]
    by_cases hbz : base.toNat = 0
    · have hneed : needM ⟨ver, flr, base, segs, next⟩ = ndK segs segs.length := by unfold needM; rw [if_pos hbz, List.append_nil, hk9]
      generalize ndK segs segs.length = nd at H hnk hnl hneed
      repeat' (first | ((first | refine WL.p rfl ?_ | refine WL.u ?_); first | refine pvQ ?_ | (refine opk 3 rfl ?_; (refine ost_cmp rfl rfl rfl rfl (fun hc => ?_) (fun hc => ?_) <;> (simp only [cmpP] at hc; try exact prIQ))) | (refine opk 4 rfl ?_; (refine ost_cmp rfl rfl rfl rfl (fun hc => ?_) (fun hc => ?_) <;> (simp only [cmpP] at hc; try exact prIQ))) | (refine opk 8 rfl ?_; (refine ost_store1 H rfl rfl vlQ gvQ ixQ (by first | decide | (simp; omega) | (simp; done) | omega) ?_; clear H; intro wk H; simp only [List.set_cons_zero, List.set_cons_succ, Nat.reduceAdd] at H)) | (refine opk 9 rfl ?_; first | (refine ost_boxq H rfl ?_; clear H; intro bk wk H) | (refine ost_alloc1 H rfl rfl ?_; clear H; intro bk wk H) | (refine ost_build1 H rfl rfl rfl evQ lsQ rfl ?_; clear H; intro bk wk H))) | refine Wc.seq ?_ | refine then_n ?_ | refine WL.nil ?_ | refine Wc.region ?_ | refine Wc.block ?_ | refine then_r ?_ | refine then_e ?_ | refine inb_e rfl ?_ | refine inb_o rfl ?_ | refine inb_n ?_ | refine inb_r ?_ | refine Wc.skip ?_ | refine Wc.exit ?_ | refine Wc.ret ?_ | refine Wc.cond_true rfl ?_ | refine Wc.cond_false rfl ?_ | (refine Wc.drawn (id := 5) 4 (by kernel_rfl) ?_) | (refine Wc.drawn (id := 8) 5 (by kernel_rfl) ?_) | (refine rgs_nil ?_; intro vs wk hE; replace H := H.ext hE; clear hE) | (refine RGs.bq (fun _ => rfl) rfl (by intro vs w hE hP; have H := H.ext hE; first | exact dbQ | fail) (fun hc => ?_) (fun hc => ?_) <;> ((try simp only [cmpP, decide_eq_true_eq, decide_eq_false_iff_not, dcd_iff, dcd_no] at hc); try exact prDQ)) | refine RGs.pq (fun _ => rfl) rfl (by intro vs w hE hP; have H := H.ext hE; first | exact dvQ | fail) ?_)
      have hnd : orphM ⟨ver, flr, base, segs, next⟩ l = l.filter fun x => !decide (x ∈ nd) := by unfold orphM; rw [hneed]
      rw [hnd]
      obtain ⟨a8, c8, h8, e8, hle8, hN8, H⟩ := H.freezeR (rows_cStr nd)
      cases e8
      obtain ⟨h9, hle9, hb9, H⟩ := H.freezeB
      rw [List.length_map] at hb9
      have hfn := orph_fn b5 h9 nd _ _ nd.length _ _ rfl hb9 (hN8.mono hle9)
      have hN9 := hN.mono (hle8.trans hle9)
      have hll : (l.map cStr).length = l.length := List.length_map ..
      repeat' (first | ((first | refine WL.p rfl ?_ | refine WL.u ?_); first | (refine opk 1 rfl ?_; (refine ost_Sk H rfl (clone_str _ an cn _ l _ H.sat hll.symm hN9 (by omega)) rfl ?_; clear H; rintro vk wk hfk Lk ⟨a9, c9, rfl, e9, rfl⟩ hle H; simp only [List.cons_append, List.nil_append] at H)) | refine pvQ ?_ | (refine opk 3 rfl ?_; (refine ost_cmp rfl rfl rfl rfl (fun hc => ?_) (fun hc => ?_) <;> (simp only [cmpP] at hc; try exact prIQ))) | (refine opk 4 rfl ?_; (refine ost_cmp rfl rfl rfl rfl (fun hc => ?_) (fun hc => ?_) <;> (simp only [cmpP] at hc; try exact prIQ))) | (refine opk 8 rfl ?_; (refine ost_store1 H rfl rfl vlQ gvQ ixQ (by first | decide | (simp; omega) | (simp; done) | omega) ?_; clear H; intro wk H; simp only [List.set_cons_zero, List.set_cons_succ, Nat.reduceAdd] at H)) | (refine opk 9 rfl ?_; first | (refine ost_boxq H rfl ?_; clear H; intro bk wk H) | (refine ost_alloc1 H rfl rfl ?_; clear H; intro bk wk H) | (refine ost_build1 H rfl rfl rfl evQ lsQ rfl ?_; clear H; intro bk wk H))) | refine Wc.seq ?_ | refine then_n ?_ | refine WL.nil ?_ | refine Wc.region ?_ | refine Wc.block ?_ | refine then_r ?_ | refine then_e ?_ | refine inb_e rfl ?_ | refine inb_o rfl ?_ | refine inb_n ?_ | refine inb_r ?_ | refine Wc.skip ?_ | refine Wc.exit ?_ | refine Wc.ret ?_ | refine Wc.cond_true rfl ?_ | refine Wc.cond_false rfl ?_ | (refine Wc.drawn (id := 5) 4 (by kernel_rfl) ?_) | (refine Wc.drawn (id := 8) 5 (by kernel_rfl) ?_) | (refine rgs_nil ?_; intro vs wk hE; replace H := H.ext hE; clear hE) | (refine RGs.bq (fun _ => rfl) rfl (by intro vs w hE hP; have H := H.ext hE; first | exact dbQ | fail) (fun hc => ?_) (fun hc => ?_) <;> ((try simp only [cmpP, decide_eq_true_eq, decide_eq_false_iff_not, dcd_iff, dcd_no] at hc); try exact prDQ)) | refine RGs.pq (fun _ => rfl) rfl (by intro vs w hE hP; have H := H.ext hE; first | exact dvQ | fail) ?_)
      replace e9 := e9.symm
      subst e9
      generalize hfv : Value.func (Fn.func 105) _ _ = fv
      replace hfv : fv = .func (Fn.func 105) #[] #[pt b5] := hfv.symm.trans (by kernel_rfl)
      subst hfv
      replace H : St w [] h0 h9 [ownS (.slice a9 l.length c9) l, .blk bm (.cells (mnL ver flr base segs.length next a c).toArray 95 (0, 0))] wk := by
        rw [sV_flat] at H; exact H
      have hDl := fun w HO => del_func (fun x => decide (x ∈ nd)) b5 a9 c9 l h9 w HO (by omega) hfn
      repeat' (first | ((first | refine WL.p rfl ?_ | refine WL.u ?_); first | (refine opk 1 rfl ?_; (refine ost_H (A := ownS _ _) H rfl (by (exact ixQ)) (fun HO => hDl _ HO) rfl ?_; clear H; rintro vk wk hfk Lk ⟨e9, a10, c10, rfl, rfl⟩ hle H; simp only [List.cons_append, List.nil_append, List.eraseIdx_cons_zero, List.eraseIdx_cons_succ] at H)) | refine pvQ ?_ | (refine opk 3 rfl ?_; (refine ost_cmp rfl rfl rfl rfl (fun hc => ?_) (fun hc => ?_) <;> (simp only [cmpP] at hc; try exact prIQ))) | (refine opk 4 rfl ?_; (refine ost_cmp rfl rfl rfl rfl (fun hc => ?_) (fun hc => ?_) <;> (simp only [cmpP] at hc; try exact prIQ))) | (refine opk 8 rfl ?_; (refine ost_store1 H rfl rfl vlQ gvQ ixQ (by first | decide | (simp; omega) | (simp; done) | omega) ?_; clear H; intro wk H; simp only [List.set_cons_zero, List.set_cons_succ, Nat.reduceAdd] at H)) | (refine opk 9 rfl ?_; first | (refine ost_boxq H rfl ?_; clear H; intro bk wk H) | (refine ost_alloc1 H rfl rfl ?_; clear H; intro bk wk H) | (refine ost_build1 H rfl rfl rfl evQ lsQ rfl ?_; clear H; intro bk wk H))) | refine Wc.seq ?_ | refine then_n ?_ | refine WL.nil ?_ | refine Wc.region ?_ | refine Wc.block ?_ | refine then_r ?_ | refine then_e ?_ | refine inb_e rfl ?_ | refine inb_o rfl ?_ | refine inb_n ?_ | refine inb_r ?_ | refine Wc.skip ?_ | refine Wc.exit ?_ | refine Wc.ret ?_ | refine Wc.cond_true rfl ?_ | refine Wc.cond_false rfl ?_ | (refine Wc.drawn (id := 5) 4 (by kernel_rfl) ?_) | (refine Wc.drawn (id := 8) 5 (by kernel_rfl) ?_) | (refine rgs_nil ?_; intro vs wk hE; replace H := H.ext hE; clear hE) | (refine RGs.bq (fun _ => rfl) rfl (by intro vs w hE hP; have H := H.ext hE; first | exact dbQ | fail) (fun hc => ?_) (fun hc => ?_) <;> ((try simp only [cmpP, decide_eq_true_eq, decide_eq_false_iff_not, dcd_iff, dcd_no] at hc); try exact prDQ)) | refine RGs.pq (fun _ => rfl) rfl (by intro vs w hE hP; have H := H.ext hE; first | exact dvQ | fail) ?_)
      exact fn_ret1 (v := .slice _ _ _) rfl rfl ⟨_, _, H.pick 0 rfl, _, _, rfl, rfl⟩
    · have hneed : needM ⟨ver, flr, base, segs, next⟩ = ndK segs segs.length ++ [baseW base.toNat] := by unfold needM; rw [if_neg hbz, hk9]
      generalize ndK segs segs.length = nd0 at H hnk hnl hneed
      have hBN := man_BaseName base h0
      repeat' (first | ((first | refine WL.p rfl ?_ | refine WL.u ?_); first | (refine opk 1 rfl ?_; (refine ost_appR (rows := nd0.map cStr) (row := [Value.string (bstr (baseW base.toNat))]) H rfl rfl rfl (by (exact ixQ)) (by (exact ixQ)) (by rfl) (by first | simp; done | exact Nat.succ_pos _) rfl (allOne_of rfl) rfl (by omega) ?_; clear H; intro aa ca wk H; simp only [List.set_cons_zero, List.set_cons_succ] at H)) | refine pvQ ?_ | (refine opk 3 rfl ?_; (refine ost_cmp rfl rfl rfl rfl (fun hc => ?_) (fun hc => ?_) <;> (simp only [cmpP] at hc; try exact prIQ))) | (refine opk 4 rfl ?_; (refine ost_cmp rfl rfl rfl rfl (fun hc => ?_) (fun hc => ?_) <;> (simp only [cmpP] at hc; try exact prIQ))) | (refine opk 8 rfl ?_; (refine ost_store1 H rfl rfl vlQ gvQ ixQ (by first | decide | (simp; omega) | (simp; done) | omega) ?_; clear H; intro wk H; simp only [List.set_cons_zero, List.set_cons_succ, Nat.reduceAdd] at H)) | (refine opk 9 rfl ?_; first | (refine ost_boxq H rfl ?_; clear H; intro bk wk H) | (refine ost_alloc1 H rfl rfl ?_; clear H; intro bk wk H) | (refine ost_build1 H rfl rfl rfl evQ lsQ rfl ?_; clear H; intro bk wk H))) | refine Wc.seq ?_ | refine then_n ?_ | refine WL.nil ?_ | refine Wc.region ?_ | refine Wc.block ?_ | refine then_r ?_ | refine then_e ?_ | refine inb_e rfl ?_ | refine inb_o rfl ?_ | refine inb_n ?_ | refine inb_r ?_ | refine Wc.skip ?_ | refine Wc.exit ?_ | refine Wc.ret ?_ | refine Wc.cond_true rfl ?_ | refine Wc.cond_false rfl ?_ | (refine Wc.drawn (id := 5) 4 (by kernel_rfl) ?_) | (refine rgs_nil ?_; intro vs wk hE; replace H := H.ext hE; clear hE) | (refine RGs.bq (fun _ => rfl) rfl (by intro vs w hE hP; have H := H.ext hE; first | exact dbQ | fail) (fun hc => ?_) (fun hc => ?_) <;> ((try simp only [cmpP, decide_eq_true_eq, decide_eq_false_iff_not, dcd_iff, dcd_no] at hc); try exact prDQ)) | refine RGs.pq (fun _ => rfl) rfl (by intro vs w hE hP; have H := H.ext hE; first | (refine opk 1 rfl ?_; (exact ost_V0d rfl (hBN _ H.sat hT) rfl)) | exact dvQ | fail) ?_ | (refine Wc.drawM (id := 8) 5 [(4, [], fun v L' => ∃ b, v = Value.slice (some ⟨b, 0, none⟩) 1 1 ∧ L' = [ownR (Value.slice (some ⟨b, 0, none⟩) 1 1) 9 1 [[Value.string (bstr (baseW base.toNat))]]])] [ownR _ _ _ _, .blk _ _, .blk _ _] [4] H (by kernel_rfl) rfl (by kernel_rfl) (perm_pick [0, 1, 2] 3 rfl (by decide) rfl) ?_) | (refine rgm_nil ?_; intro vs wk outs HM hR; obtain ⟨v3, ⟨b3, e3, o3⟩, h3⟩ := hR 4 _ rfl; have hv3 : vs (0 + 1 + 1 + 1 + 1) = _ := (h3 (by kernel_rfl)).trans e3; simp only [outsL, o3, List.cons_append, List.nil_append, List.append_nil] at HM; (try dsimp only); rw [hv3]; replace H := HM; clear HM hR) | (refine RGm.bq (fun _ => rfl) rfl (by intro vs w TT hP H; simp only [List.cons_append, List.nil_append] at H; first | exact dbQ | fail) (fun hc => ?_) (fun hc => ?_) <;> ((try simp only [cmpP, decide_eq_true_eq, decide_eq_false_iff_not, dcd_iff, dcd_no] at hc); try exact prDQ)) | refine RGm.pq (fun _ => rfl) rfl (by intro vs w TT hP H; simp only [List.cons_append, List.nil_append] at H; first | (refine opk 1 rfl ?_; (exact ost_V0d rfl (hBN _ H.sat hT) rfl)) | exact dvQ | fail) ?_ | refine RGm.mq (fun _ => rfl) rfl (by intro vs w TT hP H; simp only [List.cons_append, List.nil_append] at H; first | (refine ost_buildR (rows := [[Value.string (bstr (baseW base.toNat))]]) H rfl (by decide) rfl (by rfl) (evP1 rfl) (.cons rfl .nil) rfl (by simp) ?_; intro bk wk H2; exact ⟨[_], ⟨_, rfl, rfl⟩, H2⟩) | fail) ?_ | refine RGm.mu rfl (by intro vs w TT hP H; simp only [List.cons_append, List.nil_append] at H; first | (refine ost_buildR (rows := [[Value.string (bstr (baseW base.toNat))]]) H rfl (by decide) rfl (by rfl) (evP1 rfl) (.cons rfl .nil) rfl (by simp) ?_; intro bk wk H2; exact ⟨[_], ⟨_, rfl, rfl⟩, H2⟩) | fail) ?_)
      have hLr : (nd0 ++ [baseW base.toNat]).map cStr = nd0.map cStr ++ [[Value.string (bstr (baseW base.toNat))]] := by rw [List.map_append]; rfl
      have hnk : (nd0 ++ [baseW base.toNat]).length ≤ segs.length + 2 := by rw [List.length_append, List.length_singleton]; omega
      rw [← hLr] at H
      generalize nd0 ++ [baseW base.toNat] = nd at H hneed hnk
      replace H : St w [] h0 h0 [ownR (.slice aa (nd.map cStr).length ca) 9 1 (nd.map cStr), .blk b5 (.cells [Value.slice aa (nd.map cStr).length ca].toArray 107 (0, 0)), .blk bm (.cells (mnL ver flr base segs.length next a c).toArray 95 (0, 0))] wk := H.picks [0, 1, 2] rfl (by decide)
      have hnd : orphM ⟨ver, flr, base, segs, next⟩ l = l.filter fun x => !decide (x ∈ nd) := by unfold orphM; rw [hneed]
      rw [hnd]
      obtain ⟨a8, c8, h8, e8, hle8, hN8, H⟩ := H.freezeR (rows_cStr nd)
      cases e8
      obtain ⟨h9, hle9, hb9, H⟩ := H.freezeB
      rw [List.length_map] at hb9
      have hfn := orph_fn b5 h9 nd _ _ nd.length _ _ rfl hb9 (hN8.mono hle9)
      have hN9 := hN.mono (hle8.trans hle9)
      have hll : (l.map cStr).length = l.length := List.length_map ..
      repeat' (first | ((first | refine WL.p rfl ?_ | refine WL.u ?_); first | (refine opk 1 rfl ?_; (refine ost_Sk H rfl (clone_str _ an cn _ l _ H.sat hll.symm hN9 (by omega)) rfl ?_; clear H; rintro vk wk hfk Lk ⟨a9, c9, rfl, e9, rfl⟩ hle H; simp only [List.cons_append, List.nil_append] at H)) | refine pvQ ?_ | (refine opk 3 rfl ?_; (refine ost_cmp rfl rfl rfl rfl (fun hc => ?_) (fun hc => ?_) <;> (simp only [cmpP] at hc; try exact prIQ))) | (refine opk 4 rfl ?_; (refine ost_cmp rfl rfl rfl rfl (fun hc => ?_) (fun hc => ?_) <;> (simp only [cmpP] at hc; try exact prIQ))) | (refine opk 8 rfl ?_; (refine ost_store1 H rfl rfl vlQ gvQ ixQ (by first | decide | (simp; omega) | (simp; done) | omega) ?_; clear H; intro wk H; simp only [List.set_cons_zero, List.set_cons_succ, Nat.reduceAdd] at H)) | (refine opk 9 rfl ?_; first | (refine ost_boxq H rfl ?_; clear H; intro bk wk H) | (refine ost_alloc1 H rfl rfl ?_; clear H; intro bk wk H) | (refine ost_build1 H rfl rfl rfl evQ lsQ rfl ?_; clear H; intro bk wk H))) | refine Wc.seq ?_ | refine then_n ?_ | refine WL.nil ?_ | refine Wc.region ?_ | refine Wc.block ?_ | refine then_r ?_ | refine then_e ?_ | refine inb_e rfl ?_ | refine inb_o rfl ?_ | refine inb_n ?_ | refine inb_r ?_ | refine Wc.skip ?_ | refine Wc.exit ?_ | refine Wc.ret ?_ | refine Wc.cond_true rfl ?_ | refine Wc.cond_false rfl ?_ | (refine Wc.drawn (id := 5) 4 (by kernel_rfl) ?_) | (refine Wc.drawn (id := 8) 5 (by kernel_rfl) ?_) | (refine rgs_nil ?_; intro vs wk hE; replace H := H.ext hE; clear hE) | (refine RGs.bq (fun _ => rfl) rfl (by intro vs w hE hP; have H := H.ext hE; first | exact dbQ | fail) (fun hc => ?_) (fun hc => ?_) <;> ((try simp only [cmpP, decide_eq_true_eq, decide_eq_false_iff_not, dcd_iff, dcd_no] at hc); try exact prDQ)) | refine RGs.pq (fun _ => rfl) rfl (by intro vs w hE hP; have H := H.ext hE; first | exact dvQ | fail) ?_)
      replace e9 := e9.symm
      subst e9
      generalize hfv : Value.func (Fn.func 105) _ _ = fv
      replace hfv : fv = .func (Fn.func 105) #[] #[pt b5] := hfv.symm.trans (by kernel_rfl)
      subst hfv
      replace H : St w [] h0 h9 [ownS (.slice a9 l.length c9) l, .blk bm (.cells (mnL ver flr base segs.length next a c).toArray 95 (0, 0))] wk := by
        rw [sV_flat] at H; exact H
      have hDl := fun w HO => del_func (fun x => decide (x ∈ nd)) b5 a9 c9 l h9 w HO (by omega) hfn
      repeat' (first | ((first | refine WL.p rfl ?_ | refine WL.u ?_); first | (refine opk 1 rfl ?_; (refine ost_H (A := ownS _ _) H rfl (by (exact ixQ)) (fun HO => hDl _ HO) rfl ?_; clear H; rintro vk wk hfk Lk ⟨e9, a10, c10, rfl, rfl⟩ hle H; simp only [List.cons_append, List.nil_append, List.eraseIdx_cons_zero, List.eraseIdx_cons_succ] at H)) | refine pvQ ?_ | (refine opk 3 rfl ?_; (refine ost_cmp rfl rfl rfl rfl (fun hc => ?_) (fun hc => ?_) <;> (simp only [cmpP] at hc; try exact prIQ))) | (refine opk 4 rfl ?_; (refine ost_cmp rfl rfl rfl rfl (fun hc => ?_) (fun hc => ?_) <;> (simp only [cmpP] at hc; try exact prIQ))) | (refine opk 8 rfl ?_; (refine ost_store1 H rfl rfl vlQ gvQ ixQ (by first | decide | (simp; omega) | (simp; done) | omega) ?_; clear H; intro wk H; simp only [List.set_cons_zero, List.set_cons_succ, Nat.reduceAdd] at H)) | (refine opk 9 rfl ?_; first | (refine ost_boxq H rfl ?_; clear H; intro bk wk H) | (refine ost_alloc1 H rfl rfl ?_; clear H; intro bk wk H) | (refine ost_build1 H rfl rfl rfl evQ lsQ rfl ?_; clear H; intro bk wk H))) | refine Wc.seq ?_ | refine then_n ?_ | refine WL.nil ?_ | refine Wc.region ?_ | refine Wc.block ?_ | refine then_r ?_ | refine then_e ?_ | refine inb_e rfl ?_ | refine inb_o rfl ?_ | refine inb_n ?_ | refine inb_r ?_ | refine Wc.skip ?_ | refine Wc.exit ?_ | refine Wc.ret ?_ | refine Wc.cond_true rfl ?_ | refine Wc.cond_false rfl ?_ | (refine Wc.drawn (id := 5) 4 (by kernel_rfl) ?_) | (refine Wc.drawn (id := 8) 5 (by kernel_rfl) ?_) | (refine rgs_nil ?_; intro vs wk hE; replace H := H.ext hE; clear hE) | (refine RGs.bq (fun _ => rfl) rfl (by intro vs w hE hP; have H := H.ext hE; first | exact dbQ | fail) (fun hc => ?_) (fun hc => ?_) <;> ((try simp only [cmpP, decide_eq_true_eq, decide_eq_false_iff_not, dcd_iff, dcd_no] at hc); try exact prDQ)) | refine RGs.pq (fun _ => rfl) rfl (by intro vs w hE hP; have H := H.ext hE; first | exact dvQ | fail) ?_)
      exact fn_ret1 (v := .slice _ _ _) rfl rfl ⟨_, _, H.pick 0 rfl, _, _, rfl, rfl⟩
end Go.Tg

