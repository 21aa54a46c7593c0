/- Contracts of Go functions that the laws reach: what each call answers and leaves in memory, for all arguments within the bounds that each theorem names. -/
import Derived.Test.YtajfhoeejeadkaaDoorInst
import Derived.Test.YtajfhoeejeadkaaDoorAuto
import Derived.Test.YtajfhoeejeadkaaDoorO5
set_option linter.unusedVariables false
set_option linter.unusedSimpArgs false
set_option maxRecDepth 100000
set_option maxHeartbeats 4000000
namespace Go.Tg
open Go Go.Proofs
theorem r13_Encode (p : PageT) (A : PAd) (h0 : FH) (w : World) (hs : Sat h0 w) (hP : PgR h0 p A) :
    Spec Tryd.prog 28 #[.agg (pgV p A).toArray] w [] h0 (fun v h' L' => ∃ a' c', v = .tuple #[.slice a' (outP p).1.length c', .int .i64 (outP p).2] ∧ h' = h0 ∧ L' = [own8 (.slice a' (outP p).1.length c') 5 (outP p).1]) := by
  have H := St.start hs
  have hR := r13_Right p A h0
  have hB := r13_bytes p A h0
  have hF : ∀ q, rightP p = q → outP p = if q = true then (encP p, 0) else ([], 15) := fun q h => by unfold outP; rw [h]
  generalize rightP p = q at hR hB hF
  rw [hF q rfl]
  clear hF
  have hB : ∀ (w : World), Sat h0 w → q = true → Spec Tryd.prog 68 #[.agg (pgV p A).toArray] w [] h0 (fun v h' L' => ∃ a' c', v = .slice a' (encP p).length c' ∧ h' = h0 ∧ L' = [own8 v 5 (encP p)]) := fun w hs hq => hB w hs hP hq
  generalize encP p = E at hB ⊢
  obtain ⟨lf, ks, ls, ds⟩ := p
  obtain ⟨ak, ck, al, cl, ad, cd⟩ := A
  have e : pgV ⟨lf, ks, ls, ds⟩ ⟨ak, ck, al, cl, ad, cd⟩ = pgL lf ks.length ls.length ds.length ak ck al cl ad cd := rfl
  rw [e] at hR hB ⊢
  have lp : (pgL lf ks.length ls.length ds.length ak ck al cl ad cd).length = 4 := rfl
  unfold Spec
  refine calls_of Tryd.func28 rfl Tryd.ntmps28 (by simp) ?_
  cases q with
  | false =>
    repeat' (first | ((first | refine WL.p rfl ?_ | refine WL.u ?_); first | (refine opk 1 rfl ?_; (refine ost_V H rfl (hR _ H.sat hP) rfl ?_; clear H; intro wk H)) | refine pvQ ?_ | (refine opk 9 rfl ?_; (refine ost_boxq H rfl ?_; clear H; intro bk wk H))) | refine Wc.seq ?_ | refine then_n ?_ | refine WL.nil ?_ | refine Wc.region ?_ | refine Wc.block ?_ | refine then_r ?_ | refine then_e ?_ | refine inb_e rfl ?_ | refine inb_o rfl ?_ | refine inb_n ?_ | refine inb_r ?_ | refine Wc.skip ?_ | refine Wc.exit ?_ | refine Wc.ret ?_ | refine Wc.cond_true rfl ?_ | refine Wc.cond_false rfl ?_)
    exact fn_ret2 (v1 := .slice _ _ _) (v2 := .int _ _) rfl rfl rfl ⟨_, _, (H.nil8 5).pick 0 rfl, _, _, rfl, rfl, rfl⟩
  | true =>
    repeat' (first | ((first | refine WL.p rfl ?_ | refine WL.u ?_); first | (refine opk 1 rfl ?_; first | (refine ost_V H rfl (hR _ H.sat hP) rfl ?_; clear H; intro wk H) | (refine ost_Sk H rfl (hB _ H.sat rfl) rfl ?_; clear H; rintro vk wk hfk Lk ⟨a1, c1, rfl, rfl, rfl⟩ hle H; simp only [List.cons_append, List.nil_append] at H)) | refine pvQ ?_ | (refine opk 9 rfl ?_; (refine ost_boxq H rfl ?_; clear H; intro bk wk H))) | refine Wc.seq ?_ | refine then_n ?_ | refine WL.nil ?_ | refine Wc.region ?_ | refine Wc.block ?_ | refine then_r ?_ | refine then_e ?_ | refine inb_e rfl ?_ | refine inb_o rfl ?_ | refine inb_n ?_ | refine inb_r ?_ | refine Wc.skip ?_ | refine Wc.exit ?_ | refine Wc.ret ?_ | refine Wc.cond_true rfl ?_ | refine Wc.cond_false rfl ?_)
    exact fn_ret2 (v1 := .slice _ _ _) (v2 := .int _ _) rfl rfl rfl ⟨_, _, H.pick 0 rfl, _, _, rfl, rfl, rfl⟩
abbrev tkp (bt b : Nat) (t : TkT) (a : Option Addr) (c : Nat) : HA := .both (.blk bt (.cells [pt b, .bool t.bad].toArray 130 (0, 0))) (rdr b true t.e a t.xs.length c)
theorem tkp_num (bits : Nat) (bt b : Nat) (t : TkT) (a : Option Addr) (c : Nat) (g : FH) (w : World) (HO : St w (tkp bt b t a c).fp g g [tkp bt b t a c] w) (hr : BS g a c t.xs) (hb : bits < 64) :
    Spec Tryd.prog 71 #[pt bt, .int .i64 bits] w (tkp bt b t a c).fp g (fun v' h' L' => v' = .int .u32 (UInt32.ofNat (tkN t)).toNat ∧ h' = g ∧ ∃ a' c', BS g a' c' (tkS t bits).xs ∧ L' = [tkp bt b (tkS t bits) a' c']) := by
  have H := HO.split
  have hn := numE_lt t.e t.xs
  have hu := u32_wrap2 (numE t.e t.xs).1
  unfold Spec
  refine calls_of Tryd.func71 rfl Tryd.ntmps71 (by simp) ?_
  repeat' (first | ((first | refine WL.p rfl ?_ | refine WL.u ?_ | refine WL.g rfl rfl ?_ | refine WL.gu rfl ?_); first | (refine opk 1 rfl ?_; (refine ost_H (A := rdr _ _ _ _ _ _) H rfl (by (exact ixQ)) (fun HO => rd_Num _ _ _ _ _ _ _ HO hr) rfl ?_; clear H; rintro vk wk hfk Lk ⟨rfl, rfl, a2, c2, hr2, rfl⟩ hle H; simp only [List.cons_append, List.nil_append, List.eraseIdx_cons_zero, List.eraseIdx_cons_succ] at H)) | (refine opk 6 rfl ?_; (refine ost_conv rfl rfl ?_)) | refine pvQ ?_ | (refine opk 3 rfl ?_; (refine ost_cmp rfl rfl rfl rfl (fun hc => ?_) (fun hc => ?_) <;> (simp only [cmpP] at hc; try exact prIQ))) | (refine opk 4 rfl ?_; (refine ost_cmp rfl rfl rfl rfl (fun hc => ?_) (fun hc => ?_) <;> (simp only [cmpP] at hc; try exact prIQ))) | (refine opk 8 rfl ?_; (refine ost_store1 H rfl rfl vlQ gvQ ixQ (by first | decide | (simp; omega) | (simp; done) | omega) ?_; clear H; intro wk H; simp only [List.set_cons_zero, List.set_cons_succ, Nat.reduceAdd] at H))) | refine Wc.seq ?_ | refine then_n ?_ | refine WL.nil ?_ | refine Wc.region ?_ | refine Wc.block ?_ | refine then_r ?_ | refine then_e ?_ | refine inb_e rfl ?_ | refine inb_o rfl ?_ | refine inb_n ?_ | refine inb_r ?_ | refine Wc.skip ?_ | refine Wc.exit ?_ | refine Wc.ret ?_ | refine Wc.cond_true rfl ?_ | refine Wc.cond_false rfl ?_ | refine WL.skp rfl rfl ?_ | refine WL.sku rfl ?_)
  all_goals
    have hd : ((numE t.e t.xs).1 : Int).fdiv (2 ^ min (bits : Int).toNat IntKind.u64.bits) = ((tkN t / 2 ^ bits : Nat) : Int) := by
      rw [show min (bits : Int).toNat IntKind.u64.bits = bits by (have : IntKind.u64.bits = 64 := rfl); omega, Int.fdiv_eq_ediv_of_nonneg _ (Int.le_of_lt (Int.pow_pos (by decide)))]
      unfold tkN; simp
    simp only [hd] at *
  · have e : (tkS t bits).bad = true := by simp_all [tkS]
    exact fn_ret1 (v := .int _ _) rfl rfl ⟨_, _, (H.pick2 1 0 rfl rfl (by decide)).join, hu, rfl, a2, c2, hr2, by simp only [tkp]; rw [e]; rfl⟩
  · have e : (tkS t bits).bad = true := by
      have : tkN t / 2 ^ bits ≠ 0 := by omega
      simp [tkS, this]
    exact fn_ret1 (v := .int _ _) rfl rfl ⟨_, _, (H.pick2 1 0 rfl rfl (by decide)).join, hu, rfl, a2, c2, hr2, by simp only [tkp]; rw [e]; rfl⟩
  · have e : (tkS t bits).bad = t.bad := by
      have h1 : tkN t / 2 ^ bits = 0 := by omega
      have h2 : (numE t.e t.xs).2.1 = 0 := by omega
      simp [tkS, h1, h2]
    exact fn_ret1 (v := .int _ _) rfl rfl ⟨_, _, (H.pick2 1 0 rfl rfl (by decide)).join, hu, rfl, a2, c2, hr2, by simp only [tkp]; rw [e]; rfl⟩
end Go.Tg

set_option linter.unusedVariables false
set_option linter.unusedSimpArgs false
set_option maxRecDepth 100000
set_option maxHeartbeats 4000000
namespace Go.Tg
open Go Go.Proofs
def tkL : TkT → List Nat → TkT
  | t, [] => t
  | t, b :: bs => tkL (tkS t b) bs
def tkV : TkT → List Nat → List Nat
  | _, [] => []
  | t, b :: bs => tkN t :: tkV (tkS t b) bs
theorem tkL_len (t : TkT) (l : List Nat) : (tkL t l).xs.length ≤ t.xs.length := by
  induction l generalizing t with
  | nil => exact Nat.le_refl _
  | cons b l ih => exact Nat.le_trans (ih _) (numE_len _ _)
def fits : List Nat → List Nat → Prop
  | [], [] => True
  | n :: ns, b :: bs => n < 2 ^ b ∧ fits ns bs
  | _, _ => False
theorem tkL_clean {t : TkT} {l : List Nat} (hb : (tkL t l).bad = false) (he : (tkL t l).e = 0) : t.bad = false ∧ t.e = 0 ∧ t.xs = numsB (tkV t l) ++ (tkL t l).xs ∧ fits (tkV t l) l := by
  induction l generalizing t with
  | nil => exact ⟨hb, he, by simp [tkV, tkL, numsB], trivial⟩
  | cons b l ih =>
    obtain ⟨h1, h2, h3, h4⟩ := ih hb he
    obtain ⟨h5, h6, h7, h8⟩ := tk_sound h1 h2 (Nat.pow_pos (by decide))
    refine ⟨h5, h6, ?_, h8, h4⟩
    rw [h7, h3, tkV, numsB_cons, tkL]; simp
theorem tkL_full {t : TkT} {l ns : List Nat} {r : List UInt8} (he : t.e = 0) (hb : t.bad = false) (hx : t.xs = numsB ns ++ r) (hf : fits ns l) (h64 : ∀ b, b ∈ l → b < 64) : tkV t l = ns ∧ tkL t l = ⟨0, r, false⟩ := by
  induction l generalizing t ns with
  | nil =>
    cases ns with
    | nil =>
      refine ⟨rfl, ?_⟩
      obtain ⟨e, xs, bad⟩ := t
      simp only [numsB_nil, List.nil_append] at he hb hx
      subst he; subst hb; subst hx; rfl
    | cons n ns => exact hf.elim
  | cons b l ih =>
    cases ns with
    | nil => exact hf.elim
    | cons n ns =>
      obtain ⟨h1, h2⟩ := hf
      rw [numsB_cons, List.append_assoc] at hx
      have h3 : n < 18446744073709551616 := Nat.lt_trans h1 (Nat.pow_lt_pow_right (a := 2) (by decide) (h64 b (by simp)))
      obtain ⟨h4, h5⟩ := tk_full he hb hx h3 h1
      obtain ⟨h6, h7⟩ := ih (t := tkS t b) (by rw [h5]) (by rw [h5]) (by rw [h5]) h2 fun x hx => h64 x (by simp [hx])
      exact ⟨by rw [tkV, h4, h6], h7⟩
def bitsR (lf : Bool) : List Nat := [16, 8, 32] ++ (if lf = true then [32, 32] else [32])
def rowT (lf : Bool) (t : TkT) : Nat → TkT
  | 0 => t
  | k + 1 => tkL (rowT lf t k) (bitsR lf)
theorem rowT_len (lf : Bool) (t : TkT) : ∀ k, (rowT lf t k).xs.length ≤ t.xs.length
  | 0 => Nat.le_refl _
  | k + 1 => Nat.le_trans (tkL_len _ _) (rowT_len lf t k)
def keyA (v : List Nat) : KeyT := ⟨UInt16.ofNat (v.getD 0 0), ⟨UInt8.ofNat (v.getD 1 0), UInt32.ofNat (v.getD 2 0)⟩⟩
def locA (v : List Nat) : LocT := ⟨UInt32.ofNat (v.getD 3 0), UInt32.ofNat (v.getD 4 0)⟩
def kidA (v : List Nat) : UInt32 := UInt32.ofNat (v.getD 3 0)
def rowV (lf : Bool) (t : TkT) (k : Nat) : List Nat := tkV (rowT lf t k) (bitsR lf)
def keysA (lf : Bool) (t : TkT) (k : Nat) : List KeyT := (List.range k).map fun i => keyA (rowV lf t i)
def locsA (lf : Bool) (t : TkT) (k : Nat) : List LocT := if lf = true then (List.range k).map fun i => locA (rowV lf t i) else []
def kidsA (lf : Bool) (t : TkT) (k : Nat) : List UInt32 := if lf = true then [] else (List.range k).map fun i => kidA (rowV lf t i)
theorem keysA_succ (lf : Bool) (t : TkT) (k : Nat) : keysA lf t (k + 1) = keysA lf t k ++ [keyA (rowV lf t k)] := by simp [keysA, List.range_succ]
theorem locsA_succ (t : TkT) (k : Nat) : locsA true t (k + 1) = locsA true t k ++ [locA (rowV true t k)] := by simp [locsA, List.range_succ]
theorem kidsA_succ (t : TkT) (k : Nat) : kidsA false t (k + 1) = kidsA false t k ++ [kidA (rowV false t k)] := by simp [kidsA, List.range_succ]
theorem keysA_len (lf : Bool) (t : TkT) (k : Nat) : (keysA lf t k).length = k := by simp [keysA]
def tkA (f : List UInt8) : TkT := ⟨0, f, false⟩
def lfA (f : List UInt8) : Bool := decide ((UInt32.ofNat (tkN (tkA f))).toNat = 1)
def cntA (f : List UInt8) : Nat := (UInt32.ofNat (tkN (tkS (tkA f) 1))).toNat
def tk2A (f : List UInt8) : TkT := tkS (tkS (tkA f) 1) 4
def mA (f : List UInt8) : Nat := min (cntA f) 9
def endA (f : List UInt8) : TkT := rowT (lfA f) (tk2A f) (mA f)
def pageA (f : List UInt8) : PageT := ⟨lfA f, keysA (lfA f) (tk2A f) (mA f), locsA (lfA f) (tk2A f) (mA f), kidsA (lfA f) (tk2A f) (mA f)⟩
theorem rowT_clean {lf : Bool} {t : TkT} : ∀ {k : Nat}, (rowT lf t k).bad = false → (rowT lf t k).e = 0 → t.bad = false ∧ t.e = 0 ∧ t.xs = numsB ((List.range k).map (rowV lf t)).flatten ++ (rowT lf t k).xs ∧ ∀ i, i < k → fits (rowV lf t i) (bitsR lf)
  | 0, hb, he => ⟨hb, he, by simp [numsB, rowT], fun i h => absurd h (by omega)⟩
  | k + 1, hb, he => by
    obtain ⟨h1, h2, h3, h4⟩ := tkL_clean hb he
    obtain ⟨h5, h6, h7, h8⟩ := rowT_clean h1 h2
    refine ⟨h5, h6, ?_, fun i hi => ?_⟩
    · rw [h7, h3, List.range_succ, List.map_append, List.flatten_append, numsB_app]
      simp [rowV, rowT]
    · by_cases hik : i = k
      · subst hik; exact h4
      · exact h8 i (by omega)
theorem rowT_full {lf : Bool} {t : TkT} {n : Nat} {v : Nat → List Nat} {r : List UInt8} (he : t.e = 0) (hb : t.bad = false) (hx : t.xs = numsB ((List.range n).map v).flatten ++ r) (hf : ∀ i, i < n → fits (v i) (bitsR lf)) :
    ∀ k, k ≤ n → (∀ i, i < k → rowV lf t i = v i) ∧ rowT lf t k = ⟨0, numsB ((List.range (n - k)).map fun i => v (k + i)).flatten ++ r, false⟩
  | 0, _ => ⟨fun i h => absurd h (by omega), by
    obtain ⟨e, xs, bad⟩ := t
    simp only at he hb hx
    subst he; subst hb; subst hx
    simp [rowT]⟩
  | k + 1, hk => by
    obtain ⟨h1, h2⟩ := rowT_full he hb hx hf k (by omega)
    have e9 : (List.range (n - k)).map (fun i => v (k + i)) = v k :: (List.range (n - (k + 1))).map fun i => v (k + 1 + i) := by
      rw [show n - k = (n - (k + 1)) + 1 by omega, List.range_succ_eq_map]
      simp only [List.map_cons, List.map_map, Nat.add_zero, List.cons.injEq, true_and]
      apply List.map_congr_left
      intro i _
      show v (k + (i + 1)) = _
      congr 1; omega
    rw [e9, List.flatten_cons, numsB_app, List.append_assoc] at h2
    obtain ⟨h3, h4⟩ := tkL_full (t := rowT lf t k) (l := bitsR lf) (ns := v k) (by rw [h2]) (by rw [h2]) (by rw [h2]) (hf k (by omega)) (by cases lf <;> decide)
    refine ⟨fun i hi => ?_, h4⟩
    by_cases hik : i = k
    · subst hik; exact h3
    · exact h1 i (by omega)
end Go.Tg

set_option linter.unusedVariables false
set_option linter.unusedSimpArgs false
set_option maxRecDepth 100000
set_option maxHeartbeats 4000000
namespace Go.Tg
open Go Go.Proofs
theorem keyA_of (k : KeyT) (l : List Nat) : keyA (k.cart.toNat :: k.dot.rep.toNat :: k.dot.seq.toNat :: l) = k := by
  obtain ⟨c, ⟨r, q⟩⟩ := k
  simp [keyA]
theorem locA_of (x : LocT) (a b c : Nat) : locA [a, b, c, x.seg.toNat, x.at_.toNat] = x := by
  obtain ⟨s, t⟩ := x
  simp [locA]
theorem kidA_of (x : UInt32) (a b c : Nat) : kidA [a, b, c, x.toNat] = x := by simp [kidA]
theorem fits_leaf {v : List Nat} (h : fits v (bitsR true)) : v = [(keyA v).cart.toNat, (keyA v).dot.rep.toNat, (keyA v).dot.seq.toNat, (locA v).seg.toNat, (locA v).at_.toNat] := by
  match v, h with
  | [a, b, c, d, e], ⟨h1, h2, h3, h4, h5, _⟩ =>
    have h1 : a < 65536 := h1
    have h2 : b < 256 := h2
    have h3 : c < 4294967296 := h3
    have h4 : d < 4294967296 := h4
    have h5 : e < 4294967296 := h5
    simp [keyA, locA]; omega
theorem fits_kid {v : List Nat} (h : fits v (bitsR false)) : v = [(keyA v).cart.toNat, (keyA v).dot.rep.toNat, (keyA v).dot.seq.toNat, (kidA v).toNat] := by
  match v, h with
  | [a, b, c, d], ⟨h1, h2, h3, h4, _⟩ =>
    have h1 : a < 65536 := h1
    have h2 : b < 256 := h2
    have h3 : c < 4294967296 := h3
    have h4 : d < 4294967296 := h4
    simp [keyA, kidA]; omega
theorem rowP_A {lf : Bool} {t : TkT} {m i : Nat} (hi : i < m) (hf : fits (rowV lf t i) (bitsR lf)) : rowP lf (keysA lf t m) (locsA lf t m) (kidsA lf t m) i = rowV lf t i := by
  have hk : i < (keysA lf t m).length := by rw [keysA_len]; exact hi
  have ek : (keysA lf t m)[i] = keyA (rowV lf t i) := by simp [keysA]
  cases lf with
  | true =>
    have hl : i < (locsA true t m).length := by simp [locsA]; exact hi
    have el : (locsA true t m)[i] = locA (rowV true t i) := by simp [locsA]
    rw [rowP_leaf hk hl, ek, el]
    exact (fits_leaf hf).symm
  | false =>
    have hl : i < (kidsA false t m).length := by simp [kidsA]; exact hi
    have el : (kidsA false t m)[i] = kidA (rowV false t i) := by simp [kidsA]
    rw [rowP_kid hk hl, ek, el]
    exact (fits_kid hf).symm
theorem ofNat32 {n : Nat} (h : n < 4294967296) : (UInt32.ofNat n).toNat = n := by simp; omega
theorem pageA_sound {f : List UInt8} (hb : (endA f).bad = false) (he : (endA f).e = 0) (hx : (endA f).xs = []) (hr : rightP (pageA f) = true) : f = numsB (natsP (pageA f)) := by
  obtain ⟨h1, h2, h3, h4⟩ := rowT_clean hb he
  obtain ⟨h5, h6, h7, h8⟩ := tk_sound h1 h2 (by decide)
  obtain ⟨h9, h10, h11, h12⟩ := tk_sound h5 h6 (by decide)
  have h13 : f = putB (tkN (tkA f)) ++ (tkS (tkA f) 1).xs := h11
  have e0 : lfA f = decide (tkN (tkA f) = 1) := by unfold lfA; rw [ofNat32 (by omega)]
  have e1 : cntA f = tkN (tkS (tkA f) 1) := by unfold cntA; rw [ofNat32 (by omega)]
  have hm : mA f = tkN (tkS (tkA f) 1) := by
    obtain ⟨-, hs⟩ := rightP_iff.1 hr
    have : (pageA f).keys.length ≤ 8 := by unfold shapeP at hs; split at hs <;> omega
    rw [show (pageA f).keys.length = mA f from keysA_len _ _ _] at this
    unfold mA at this ⊢
    rw [e1] at this ⊢
    omega
  have hrows : ((List.range (mA f)).map (rowV (lfA f) (tk2A f))).flatten = rowsP (lfA f) (pageA f).keys (pageA f).locs (pageA f).kids (mA f) := by
    unfold rowsP
    congr 1
    apply List.map_congr_left
    intro i hi
    exact (rowP_A (List.mem_range.1 hi) (h4 i (List.mem_range.1 hi))).symm
  have h14 : (tk2A f).xs = numsB (rowsP (lfA f) (pageA f).keys (pageA f).locs (pageA f).kids (mA f)) := by
    rw [h3, hrows]
    have : (rowT (lfA f) (tk2A f) (mA f)).xs = [] := hx
    rw [this, List.append_nil]
  unfold natsP
  rw [show (pageA f).keys.length = mA f from keysA_len _ _ _, show (pageA f).leaf = lfA f from rfl, numsB_cons, numsB_cons, ← h14]
  have e2 : (if lfA f = true then 1 else 0) = tkN (tkA f) := by
    rw [e0]
    have : tkN (tkA f) < 2 := h12
    by_cases h : tkN (tkA f) = 1
    · simp [h]
    · have : tkN (tkA f) = 0 := by omega
      simp [this]
  rw [e2, hm]
  have h15 : (tkS (tkA f) 1).xs = putB (tkN (tkS (tkA f) 1)) ++ (tk2A f).xs := h7
  rw [← h15]; exact h13
theorem rowP_fits {p : PageT} (hs : shapeP p) {i : Nat} (hi : i < p.keys.length) : fits (rowP p.leaf p.keys p.locs p.kids i) (bitsR p.leaf) := by
  obtain ⟨lf, ks, ls, ds⟩ := p
  have h1 := ks[i].cart.toNat_lt; have h2 := ks[i].dot.rep.toNat_lt; have h3 := ks[i].dot.seq.toNat_lt
  cases lf with
  | true =>
    have hs := (shapeP_T _ _ _).1 hs
    have hl : i < ls.length := by rw [hs.2.1]; exact hi
    dsimp only
    rw [rowP_leaf hi hl]
    exact ⟨h1, h2, h3, ls[i].seg.toNat_lt, ls[i].at_.toNat_lt, trivial⟩
  | false =>
    have hs := (shapeP_F _ _ _).1 hs
    have hl : i < ds.length := by rw [hs.2.2.1]; exact hi
    dsimp only
    rw [rowP_kid hi hl]
    exact ⟨h1, h2, h3, ds[i].toNat_lt, trivial⟩
theorem pageA_full {p : PageT} {f : List UInt8} (hr : rightP p = true) (hf : f = numsB (natsP p)) : pageA f = p ∧ endA f = ⟨0, [], false⟩ := by
  obtain ⟨hs1, hs2⟩ := rightP_iff.1 hr
  have hn : p.keys.length ≤ 8 := by unfold shapeP at hs2; split at hs2 <;> omega
  have hk : (if p.leaf = true then 1 else 0) < 2 := by split <;> omega
  unfold natsP at hf
  rw [numsB_cons, numsB_cons] at hf
  obtain ⟨a1, a2⟩ := tk_full (t := tkA f) (bits := 1) (n := if p.leaf = true then 1 else 0) rfl rfl hf (by omega) (by omega)
  obtain ⟨a3, a4⟩ := tk_full (t := tkS (tkA f) 1) (bits := 4) (n := p.keys.length) (r := numsB (rowsP p.leaf p.keys p.locs p.kids p.keys.length)) (by rw [a2]) (by rw [a2]) (by rw [a2]) (by omega) (by omega)
  have e0 : lfA f = p.leaf := by
    unfold lfA; rw [a1]; cases p.leaf <;> rfl
  have e1 : cntA f = p.keys.length := by unfold cntA; rw [a3, ofNat32 (by omega)]
  have e2 : mA f = p.keys.length := by unfold mA; rw [e1]; omega
  have e3 : tk2A f = ⟨0, numsB (rowsP p.leaf p.keys p.locs p.kids p.keys.length), false⟩ := a4
  obtain ⟨b1, b2⟩ := rowT_full (lf := p.leaf) (t := tk2A f) (n := p.keys.length) (v := rowP p.leaf p.keys p.locs p.kids) (r := []) (by rw [e3]) (by rw [e3]) (by rw [e3]; simp [rowsP]) (fun i hi => rowP_fits hs2 hi) p.keys.length (Nat.le_refl _)
  refine ⟨?_, ?_⟩
  · unfold pageA
    rw [e0, e2]
    obtain ⟨lf, ks, ls, ds⟩ := p
    dsimp only at b1 hs2 ⊢
    have hks : keysA lf (tk2A f) ks.length = ks := by
      apply List.ext_getElem
      · rw [keysA_len]
      · intro i h1 h2
        have : (keysA lf (tk2A f) ks.length)[i] = keyA (rowV lf (tk2A f) i) := by simp [keysA]
        rw [this, b1 i h2]
        cases lf with
        | true =>
          have hs := (shapeP_T _ _ _).1 hs2
          rw [rowP_leaf h2 (by omega)]; exact keyA_of _ _
        | false =>
          have hs := (shapeP_F _ _ _).1 hs2
          rw [rowP_kid h2 (by omega)]; exact keyA_of _ _
    cases lf with
    | true =>
      have hs := (shapeP_T _ _ _).1 hs2
      have hls : locsA true (tk2A f) ks.length = ls := by
        apply List.ext_getElem
        · simp [locsA]; omega
        · intro i h1 h2
          have : (locsA true (tk2A f) ks.length)[i] = locA (rowV true (tk2A f) i) := by simp [locsA]
          rw [this, b1 i (by omega), rowP_leaf (by omega) h2]; exact locA_of _ _ _ _
      have hds : ds = [] := List.eq_nil_of_length_eq_zero hs.2.2
      rw [hks, hls, hds]; rfl
    | false =>
      have hs := (shapeP_F _ _ _).1 hs2
      have hds : kidsA false (tk2A f) ks.length = ds := by
        apply List.ext_getElem
        · simp [kidsA]; omega
        · intro i h1 h2
          have : (kidsA false (tk2A f) ks.length)[i] = kidA (rowV false (tk2A f) i) := by simp [kidsA]
          rw [this, b1 i (by omega), rowP_kid (by omega) h2]; exact kidA_of _ _ _ _
      have hls : ls = [] := List.eq_nil_of_length_eq_zero hs.2.2.2
      rw [hks, hds, hls]; rfl
  · unfold endA
    rw [e0, e2, b2]; simp [numsB]
theorem wrapB_inj {a b : List UInt8} (ha : a.length < 18446744073709551616) (hb : b.length < 18446744073709551616) (h : wrapB a = wrapB b) : a = b := by
  unfold wrapB fieldB at h
  rw [List.append_assoc, List.append_assoc] at h
  obtain ⟨h1, h2⟩ := putB_app_inj ha hb h
  exact (List.append_inj h2 h1).1
theorem natsP_len {p : PageT} (hr : rightP p = true) : (numsB (natsP p)).length ≤ 462 := by
  obtain ⟨hs1, hs2⟩ := rightP_iff.1 hr
  have hn : p.keys.length ≤ 8 := by unfold shapeP at hs2; split at hs2 <;> omega
  exact numsR_len _ _ _ _ _ _ hn
theorem encP_inj {u v : PageT} (hu : rightP u = true) (hv : rightP v = true) (h : encP u = encP v) : u = v := by
  have h1 := natsP_len hu; have h2 := natsP_len hv
  have h3 := wrapB_inj (by omega) (by omega) h
  rw [← (pageA_full hu rfl).1, h3, (pageA_full hv rfl).1]
theorem firstF_wrap {xs : List UInt8} (hl : xs.length ≤ 4096) (r : List UInt8) : firstF (wrapB xs ++ r) = (xs, (wrapB xs).length, 0) := by
  have hg : getB (wrapB xs ++ r) = (xs.length, (putB xs.length).length, 0) := by
    unfold wrapB fieldB
    rw [List.append_assoc, List.append_assoc]
    exact getB_putB _ (by omega) _
  have hf : (fieldB xs).length = (putB xs.length).length + xs.length := by unfold fieldB; rw [List.length_append]
  have hw : (wrapB xs).length = (putB xs.length).length + xs.length + 4 := by unfold wrapB; rw [List.length_append, hf, sum4_len]
  have ht : (wrapB xs ++ r).take ((putB xs.length).length + xs.length) = fieldB xs := by
    unfold wrapB; rw [List.append_assoc]; exact List.take_left' hf
  have hd : ((wrapB xs ++ r).drop ((putB xs.length).length + xs.length)).take 4 = sum4 (fieldB xs) := by
    unfold wrapB; rw [List.append_assoc, List.drop_left' hf]; exact List.take_left' (sum4_len _)
  unfold firstF
  rw [hg]
  dsimp only
  rw [if_neg (by omega), if_neg (by omega), if_neg (by rw [List.length_append, hw]; omega), ht, hd, if_neg (by simp), hw]
  unfold fieldB
  rw [List.drop_left' rfl]
theorem firstF_ok {b : List UInt8} (h : (firstF b).2.2 = 0) : b.take (firstF b).2.1 = wrapB (firstF b).1 ∧ (firstF b).1.length ≤ 4096 ∧ (firstF b).2.1 ≤ b.length := by
  have hwi := @wrap_iff b
  have hk := getB_le b
  generalize hF : firstF b = F at h ⊢
  unfold firstF at hF
  generalize getB b = G at hF hwi hk
  obtain ⟨n, k, e⟩ := G
  dsimp only at hF hk
  by_cases he : e = 0
  · subst he
    by_cases h1 : 4096 < n
    · rw [if_neg (by omega), if_pos h1] at hF; subst hF; cases h
    · by_cases h2 : b.length < k + n + 4
      · rw [if_neg (by omega), if_neg h1, if_pos h2] at hF; subst hF; cases h
      · by_cases h3 : sum4 (b.take (k + n)) = (b.drop (k + n)).take 4
        · rw [if_neg (by omega), if_neg h1, if_neg h2, if_neg (by simpa using h3)] at hF; subst hF
          dsimp only
          refine ⟨((hwi rfl (by omega)).2 h3).symm, ?_, by omega⟩
          simp; omega
        · rw [if_neg (by omega), if_neg h1, if_neg h2, if_pos h3] at hF; subst hF; cases h
  · rw [if_pos he] at hF; subst hF; exact absurd h he
end Go.Tg

