/- Contracts of Go functions that the laws reach: what each call answers and leaves in memory, for all arguments within the bounds that each theorem names. -/
import Derived.Test.YtbfilhaigbebpaaDoorInst
import Derived.Test.YtbfilhaigbebpaaDoorAuto
import Derived.Test.YtbfilhaigbebpaaDoorO4
import Derived.Test.YtbfilhaigbebpaaDoorVecC
import Derived.Test.YtbfilhaigbebpaaDoorW6
set_option linter.unusedVariables false
set_option linter.unusedSimpArgs false
set_option maxRecDepth 100000
set_option maxHeartbeats 4000000
namespace Go.Tg
open Go Go.Proofs
structure TkT where
  e : Int
  xs : List UInt8
  bad : Bool
def tkN (t : TkT) : Nat := (numE t.e t.xs).1
def tkS (t : TkT) (bits : Nat) : TkT := ⟨(numE t.e t.xs).2.2.1, (numE t.e t.xs).2.2.2, t.bad || !(decide ((numE t.e t.xs).2.1 = 0) && decide (tkN t / 2 ^ bits = 0))⟩
theorem tk_sound {t : TkT} {bits : Nat} (hb : (tkS t bits).bad = false) (he : (tkS t bits).e = 0) (hb9 : 0 < 2 ^ bits) : t.bad = false ∧ t.e = 0 ∧ t.xs = putB (tkN t) ++ (tkS t bits).xs ∧ tkN t < 2 ^ bits := by
  simp only [tkS, Bool.or_eq_false_iff, Bool.not_eq_false', Bool.and_eq_true, decide_eq_true_eq] at hb
  obtain ⟨h1, h2, h3⟩ := hb
  have h0 : t.e = 0 := Classical.byContradiction fun h => by rw [numE_err h] at h2; exact h h2
  refine ⟨h1, h0, ?_, by rcases Nat.div_eq_zero_iff.1 h3 with h | h <;> omega⟩
  have := numE_inv (xs := t.xs) (by rw [h0] at h2; exact h2)
  unfold tkN tkS; rw [h0]; exact this
theorem tk_full {t : TkT} {bits n : Nat} {r : List UInt8} (he : t.e = 0) (hb : t.bad = false) (hx : t.xs = putB n ++ r) (hn : n < 18446744073709551616) (hn2 : n < 2 ^ bits) : tkN t = n ∧ tkS t bits = ⟨0, r, false⟩ := by
  have h1 := numE_putB n hn r
  rw [← hx, ← he] at h1
  have h2 : tkN t = n := by unfold tkN; rw [h1]
  refine ⟨h2, ?_⟩
  unfold tkS; rw [h2, h1, hb, he, Nat.div_eq_of_lt hn2]; rfl
def zeroO : OpT := ⟨⟨0, 0⟩, 0, 0, 0, 0, 0, fun _ => 0⟩
def DecO (b : List UInt8) (x : OpT) (e : Int) : Prop := (e = 0 ∧ rightO x 16 = true ∧ encO x = b) ∨ (e = 5 ∧ x = zeroO ∧ ∀ u, rightO u 16 = true → encO u ≠ b)
theorem nums_inj {u v : OpT} : ∀ (d k : Nat), 7 - k = d → k ≤ 7 → (r s : List UInt8) → ((List.range (7 - k)).map fun i => putB (numsO u (k + i))).flatten ++ r = ((List.range (7 - k)).map fun i => putB (numsO v (k + i))).flatten ++ s → (∀ i, k ≤ i → i < 7 → numsO u i = numsO v i) ∧ r = s
  | 0, k, h1, h2, r, s, h => by
    obtain rfl : k = 7 := by omega
    exact ⟨fun i _ _ => by omega, h⟩
  | d + 1, k, h1, h2, r, s, h => by
    rw [h1, List.range_succ_eq_map] at h
    simp only [List.map_cons, List.map_map, List.flatten_cons, Nat.add_zero, List.append_assoc] at h
    have hu := numsO_lt u k; have hv := numsO_lt v k
    obtain ⟨h3, h4⟩ := putB_app_inj (by omega) (by omega) h
    obtain ⟨h5, h6⟩ := nums_inj d (k + 1) (by omega) (by omega) r s (by
      rw [show 7 - (k + 1) = d by omega]
      simpa [Function.comp_def, Nat.add_assoc, Nat.add_comm 1] using h4)
    exact ⟨fun i h7 h8 => by
      by_cases hik : i = k
      · subst hik; exact h3
      · exact h5 i (by omega) h8, h6⟩
theorem encO_inj {u v : OpT} (h : encO u = encO v) : u = v := by
  have h0 : ((List.range (7 - 0)).map fun i => putB (numsO u (0 + i))).flatten ++ fieldB (encV u.ctx) = ((List.range (7 - 0)).map fun i => putB (numsO v (0 + i))).flatten ++ fieldB (encV v.ctx) := by
    simpa [encO, putsO] using h
  obtain ⟨h1, h2⟩ := nums_inj 7 0 rfl (by omega) _ _ h0
  have hu := encV_len u.ctx; have hv := encV_len v.ctx
  obtain ⟨h3, h4⟩ := putB_app_inj (by omega) (by omega) h2
  have h5 := encV_inj h4
  have e0 := h1 0 (by omega) (by omega); have e1 := h1 1 (by omega) (by omega); have e2 := h1 2 (by omega) (by omega); have e3 := h1 3 (by omega) (by omega)
  have e4 := h1 4 (by omega) (by omega); have e5 := h1 5 (by omega) (by omega); have e6 := h1 6 (by omega) (by omega)
  simp only [numsO] at e0 e1 e2 e3 e4 e5 e6
  simp at e0 e1 e2 e3 e4 e5 e6
  obtain ⟨⟨_, _⟩, _, _, _, _, _, _⟩ := u
  obtain ⟨⟨_, _⟩, _, _, _, _, _, _⟩ := v
  simp_all [UInt8.toNat_inj, UInt16.toNat_inj, UInt32.toNat_inj]
theorem DecO.unique {b : List UInt8} {x y : OpT} {e f : Int} (h : DecO b x e) (k : DecO b y f) : x = y ∧ e = f := by
  rcases h with ⟨h1, h2, h3⟩ | ⟨h1, h2, h3⟩ <;> rcases k with ⟨k1, k2, k3⟩ | ⟨k1, k2, k3⟩
  · exact ⟨encO_inj (h3.trans k3.symm), h1.trans k1.symm⟩
  · exact absurd h3 (k3 _ h2)
  · exact absurd k3 (h3 _ k2)
  · exact ⟨h2.trans k2.symm, h1.trans k1.symm⟩
theorem u32_wrap2 (y : Nat) : Value.int .u32 (IntKind.u32.wrap y) = .int .u32 (UInt32.ofNat y).toNat := by
  simp [IntKind.wrap, IntKind.bits, IntKind.signed]
end Go.Tg

set_option linter.unusedVariables false
set_option linter.unusedSimpArgs false
set_option maxRecDepth 100000
set_option maxHeartbeats 4000000
namespace Go.Tg
open Go Go.Proofs
abbrev tkp (bt b : Nat) (t : TkT) (a : Option Addr) (c : Nat) : HA := .both (.blk bt (.cells [pt b, .bool t.bad].toArray 119 (0, 0))) (rdr b true t.e a t.xs.length c)
theorem tkp_num (bits : Nat) (bt b : Nat) (t : TkT) (a : Option Addr) (c : Nat) (g : FH) (w : World) (HO : St w (tkp bt b t a c).fp g g [tkp bt b t a c] w) (hr : BS g a c t.xs) (hb : bits < 64) :
    Spec Tryd.prog 40 #[pt bt, .int .i64 bits] w (tkp bt b t a c).fp g (fun v' h' L' => v' = .int .u32 (UInt32.ofNat (tkN t)).toNat ∧ h' = g ∧ ∃ a' c', BS g a' c' (tkS t bits).xs ∧ L' = [tkp bt b (tkS t bits) a' c']) := by
  have H := HO.split
  have hn := numE_lt t.e t.xs
  have hu := u32_wrap2 (numE t.e t.xs).1
  unfold Spec
  refine calls_of Tryd.func40 rfl Tryd.ntmps40 (by simp) ?_
  repeat' (first | ((first | refine WL.p rfl ?_ | refine WL.u ?_ | refine WL.g rfl rfl ?_ | refine WL.gu rfl ?_); first | (refine opk 1 rfl ?_; (refine ost_H (A := rdr _ _ _ _ _ _) H rfl (by (exact ixQ)) (fun HO => rd_Num _ _ _ _ _ _ _ HO hr) rfl ?_; clear H; rintro vk wk hfk Lk ⟨rfl, rfl, a2, c2, hr2, rfl⟩ hle H; simp only [List.cons_append, List.nil_append, List.eraseIdx_cons_zero, List.eraseIdx_cons_succ] at H)) | (refine opk 6 rfl ?_; (refine ost_conv rfl rfl ?_)) | refine pvQ ?_ | (refine opk 3 rfl ?_; (refine ost_cmp rfl rfl rfl rfl (fun hc => ?_) (fun hc => ?_) <;> (simp only [cmpP] at hc; try exact prIQ))) | (refine opk 4 rfl ?_; (refine ost_cmp rfl rfl rfl rfl (fun hc => ?_) (fun hc => ?_) <;> (simp only [cmpP] at hc; try exact prIQ))) | (refine opk 8 rfl ?_; (refine ost_store1 H rfl rfl vlQ gvQ ixQ (by first | decide | (simp; omega) | (simp; done) | omega) ?_; clear H; intro wk H; simp only [List.set_cons_zero, List.set_cons_succ, Nat.reduceAdd] at H))) | refine Wc.seq ?_ | refine then_n ?_ | refine WL.nil ?_ | refine Wc.region ?_ | refine Wc.block ?_ | refine then_r ?_ | refine then_e ?_ | refine inb_e rfl ?_ | refine inb_o rfl ?_ | refine inb_n ?_ | refine inb_r ?_ | refine Wc.skip ?_ | refine Wc.exit ?_ | refine Wc.ret ?_ | refine Wc.cond_true rfl ?_ | refine Wc.cond_false rfl ?_ | refine WL.skp rfl rfl ?_ | refine WL.sku rfl ?_)
  all_goals
    have hd : ((numE t.e t.xs).1 : Int).fdiv (2 ^ min (bits : Int).toNat IntKind.u64.bits) = ((tkN t / 2 ^ bits : Nat) : Int) := by
      rw [show min (bits : Int).toNat IntKind.u64.bits = bits by (have : IntKind.u64.bits = 64 := rfl); omega, Int.fdiv_eq_ediv_of_nonneg _ (Int.le_of_lt (Int.pow_pos (by decide)))]
      unfold tkN; simp
    simp only [hd] at *
  · have e : (tkS t bits).bad = true := by simp_all [tkS]
    exact fn_ret1 (v := .int _ _) rfl rfl ⟨_, _, (H.pick2 1 0 rfl rfl (by decide)).join, hu, rfl, a2, c2, hr2, by simp only [tkp]; rw [e]; rfl⟩
  · have e : (tkS t bits).bad = true := by
      have : tkN t / 2 ^ bits ≠ 0 := by omega
      simp [tkS, this]
    exact fn_ret1 (v := .int _ _) rfl rfl ⟨_, _, (H.pick2 1 0 rfl rfl (by decide)).join, hu, rfl, a2, c2, hr2, by simp only [tkp]; rw [e]; rfl⟩
  · have e : (tkS t bits).bad = t.bad := by
      have h1 : tkN t / 2 ^ bits = 0 := by omega
      have h2 : (numE t.e t.xs).2.1 = 0 := by omega
      simp [tkS, h1, h2]
    exact fn_ret1 (v := .int _ _) rfl rfl ⟨_, _, (H.pick2 1 0 rfl rfl (by decide)).join, hu, rfl, a2, c2, hr2, by simp only [tkp]; rw [e]; rfl⟩
end Go.Tg

set_option linter.unusedVariables false
set_option linter.unusedSimpArgs false
set_option maxRecDepth 100000
set_option maxHeartbeats 4000000
namespace Go.Tg
open Go Go.Proofs
def tkL : TkT → List Nat → TkT
  | t, [] => t
  | t, b :: bs => tkL (tkS t b) bs
def tkV : TkT → List Nat → List Nat
  | _, [] => []
  | t, b :: bs => tkN t :: tkV (tkS t b) bs
theorem tkL_len (t : TkT) (l : List Nat) : (tkL t l).xs.length ≤ t.xs.length := by
  induction l generalizing t with
  | nil => exact Nat.le_refl _
  | cons b l ih => exact Nat.le_trans (ih _) (numE_len _ _)
def fits : List Nat → List Nat → Prop
  | [], [] => True
  | n :: ns, b :: bs => n < 2 ^ b ∧ fits ns bs
  | _, _ => False
theorem tkL_clean {t : TkT} {l : List Nat} (hb : (tkL t l).bad = false) (he : (tkL t l).e = 0) : t.bad = false ∧ t.e = 0 ∧ t.xs = numsB (tkV t l) ++ (tkL t l).xs ∧ fits (tkV t l) l := by
  induction l generalizing t with
  | nil => exact ⟨hb, he, by simp [tkV, tkL, numsB], trivial⟩
  | cons b l ih =>
    obtain ⟨h1, h2, h3, h4⟩ := ih hb he
    obtain ⟨h5, h6, h7, h8⟩ := tk_sound h1 h2 (Nat.pow_pos (by decide))
    refine ⟨h5, h6, ?_, h8, h4⟩
    rw [h7, h3, tkV, numsB_cons, tkL]; simp
theorem tkL_full {t : TkT} {l ns : List Nat} {r : List UInt8} (he : t.e = 0) (hb : t.bad = false) (hx : t.xs = numsB ns ++ r) (hf : fits ns l) (h64 : ∀ b, b ∈ l → b < 64) : tkV t l = ns ∧ tkL t l = ⟨0, r, false⟩ := by
  induction l generalizing t ns with
  | nil =>
    cases ns with
    | nil =>
      refine ⟨rfl, ?_⟩
      obtain ⟨e, xs, bad⟩ := t
      simp only [numsB_nil, List.nil_append] at he hb hx
      subst he; subst hb; subst hx; rfl
    | cons n ns => exact hf.elim
  | cons b l ih =>
    cases ns with
    | nil => exact hf.elim
    | cons n ns =>
      obtain ⟨h1, h2⟩ := hf
      rw [numsB_cons, List.append_assoc] at hx
      have h3 : n < 18446744073709551616 := Nat.lt_trans h1 (Nat.pow_lt_pow_right (a := 2) (by decide) (h64 b (by simp)))
      obtain ⟨h4, h5⟩ := tk_full he hb hx h3 h1
      obtain ⟨h6, h7⟩ := ih (t := tkS t b) (by rw [h5]) (by rw [h5]) (by rw [h5]) h2 fun x hx => h64 x (by simp [hx])
      exact ⟨by rw [tkV, h4, h6], h7⟩
def bitsR (lf : Bool) : List Nat := [16, 8, 32] ++ (if lf = true then [32, 32] else [32])
def rowT (lf : Bool) (t : TkT) : Nat → TkT
  | 0 => t
  | k + 1 => tkL (rowT lf t k) (bitsR lf)
theorem rowT_len (lf : Bool) (t : TkT) : ∀ k, (rowT lf t k).xs.length ≤ t.xs.length
  | 0 => Nat.le_refl _
  | k + 1 => Nat.le_trans (tkL_len _ _) (rowT_len lf t k)
def keyA (v : List Nat) : KeyT := ⟨UInt16.ofNat (v.getD 0 0), ⟨UInt8.ofNat (v.getD 1 0), UInt32.ofNat (v.getD 2 0)⟩⟩
def locA (v : List Nat) : LocT := ⟨UInt32.ofNat (v.getD 3 0), UInt32.ofNat (v.getD 4 0)⟩
def kidA (v : List Nat) : UInt32 := UInt32.ofNat (v.getD 3 0)
def rowV (lf : Bool) (t : TkT) (k : Nat) : List Nat := tkV (rowT lf t k) (bitsR lf)
def keysA (lf : Bool) (t : TkT) (k : Nat) : List KeyT := (List.range k).map fun i => keyA (rowV lf t i)
def locsA (lf : Bool) (t : TkT) (k : Nat) : List LocT := if lf = true then (List.range k).map fun i => locA (rowV lf t i) else []
def kidsA (lf : Bool) (t : TkT) (k : Nat) : List UInt32 := if lf = true then [] else (List.range k).map fun i => kidA (rowV lf t i)
theorem keysA_succ (lf : Bool) (t : TkT) (k : Nat) : keysA lf t (k + 1) = keysA lf t k ++ [keyA (rowV lf t k)] := by simp [keysA, List.range_succ]
theorem locsA_succ (t : TkT) (k : Nat) : locsA true t (k + 1) = locsA true t k ++ [locA (rowV true t k)] := by simp [locsA, List.range_succ]
theorem kidsA_succ (t : TkT) (k : Nat) : kidsA false t (k + 1) = kidsA false t k ++ [kidA (rowV false t k)] := by simp [kidsA, List.range_succ]
theorem keysA_len (lf : Bool) (t : TkT) (k : Nat) : (keysA lf t k).length = k := by simp [keysA]
def tkA (f : List UInt8) : TkT := ⟨0, f, false⟩
def lfA (f : List UInt8) : Bool := decide ((UInt32.ofNat (tkN (tkA f))).toNat = 1)
def cntA (f : List UInt8) : Nat := (UInt32.ofNat (tkN (tkS (tkA f) 1))).toNat
def tk2A (f : List UInt8) : TkT := tkS (tkS (tkA f) 1) 4
def mA (f : List UInt8) : Nat := min (cntA f) 9
def endA (f : List UInt8) : TkT := rowT (lfA f) (tk2A f) (mA f)
def pageA (f : List UInt8) : PageT := ⟨lfA f, keysA (lfA f) (tk2A f) (mA f), locsA (lfA f) (tk2A f) (mA f), kidsA (lfA f) (tk2A f) (mA f)⟩
theorem rowT_clean {lf : Bool} {t : TkT} : ∀ {k : Nat}, (rowT lf t k).bad = false → (rowT lf t k).e = 0 → t.bad = false ∧ t.e = 0 ∧ t.xs = numsB ((List.range k).map (rowV lf t)).flatten ++ (rowT lf t k).xs ∧ ∀ i, i < k → fits (rowV lf t i) (bitsR lf)
  | 0, hb, he => ⟨hb, he, by simp [numsB, rowT], fun i h => absurd h (by omega)⟩
  | k + 1, hb, he => by
    obtain ⟨h1, h2, h3, h4⟩ := tkL_clean hb he
    obtain ⟨h5, h6, h7, h8⟩ := rowT_clean h1 h2
    refine ⟨h5, h6, ?_, fun i hi => ?_⟩
    · rw [h7, h3, List.range_succ, List.map_append, List.flatten_append, numsB_app]
      simp [rowV, rowT]
    · by_cases hik : i = k
      · subst hik; exact h4
      · exact h8 i (by omega)
theorem rowT_full {lf : Bool} {t : TkT} {n : Nat} {v : Nat → List Nat} {r : List UInt8} (he : t.e = 0) (hb : t.bad = false) (hx : t.xs = numsB ((List.range n).map v).flatten ++ r) (hf : ∀ i, i < n → fits (v i) (bitsR lf)) :
    ∀ k, k ≤ n → (∀ i, i < k → rowV lf t i = v i) ∧ rowT lf t k = ⟨0, numsB ((List.range (n - k)).map fun i => v (k + i)).flatten ++ r, false⟩
  | 0, _ => ⟨fun i h => absurd h (by omega), by
    obtain ⟨e, xs, bad⟩ := t
    simp only at he hb hx
    subst he; subst hb; subst hx
    simp [rowT]⟩
  | k + 1, hk => by
    obtain ⟨h1, h2⟩ := rowT_full he hb hx hf k (by omega)
    have e9 : (List.range (n - k)).map (fun i => v (k + i)) = v k :: (List.range (n - (k + 1))).map fun i => v (k + 1 + i) := by
      rw [show n - k = (n - (k + 1)) + 1 by omega, List.range_succ_eq_map]
      simp only [List.map_cons, List.map_map, Nat.add_zero, List.cons.injEq, true_and]
      apply List.map_congr_left
      intro i _
      show v (k + (i + 1)) = _
      congr 1; omega
    rw [e9, List.flatten_cons, numsB_app, List.append_assoc] at h2
    obtain ⟨h3, h4⟩ := tkL_full (t := rowT lf t k) (l := bitsR lf) (ns := v k) (by rw [h2]) (by rw [h2]) (by rw [h2]) (hf k (by omega)) (by cases lf <;> decide)
    refine ⟨fun i hi => ?_, h4⟩
    by_cases hik : i = k
    · subst hik; exact h3
    · exact h1 i (by omega)
end Go.Tg

