/- Contracts of Go functions that the laws reach: what each call answers and leaves in memory, for all arguments within the bounds that each theorem names. -/
import Derived.Test.YtbfilhaigbebpaaDoorInst
import Derived.Test.YtbfilhaigbebpaaDoorAuto
import Derived.Test.YtbfilhaigbebpaaDoorQ7
import Derived.Test.YtbfilhaigbebpaaDoorPick
set_option linter.unusedVariables false
set_option linter.unusedSimpArgs false
set_option maxRecDepth 100000
set_option maxHeartbeats 4000000
namespace Go.Tg
open Go Go.Proofs
def tkL : TkT → List Nat → TkT
  | t, [] => t
  | t, b :: bs => tkL (tkS t b) bs
def tkV : TkT → List Nat → List Nat
  | _, [] => []
  | t, b :: bs => tkN t :: tkV (tkS t b) bs
theorem tkL_len (t : TkT) (l : List Nat) : (tkL t l).xs.length ≤ t.xs.length := by
  induction l generalizing t with
  | nil => exact Nat.le_refl _
  | cons b l ih => exact Nat.le_trans (ih _) (numE_len _ _)
def fits : List Nat → List Nat → Prop
  | [], [] => True
  | n :: ns, b :: bs => n < 2 ^ b ∧ fits ns bs
  | _, _ => False
theorem tkL_clean {t : TkT} {l : List Nat} (hb : (tkL t l).bad = false) (he : (tkL t l).e = 0) : t.bad = false ∧ t.e = 0 ∧ t.xs = numsB (tkV t l) ++ (tkL t l).xs ∧ fits (tkV t l) l := by
  induction l generalizing t with
  | nil => exact ⟨hb, he, by simp [tkV, tkL, numsB], trivial⟩
  | cons b l ih =>
    obtain ⟨h1, h2, h3, h4⟩ := ih hb he
    obtain ⟨h5, h6, h7, h8⟩ := tk_sound h1 h2 (Nat.pow_pos (by decide))
    refine ⟨h5, h6, ?_, h8, h4⟩
    rw [h7, h3, tkV, numsB_cons, tkL]; simp
theorem tkL_full {t : TkT} {l ns : List Nat} {r : List UInt8} (he : t.e = 0) (hb : t.bad = false) (hx : t.xs = numsB ns ++ r) (hf : fits ns l) (h64 : ∀ b, b ∈ l → b < 64) : tkV t l = ns ∧ tkL t l = ⟨0, r, false⟩ := by
  induction l generalizing t ns with
  | nil =>
    cases ns with
    | nil =>
      refine ⟨rfl, ?_⟩
      obtain ⟨e, xs, bad⟩ := t
      simp only [numsB_nil, List.nil_append] at he hb hx
      subst he; subst hb; subst hx; rfl
    | cons n ns => exact hf.elim
  | cons b l ih =>
    cases ns with
    | nil => exact hf.elim
    | cons n ns =>
      obtain ⟨h1, h2⟩ := hf
      rw [numsB_cons, List.append_assoc] at hx
      have h3 : n < 18446744073709551616 := Nat.lt_trans h1 (Nat.pow_lt_pow_right (a := 2) (by decide) (h64 b (by simp)))
      obtain ⟨h4, h5⟩ := tk_full he hb hx h3 h1
      obtain ⟨h6, h7⟩ := ih (t := tkS t b) (by rw [h5]) (by rw [h5]) (by rw [h5]) h2 fun x hx => h64 x (by simp [hx])
      exact ⟨by rw [tkV, h4, h6], h7⟩
def bitsR (lf : Bool) : List Nat := [16, 8, 32] ++ (if lf = true then [32, 32] else [32])
def rowT (lf : Bool) (t : TkT) : Nat → TkT
  | 0 => t
  | k + 1 => tkL (rowT lf t k) (bitsR lf)
theorem rowT_len (lf : Bool) (t : TkT) : ∀ k, (rowT lf t k).xs.length ≤ t.xs.length
  | 0 => Nat.le_refl _
  | k + 1 => Nat.le_trans (tkL_len _ _) (rowT_len lf t k)
def keyA (v : List Nat) : KeyT := ⟨UInt16.ofNat (v.getD 0 0), ⟨UInt8.ofNat (v.getD 1 0), UInt32.ofNat (v.getD 2 0)⟩⟩
def locA (v : List Nat) : LocT := ⟨UInt32.ofNat (v.getD 3 0), UInt32.ofNat (v.getD 4 0)⟩
def kidA (v : List Nat) : UInt32 := UInt32.ofNat (v.getD 3 0)
def rowV (lf : Bool) (t : TkT) (k : Nat) : List Nat := tkV (rowT lf t k) (bitsR lf)
def keysA (lf : Bool) (t : TkT) (k : Nat) : List KeyT := (List.range k).map fun i => keyA (rowV lf t i)
def locsA (lf : Bool) (t : TkT) (k : Nat) : List LocT := if lf = true then (List.range k).map fun i => locA (rowV lf t i) else []
def kidsA (lf : Bool) (t : TkT) (k : Nat) : List UInt32 := if lf = true then [] else (List.range k).map fun i => kidA (rowV lf t i)
theorem keysA_succ (lf : Bool) (t : TkT) (k : Nat) : keysA lf t (k + 1) = keysA lf t k ++ [keyA (rowV lf t k)] := by simp [keysA, List.range_succ]
theorem locsA_succ (t : TkT) (k : Nat) : locsA true t (k + 1) = locsA true t k ++ [locA (rowV true t k)] := by simp [locsA, List.range_succ]
theorem kidsA_succ (t : TkT) (k : Nat) : kidsA false t (k + 1) = kidsA false t k ++ [kidA (rowV false t k)] := by simp [kidsA, List.range_succ]
theorem keysA_len (lf : Bool) (t : TkT) (k : Nat) : (keysA lf t k).length = k := by simp [keysA]
def tkA (f : List UInt8) : TkT := ⟨0, f, false⟩
def lfA (f : List UInt8) : Bool := decide ((UInt32.ofNat (tkN (tkA f))).toNat = 1)
def cntA (f : List UInt8) : Nat := (UInt32.ofNat (tkN (tkS (tkA f) 1))).toNat
def tk2A (f : List UInt8) : TkT := tkS (tkS (tkA f) 1) 4
def mA (f : List UInt8) : Nat := min (cntA f) 9
def endA (f : List UInt8) : TkT := rowT (lfA f) (tk2A f) (mA f)
def pageA (f : List UInt8) : PageT := ⟨lfA f, keysA (lfA f) (tk2A f) (mA f), locsA (lfA f) (tk2A f) (mA f), kidsA (lfA f) (tk2A f) (mA f)⟩
theorem rowT_clean {lf : Bool} {t : TkT} : ∀ {k : Nat}, (rowT lf t k).bad = false → (rowT lf t k).e = 0 → t.bad = false ∧ t.e = 0 ∧ t.xs = numsB ((List.range k).map (rowV lf t)).flatten ++ (rowT lf t k).xs ∧ ∀ i, i < k → fits (rowV lf t i) (bitsR lf)
  | 0, hb, he => ⟨hb, he, by simp [numsB, rowT], fun i h => absurd h (by omega)⟩
  | k + 1, hb, he => by
    obtain ⟨h1, h2, h3, h4⟩ := tkL_clean hb he
    obtain ⟨h5, h6, h7, h8⟩ := rowT_clean h1 h2
    refine ⟨h5, h6, ?_, fun i hi => ?_⟩
    · rw [h7, h3, List.range_succ, List.map_append, List.flatten_append, numsB_app]
      simp [rowV, rowT]
    · by_cases hik : i = k
      · subst hik; exact h4
      · exact h8 i (by omega)
theorem rowT_full {lf : Bool} {t : TkT} {n : Nat} {v : Nat → List Nat} {r : List UInt8} (he : t.e = 0) (hb : t.bad = false) (hx : t.xs = numsB ((List.range n).map v).flatten ++ r) (hf : ∀ i, i < n → fits (v i) (bitsR lf)) :
    ∀ k, k ≤ n → (∀ i, i < k → rowV lf t i = v i) ∧ rowT lf t k = ⟨0, numsB ((List.range (n - k)).map fun i => v (k + i)).flatten ++ r, false⟩
  | 0, _ => ⟨fun i h => absurd h (by omega), by
    obtain ⟨e, xs, bad⟩ := t
    simp only at he hb hx
    subst he; subst hb; subst hx
    simp [rowT]⟩
  | k + 1, hk => by
    obtain ⟨h1, h2⟩ := rowT_full he hb hx hf k (by omega)
    have e9 : (List.range (n - k)).map (fun i => v (k + i)) = v k :: (List.range (n - (k + 1))).map fun i => v (k + 1 + i) := by
      rw [show n - k = (n - (k + 1)) + 1 by omega, List.range_succ_eq_map]
      simp only [List.map_cons, List.map_map, Nat.add_zero, List.cons.injEq, true_and]
      apply List.map_congr_left
      intro i _
      show v (k + (i + 1)) = _
      congr 1; omega
    rw [e9, List.flatten_cons, numsB_app, List.append_assoc] at h2
    obtain ⟨h3, h4⟩ := tkL_full (t := rowT lf t k) (l := bitsR lf) (ns := v k) (by rw [h2]) (by rw [h2]) (by rw [h2]) (hf k (by omega)) (by cases lf <;> decide)
    refine ⟨fun i hi => ?_, h4⟩
    by_cases hik : i = k
    · subst hik; exact h3
    · exact h1 i (by omega)
end Go.Tg

set_option linter.unusedVariables false
set_option linter.unusedSimpArgs false
set_option maxRecDepth 100000
set_option maxHeartbeats 4000000
namespace Go.Tg
open Go Go.Proofs
theorem keyA_of (k : KeyT) (l : List Nat) : keyA (k.cart.toNat :: k.dot.rep.toNat :: k.dot.seq.toNat :: l) = k := by
  obtain ⟨c, ⟨r, q⟩⟩ := k
  simp [keyA]
theorem locA_of (x : LocT) (a b c : Nat) : locA [a, b, c, x.seg.toNat, x.at_.toNat] = x := by
  obtain ⟨s, t⟩ := x
  simp [locA]
theorem kidA_of (x : UInt32) (a b c : Nat) : kidA [a, b, c, x.toNat] = x := by simp [kidA]
theorem fits_leaf {v : List Nat} (h : fits v (bitsR true)) : v = [(keyA v).cart.toNat, (keyA v).dot.rep.toNat, (keyA v).dot.seq.toNat, (locA v).seg.toNat, (locA v).at_.toNat] := by
  match v, h with
  | [a, b, c, d, e], ⟨h1, h2, h3, h4, h5, _⟩ =>
    have h1 : a < 65536 := h1
    have h2 : b < 256 := h2
    have h3 : c < 4294967296 := h3
    have h4 : d < 4294967296 := h4
    have h5 : e < 4294967296 := h5
    simp [keyA, locA]; omega
theorem fits_kid {v : List Nat} (h : fits v (bitsR false)) : v = [(keyA v).cart.toNat, (keyA v).dot.rep.toNat, (keyA v).dot.seq.toNat, (kidA v).toNat] := by
  match v, h with
  | [a, b, c, d], ⟨h1, h2, h3, h4, _⟩ =>
    have h1 : a < 65536 := h1
    have h2 : b < 256 := h2
    have h3 : c < 4294967296 := h3
    have h4 : d < 4294967296 := h4
    simp [keyA, kidA]; omega
theorem rowP_A {lf : Bool} {t : TkT} {m i : Nat} (hi : i < m) (hf : fits (rowV lf t i) (bitsR lf)) : rowP lf (keysA lf t m) (locsA lf t m) (kidsA lf t m) i = rowV lf t i := by
  have hk : i < (keysA lf t m).length := by rw [keysA_len]; exact hi
  have ek : (keysA lf t m)[i] = keyA (rowV lf t i) := by simp [keysA]
  cases lf with
  | true =>
    have hl : i < (locsA true t m).length := by simp [locsA]; exact hi
    have el : (locsA true t m)[i] = locA (rowV true t i) := by simp [locsA]
    rw [rowP_leaf hk hl, ek, el]
    exact (fits_leaf hf).symm
  | false =>
    have hl : i < (kidsA false t m).length := by simp [kidsA]; exact hi
    have el : (kidsA false t m)[i] = kidA (rowV false t i) := by simp [kidsA]
    rw [rowP_kid hk hl, ek, el]
    exact (fits_kid hf).symm
theorem ofNat32 {n : Nat} (h : n < 4294967296) : (UInt32.ofNat n).toNat = n := by simp; omega
theorem pageA_sound {f : List UInt8} (hb : (endA f).bad = false) (he : (endA f).e = 0) (hx : (endA f).xs = []) (hr : rightP (pageA f) = true) : f = numsB (natsP (pageA f)) := by
  obtain ⟨h1, h2, h3, h4⟩ := rowT_clean hb he
  obtain ⟨h5, h6, h7, h8⟩ := tk_sound h1 h2 (by decide)
  obtain ⟨h9, h10, h11, h12⟩ := tk_sound h5 h6 (by decide)
  have h13 : f = putB (tkN (tkA f)) ++ (tkS (tkA f) 1).xs := h11
  have e0 : lfA f = decide (tkN (tkA f) = 1) := by unfold lfA; rw [ofNat32 (by omega)]
  have e1 : cntA f = tkN (tkS (tkA f) 1) := by unfold cntA; rw [ofNat32 (by omega)]
  have hm : mA f = tkN (tkS (tkA f) 1) := by
    obtain ⟨-, hs⟩ := rightP_iff.1 hr
    have : (pageA f).keys.length ≤ 8 := by unfold shapeP at hs; split at hs <;> omega
    rw [show (pageA f).keys.length = mA f from keysA_len _ _ _] at this
    unfold mA at this ⊢
    rw [e1] at this ⊢
    omega
  have hrows : ((List.range (mA f)).map (rowV (lfA f) (tk2A f))).flatten = rowsP (lfA f) (pageA f).keys (pageA f).locs (pageA f).kids (mA f) := by
    unfold rowsP
    congr 1
    apply List.map_congr_left
    intro i hi
    exact (rowP_A (List.mem_range.1 hi) (h4 i (List.mem_range.1 hi))).symm
  have h14 : (tk2A f).xs = numsB (rowsP (lfA f) (pageA f).keys (pageA f).locs (pageA f).kids (mA f)) := by
    rw [h3, hrows]
    have : (rowT (lfA f) (tk2A f) (mA f)).xs = [] := hx
    rw [this, List.append_nil]
  unfold natsP
  rw [show (pageA f).keys.length = mA f from keysA_len _ _ _, show (pageA f).leaf = lfA f from rfl, numsB_cons, numsB_cons, ← h14]
  have e2 : (if lfA f = true then 1 else 0) = tkN (tkA f) := by
    rw [e0]
    have : tkN (tkA f) < 2 := h12
    by_cases h : tkN (tkA f) = 1
    · simp [h]
    · have : tkN (tkA f) = 0 := by omega
      simp [this]
  rw [e2, hm]
  have h15 : (tkS (tkA f) 1).xs = putB (tkN (tkS (tkA f) 1)) ++ (tk2A f).xs := h7
  rw [← h15]; exact h13
theorem rowP_fits {p : PageT} (hs : shapeP p) {i : Nat} (hi : i < p.keys.length) : fits (rowP p.leaf p.keys p.locs p.kids i) (bitsR p.leaf) := by
  obtain ⟨lf, ks, ls, ds⟩ := p
  have h1 := ks[i].cart.toNat_lt; have h2 := ks[i].dot.rep.toNat_lt; have h3 := ks[i].dot.seq.toNat_lt
  cases lf with
  | true =>
    have hs := (shapeP_T _ _ _).1 hs
    have hl : i < ls.length := by rw [hs.2.1]; exact hi
    dsimp only
    rw [rowP_leaf hi hl]
    exact ⟨h1, h2, h3, ls[i].seg.toNat_lt, ls[i].at_.toNat_lt, trivial⟩
  | false =>
    have hs := (shapeP_F _ _ _).1 hs
    have hl : i < ds.length := by rw [hs.2.2.1]; exact hi
    dsimp only
    rw [rowP_kid hi hl]
    exact ⟨h1, h2, h3, ds[i].toNat_lt, trivial⟩
theorem pageA_full {p : PageT} {f : List UInt8} (hr : rightP p = true) (hf : f = numsB (natsP p)) : pageA f = p ∧ endA f = ⟨0, [], false⟩ := by
  obtain ⟨hs1, hs2⟩ := rightP_iff.1 hr
  have hn : p.keys.length ≤ 8 := by unfold shapeP at hs2; split at hs2 <;> omega
  have hk : (if p.leaf = true then 1 else 0) < 2 := by split <;> omega
  unfold natsP at hf
  rw [numsB_cons, numsB_cons] at hf
  obtain ⟨a1, a2⟩ := tk_full (t := tkA f) (bits := 1) (n := if p.leaf = true then 1 else 0) rfl rfl hf (by omega) (by omega)
  obtain ⟨a3, a4⟩ := tk_full (t := tkS (tkA f) 1) (bits := 4) (n := p.keys.length) (r := numsB (rowsP p.leaf p.keys p.locs p.kids p.keys.length)) (by rw [a2]) (by rw [a2]) (by rw [a2]) (by omega) (by omega)
  have e0 : lfA f = p.leaf := by
    unfold lfA; rw [a1]; cases p.leaf <;> rfl
  have e1 : cntA f = p.keys.length := by unfold cntA; rw [a3, ofNat32 (by omega)]
  have e2 : mA f = p.keys.length := by unfold mA; rw [e1]; omega
  have e3 : tk2A f = ⟨0, numsB (rowsP p.leaf p.keys p.locs p.kids p.keys.length), false⟩ := a4
  obtain ⟨b1, b2⟩ := rowT_full (lf := p.leaf) (t := tk2A f) (n := p.keys.length) (v := rowP p.leaf p.keys p.locs p.kids) (r := []) (by rw [e3]) (by rw [e3]) (by rw [e3]; simp [rowsP]) (fun i hi => rowP_fits hs2 hi) p.keys.length (Nat.le_refl _)
  refine ⟨?_, ?_⟩
  · unfold pageA
    rw [e0, e2]
    obtain ⟨lf, ks, ls, ds⟩ := p
    dsimp only at b1 hs2 ⊢
    have hks : keysA lf (tk2A f) ks.length = ks := by
      apply List.ext_getElem
      · rw [keysA_len]
      · intro i h1 h2
        have : (keysA lf (tk2A f) ks.length)[i] = keyA (rowV lf (tk2A f) i) := by simp [keysA]
        rw [this, b1 i h2]
        cases lf with
        | true =>
          have hs := (shapeP_T _ _ _).1 hs2
          rw [rowP_leaf h2 (by omega)]; exact keyA_of _ _
        | false =>
          have hs := (shapeP_F _ _ _).1 hs2
          rw [rowP_kid h2 (by omega)]; exact keyA_of _ _
    cases lf with
    | true =>
      have hs := (shapeP_T _ _ _).1 hs2
      have hls : locsA true (tk2A f) ks.length = ls := by
        apply List.ext_getElem
        · simp [locsA]; omega
        · intro i h1 h2
          have : (locsA true (tk2A f) ks.length)[i] = locA (rowV true (tk2A f) i) := by simp [locsA]
          rw [this, b1 i (by omega), rowP_leaf (by omega) h2]; exact locA_of _ _ _ _
      have hds : ds = [] := List.eq_nil_of_length_eq_zero hs.2.2
      rw [hks, hls, hds]; rfl
    | false =>
      have hs := (shapeP_F _ _ _).1 hs2
      have hds : kidsA false (tk2A f) ks.length = ds := by
        apply List.ext_getElem
        · simp [kidsA]; omega
        · intro i h1 h2
          have : (kidsA false (tk2A f) ks.length)[i] = kidA (rowV false (tk2A f) i) := by simp [kidsA]
          rw [this, b1 i (by omega), rowP_kid (by omega) h2]; exact kidA_of _ _ _ _
      have hls : ls = [] := List.eq_nil_of_length_eq_zero hs.2.2.2
      rw [hks, hds, hls]; rfl
  · unfold endA
    rw [e0, e2, b2]; simp [numsB]
theorem wrapB_inj {a b : List UInt8} (ha : a.length < 18446744073709551616) (hb : b.length < 18446744073709551616) (h : wrapB a = wrapB b) : a = b := by
  unfold wrapB fieldB at h
  rw [List.append_assoc, List.append_assoc] at h
  obtain ⟨h1, h2⟩ := putB_app_inj ha hb h
  exact (List.append_inj h2 h1).1
theorem natsP_len {p : PageT} (hr : rightP p = true) : (numsB (natsP p)).length ≤ 462 := by
  obtain ⟨hs1, hs2⟩ := rightP_iff.1 hr
  have hn : p.keys.length ≤ 8 := by unfold shapeP at hs2; split at hs2 <;> omega
  exact numsR_len _ _ _ _ _ _ hn
theorem encP_inj {u v : PageT} (hu : rightP u = true) (hv : rightP v = true) (h : encP u = encP v) : u = v := by
  have h1 := natsP_len hu; have h2 := natsP_len hv
  have h3 := wrapB_inj (by omega) (by omega) h
  rw [← (pageA_full hu rfl).1, h3, (pageA_full hv rfl).1]
theorem firstF_wrap {xs : List UInt8} (hl : xs.length ≤ 4096) (r : List UInt8) : firstF (wrapB xs ++ r) = (xs, (wrapB xs).length, 0) := by
  have hg : getB (wrapB xs ++ r) = (xs.length, (putB xs.length).length, 0) := by
    unfold wrapB fieldB
    rw [List.append_assoc, List.append_assoc]
    exact getB_putB _ (by omega) _
  have hf : (fieldB xs).length = (putB xs.length).length + xs.length := by unfold fieldB; rw [List.length_append]
  have hw : (wrapB xs).length = (putB xs.length).length + xs.length + 4 := by unfold wrapB; rw [List.length_append, hf, sum4_len]
  have ht : (wrapB xs ++ r).take ((putB xs.length).length + xs.length) = fieldB xs := by
    unfold wrapB; rw [List.append_assoc]; exact List.take_left' hf
  have hd : ((wrapB xs ++ r).drop ((putB xs.length).length + xs.length)).take 4 = sum4 (fieldB xs) := by
    unfold wrapB; rw [List.append_assoc, List.drop_left' hf]; exact List.take_left' (sum4_len _)
  unfold firstF
  rw [hg]
  dsimp only
  rw [if_neg (by omega), if_neg (by omega), if_neg (by rw [List.length_append, hw]; omega), ht, hd, if_neg (by simp), hw]
  unfold fieldB
  rw [List.drop_left' rfl]
theorem firstF_ok {b : List UInt8} (h : (firstF b).2.2 = 0) : b.take (firstF b).2.1 = wrapB (firstF b).1 ∧ (firstF b).1.length ≤ 4096 ∧ (firstF b).2.1 ≤ b.length := by
  have hwi := @wrap_iff b
  have hk := getB_le b
  generalize hF : firstF b = F at h ⊢
  unfold firstF at hF
  generalize getB b = G at hF hwi hk
  obtain ⟨n, k, e⟩ := G
  dsimp only at hF hk
  by_cases he : e = 0
  · subst he
    by_cases h1 : 4096 < n
    · rw [if_neg (by omega), if_pos h1] at hF; subst hF; cases h
    · by_cases h2 : b.length < k + n + 4
      · rw [if_neg (by omega), if_neg h1, if_pos h2] at hF; subst hF; cases h
      · by_cases h3 : sum4 (b.take (k + n)) = (b.drop (k + n)).take 4
        · rw [if_neg (by omega), if_neg h1, if_neg h2, if_neg (by simpa using h3)] at hF; subst hF
          dsimp only
          refine ⟨((hwi rfl (by omega)).2 h3).symm, ?_, by omega⟩
          simp; omega
        · rw [if_neg (by omega), if_neg h1, if_neg h2, if_pos h3] at hF; subst hF; cases h
  · rw [if_pos he] at hF; subst hF; exact absurd h he
end Go.Tg

set_option linter.unusedVariables false
set_option linter.unusedSimpArgs false
set_option maxRecDepth 100000
set_option maxHeartbeats 4000000
namespace Go.Tg
open Go Go.Proofs
def zeroP : PageT := ⟨false, [], [], []⟩
def zeroA : PAd := ⟨none, 0, none, 0, none, 0⟩
theorem zeroP_R (h : FH) : PgR h zeroP zeroA := ⟨Sl.nil _ _, Sl.nil _ _, Sl.nil _ _⟩
open Classical in
noncomputable def decP (b : List UInt8) : PageT × Int := if h : ∃ p, rightP p = true ∧ encP p = b then (h.choose, 0) else (zeroP, 15)
def DecP (b : List UInt8) (x : PageT) (e : Int) : Prop := (e = 0 ∧ rightP x = true ∧ encP x = b) ∨ (e = 15 ∧ x = zeroP ∧ ∀ u, rightP u = true → encP u ≠ b)
theorem DecP.unique {b : List UInt8} {x y : PageT} {e f : Int} (h : DecP b x e) (k : DecP b y f) : x = y ∧ e = f := by
  rcases h with ⟨h1, h2, h3⟩ | ⟨h1, h2, h3⟩ <;> rcases k with ⟨k1, k2, k3⟩ | ⟨k1, k2, k3⟩
  · exact ⟨encP_inj h2 k2 (h3.trans k3.symm), by omega⟩
  · exact absurd h3 (k3 x h2)
  · exact absurd k3 (h3 y k2)
  · exact ⟨h2.trans k2.symm, by omega⟩
theorem decP_spec (b : List UInt8) : DecP b (decP b).1 (decP b).2 := by
  unfold decP
  split
  · rename_i h; exact .inl ⟨rfl, h.choose_spec.1, h.choose_spec.2⟩
  · rename_i h; exact .inr ⟨rfl, rfl, fun u hu e => h ⟨u, hu, e⟩⟩
theorem decP_eq {b : List UInt8} {x : PageT} {e : Int} (h : DecP b x e) : decP b = (x, e) := by
  obtain ⟨h1, h2⟩ := h.unique (decP_spec b)
  exact Prod.ext h1.symm h2.symm
theorem decP_enc {p : PageT} (h : rightP p = true) : decP (encP p) = (p, 0) := decP_eq (.inl ⟨rfl, h, rfl⟩)
theorem encP_len {p : PageT} (h : rightP p = true) : (encP p).length ≤ 500 := by
  have h1 := natsP_len h
  have h2 := wrapB_len (numsB (natsP p))
  unfold encP; omega
theorem firstF_enc {p : PageT} {b : List UInt8} (h : rightP p = true) (e : encP p = b) : firstF b = (numsB (natsP p), b.length, 0) := by
  have h1 := natsP_len h
  have := firstF_wrap (xs := numsB (natsP p)) (by omega) []
  rw [List.append_nil, show wrapB (numsB (natsP p)) = encP p from rfl, e] at this
  exact this
theorem decP_A {b : List UInt8} {f : List UInt8} {k : Nat} (hF : firstF b = (f, k, 0)) (hk : k = b.length) : DecP b (if (endA f).bad = false ∧ (endA f).e = 0 ∧ (endA f).xs = [] ∧ rightP (pageA f) = true then pageA f else zeroP) (if (endA f).bad = false ∧ (endA f).e = 0 ∧ (endA f).xs = [] ∧ rightP (pageA f) = true then 0 else 15) := by
  have h1 := firstF_ok (b := b) (by rw [hF])
  rw [hF] at h1
  dsimp only at h1
  by_cases hc : (endA f).bad = false ∧ (endA f).e = 0 ∧ (endA f).xs = [] ∧ rightP (pageA f) = true
  · rw [if_pos hc, if_pos hc]
    refine .inl ⟨rfl, hc.2.2.2, ?_⟩
    have := pageA_sound hc.1 hc.2.1 hc.2.2.1 hc.2.2.2
    unfold encP
    rw [← this, ← h1.1, hk, List.take_length]
  · rw [if_neg hc, if_neg hc]
    refine .inr ⟨rfl, rfl, fun u hu e => hc ?_⟩
    rw [firstF_enc hu e] at hF
    injection hF with h2 _
    obtain ⟨h3, h4⟩ := pageA_full hu h2.symm
    rw [h3, h4]
    exact ⟨rfl, rfl, rfl, hu⟩
theorem decP_no {b : List UInt8} (h : ¬ ((firstF b).2.2 = 0 ∧ (firstF b).2.1 = b.length)) : DecP b zeroP 15 :=
  .inr ⟨rfl, rfl, fun u hu e => h (by rw [firstF_enc hu e]; exact ⟨rfl, rfl⟩)⟩
theorem u16_2 (n : Nat) : Value.int .u16 (IntKind.u16.wrap ((UInt32.ofNat n).toNat : Int)) = .int .u16 (UInt16.ofNat n).toNat := by
  congr 1
  simp [IntKind.wrap, IntKind.bits, IntKind.signed]
theorem u8_2 (n : Nat) : Value.int .u8 (IntKind.u8.wrap ((UInt32.ofNat n).toNat : Int)) = .int .u8 (UInt8.ofNat n).toNat := by
  congr 1
  simp [IntKind.wrap, IntKind.bits, IntKind.signed]
theorem rows_len3 (ks : List KeyT) : ∀ r, r ∈ ks.map cKey → r.length = 3 := by simp [cKey]
theorem rows_len2 (ks : List LocT) : ∀ r, r ∈ ks.map cLoc → r.length = 2 := by simp [cLoc]
theorem rows_len1 (ks : List UInt32) : ∀ r, r ∈ ks.map cKid → r.length = 1 := by simp [cKid]
theorem page_Decode (h0 : FH) (a : Option Addr) (c : Nat) (b : List UInt8) (w : World) (hs : Sat h0 w) (hT : Half h0) (hr : BS h0 a c b) (hb : b.length ≤ 1000000) :
    Spec Tryd.prog 20 #[.slice a b.length c] w [] h0 (fun v h' L' => ∃ A, v = .tuple #[.agg (pgV (decP b).1 A).toArray, .int .i64 (decP b).2] ∧ L' = [] ∧ PgR h' (decP b).1 A) := by
  have H := St.start hs
  have hFF := frame_First h0 a c b
  have hA := @decP_A b
  have hN := @decP_no b
  have hok := @firstF_ok b
  generalize firstF b = F at hFF hA hN hok
  obtain ⟨f, k, e⟩ := F
  dsimp only at hFF hN hok
  have hz : DecP b zeroP 15 → decP b = (zeroP, 15) := decP_eq
  unfold Spec
  refine calls_of Tryd.func20 rfl Tryd.ntmps20 (by simp) ?_
  by_cases he : e = 0
  · subst he
    by_cases hk : k = b.length
    · have hA := hA rfl hk
      obtain ⟨_, hf4, _⟩ := hok rfl
      repeat' (first | ((first | refine WL.p rfl ?_ | refine WL.u ?_ | refine WL.g rfl rfl ?_ | refine WL.gu rfl ?_); first | (refine opk 1 rfl ?_; (refine ost_Sk H rfl (hFF _ H.sat hT hr (by omega)) rfl ?_; clear H; rintro vk wk hfk Lk ⟨a1, c1, rfl, e9, rfl⟩ hle H; simp only [List.cons_append, List.nil_append] at H)) | refine pvQ ?_ | (refine opk 3 rfl ?_; (refine ost_cmp rfl rfl rfl rfl (fun hc => ?_) (fun hc => ?_) <;> (simp only [cmpP] at hc; try exact prIQ))) | (refine opk 4 rfl ?_; (refine ost_cmp rfl rfl rfl rfl (fun hc => ?_) (fun hc => ?_) <;> (simp only [cmpP] at hc; try exact prIQ))) | (refine opk 8 rfl ?_; first | (refine ost_store1 H rfl rfl vlQ gvQ ixQ (by first | decide | (simp; omega) | (simp; done) | omega) ?_; clear H; intro wk H; simp only [List.set_cons_zero, List.set_cons_succ, Nat.reduceAdd] at H) | (refine ost_storeW H rfl rfl rfl rfl lQ ixQ lQ okQ ?_; clear H; intro wk H; simp only [List.set_cons_zero, List.set_cons_succ, Nat.reduceAdd] at H)) | (refine opk 9 rfl ?_; first | (refine ost_boxq H rfl ?_; clear H; intro bk wk H) | (refine ost_allocA H rfl ?_; clear H; intro bk wk H) | (refine ost_build1 H rfl rfl rfl evQ lsQ rfl ?_; clear H; intro bk wk H))) | refine Wc.seq ?_ | refine then_n ?_ | refine WL.nil ?_ | refine Wc.region ?_ | refine Wc.block ?_ | refine then_r ?_ | refine then_e ?_ | refine inb_e rfl ?_ | refine inb_o rfl ?_ | refine inb_n ?_ | refine inb_r ?_ | refine Wc.skip ?_ | refine Wc.exit ?_ | refine Wc.ret ?_ | refine Wc.cond_true rfl ?_ | refine Wc.cond_false rfl ?_ | (refine Wc.drawn (id := 16) 5 (by kernel_rfl) ?_) | refine WL.skp rfl rfl ?_ | refine WL.sku rfl ?_ | (refine rgs_nil ?_; intro vs wk hE; replace H := H.ext hE; clear hE) | refine RGs.skp (fun _ => rfl) rfl ?_ | (refine RGs.bq (fun _ => rfl) rfl (by intro vs w hE hP; have H := H.ext hE; first | exact dbQ | fail) (fun hc => ?_) (fun hc => ?_) <;> ((try simp only [cmpP, decide_eq_true_eq, decide_eq_false_iff_not, dcd_iff, dcd_no] at hc); try exact prDQ)) | refine RGs.pq (fun _ => rfl) rfl (by intro vs w hE hP; have H := H.ext hE; first | exact dvQ | fail) ?_)
      replace e9 := e9.symm
      subst e9
      obtain ⟨a6, c6, h6, e6, hle6, hr6, H⟩ := H.freeze8
      cases e6
      repeat' (first | ((first | refine WL.p rfl ?_ | refine WL.u ?_ | refine WL.g rfl rfl ?_ | refine WL.gu rfl ?_); first | (refine opk 1 rfl ?_; (refine ost_Sk H rfl (pack_Read _ _ _ _ _ H.sat hr6 (by omega)) rfl ?_; clear H; rintro vk wk hfk Lk ⟨b1, a2, c2, rfl, hr2, rfl⟩ hle H; simp only [List.cons_append, List.nil_append] at H)) | refine pvQ ?_ | (refine opk 3 rfl ?_; (refine ost_cmp rfl rfl rfl rfl (fun hc => ?_) (fun hc => ?_) <;> (simp only [cmpP] at hc; try exact prIQ))) | (refine opk 4 rfl ?_; (refine ost_cmp rfl rfl rfl rfl (fun hc => ?_) (fun hc => ?_) <;> (simp only [cmpP] at hc; try exact prIQ))) | (refine opk 8 rfl ?_; first | (refine ost_store1 H rfl rfl vlQ gvQ ixQ (by first | decide | (simp; omega) | (simp; done) | omega) ?_; clear H; intro wk H; simp only [List.set_cons_zero, List.set_cons_succ, Nat.reduceAdd] at H) | (refine ost_storeW H rfl rfl rfl rfl lQ ixQ lQ okQ ?_; clear H; intro wk H; simp only [List.set_cons_zero, List.set_cons_succ, Nat.reduceAdd] at H)) | (refine opk 9 rfl ?_; first | (refine ost_boxq H rfl ?_; clear H; intro bk wk H) | (refine ost_allocA H rfl ?_; clear H; intro bk wk H) | (refine ost_build1 H rfl rfl rfl evQ lsQ rfl ?_; clear H; intro bk wk H))) | refine Wc.seq ?_ | refine then_n ?_ | refine WL.nil ?_ | refine Wc.region ?_ | refine Wc.block ?_ | refine then_r ?_ | refine then_e ?_ | refine inb_e rfl ?_ | refine inb_o rfl ?_ | refine inb_n ?_ | refine inb_r ?_ | refine Wc.skip ?_ | refine Wc.exit ?_ | refine Wc.ret ?_ | refine Wc.cond_true rfl ?_ | refine Wc.cond_false rfl ?_ | (refine Wc.drawn (id := 16) 5 (by kernel_rfl) ?_) | refine WL.skp rfl rfl ?_ | refine WL.sku rfl ?_ | (refine rgs_nil ?_; intro vs wk hE; replace H := H.ext hE; clear hE) | refine RGs.skp (fun _ => rfl) rfl ?_ | (refine RGs.bq (fun _ => rfl) rfl (by intro vs w hE hP; have H := H.ext hE; first | exact dbQ | fail) (fun hc => ?_) (fun hc => ?_) <;> ((try simp only [cmpP, decide_eq_true_eq, decide_eq_false_iff_not, dcd_iff, dcd_no] at hc); try exact prDQ)) | refine RGs.pq (fun _ => rfl) rfl (by intro vs w hE hP; have H := H.ext hE; first | exact dvQ | fail) ?_)
      obtain ⟨bp, ebp⟩ := H.nameB idx0
      subst ebp
      obtain ⟨bt, ebt⟩ := H.nameB idx1
      subst ebt
      obtain ⟨b2, eb2⟩ := H.nameB idx3
      subst eb2
      replace H : St w [] h0 hfk [tkp bt b1 (tkA f) a2 c2, .blk bp (.cells (pgL false 0 0 0 none 0 none 0 none 0).toArray 59 (0, 0)), .blk b2 (.cells (pgL false 0 0 0 none 0 none 0 none 0).toArray 59 (0, 0))] wk := (((H.front 1 rfl).front 2 rfl).front 1 rfl).join
      replace hr2 : BS hfk a2 c2 (tkA f).xs := hr2
      repeat' (first | ((first | refine WL.p rfl ?_ | refine WL.u ?_ | refine WL.g rfl rfl ?_ | refine WL.gu rfl ?_); first | (refine opk 1 rfl ?_; first | (refine ost_H (A := tkp _ _ _ _ _) H rfl (by (exact ixQ)) (fun HO => tkp_num 1 _ _ _ _ _ _ _ HO (by assumption) (by decide)) rfl ?_; clear H; rintro vk wk hfk Lk ⟨rfl, rfl, a2, c2, hr2, rfl⟩ hle H; simp only [List.cons_append, List.nil_append, List.eraseIdx_cons_zero, List.eraseIdx_cons_succ] at H) | (refine ost_H (A := tkp _ _ _ _ _) H rfl (by (exact ixQ)) (fun HO => tkp_num 4 _ _ _ _ _ _ _ HO (by assumption) (by decide)) rfl ?_; clear H; rintro vk wk hfk Lk ⟨rfl, rfl, a2, c2, hr2, rfl⟩ hle H; simp only [List.cons_append, List.nil_append, List.eraseIdx_cons_zero, List.eraseIdx_cons_succ] at H)) | refine pvQ ?_ | (refine opk 3 rfl ?_; (refine ost_cmp rfl rfl rfl rfl (fun hc => ?_) (fun hc => ?_) <;> (simp only [cmpP] at hc; try exact prIQ))) | (refine opk 4 rfl ?_; (refine ost_cmp rfl rfl rfl rfl (fun hc => ?_) (fun hc => ?_) <;> (simp only [cmpP] at hc; try exact prIQ))) | (refine opk 8 rfl ?_; first | (refine ost_store1 H rfl rfl vlQ gvQ ixQ (by first | decide | (simp; omega) | (simp; done) | omega) ?_; clear H; intro wk H; simp only [List.set_cons_zero, List.set_cons_succ, Nat.reduceAdd] at H) | (refine ost_storeW H rfl rfl rfl rfl lQ ixQ lQ okQ ?_; clear H; intro wk H; simp only [List.set_cons_zero, List.set_cons_succ, Nat.reduceAdd] at H)) | (refine opk 9 rfl ?_; first | (refine ost_boxq H rfl ?_; clear H; intro bk wk H) | (refine ost_allocA H rfl ?_; clear H; intro bk wk H) | (refine ost_build1 H rfl rfl rfl evQ lsQ rfl ?_; clear H; intro bk wk H))) | refine Wc.seq ?_ | refine then_n ?_ | refine WL.nil ?_ | refine Wc.region ?_ | refine Wc.block ?_ | refine then_r ?_ | refine then_e ?_ | refine inb_e rfl ?_ | refine inb_o rfl ?_ | refine inb_n ?_ | refine inb_r ?_ | refine Wc.skip ?_ | refine Wc.exit ?_ | refine Wc.ret ?_ | refine Wc.cond_true rfl ?_ | refine Wc.cond_false rfl ?_ | (refine Wc.drawn (id := 16) 5 (by kernel_rfl) ?_) | refine WL.skp rfl rfl ?_ | refine WL.sku rfl ?_ | (refine rgs_nil ?_; intro vs wk hE; replace H := H.ext hE; clear hE) | refine RGs.skp (fun _ => rfl) rfl ?_ | (refine RGs.bq (fun _ => rfl) rfl (by intro vs w hE hP; have H := H.ext hE; first | exact dbQ | fail) (fun hc => ?_) (fun hc => ?_) <;> ((try simp only [cmpP, decide_eq_true_eq, decide_eq_false_iff_not, dcd_iff, dcd_no] at hc); try exact prDQ)) | refine RGs.pq (fun _ => rfl) rfl (by intro vs w hE hP; have H := H.ext hE; first | exact dvQ | fail) ?_)
      · have e0 : lfA f = true := by unfold lfA; rw [decide_eq_true_eq]; omega
        replace H : St w [] h0 hfk [ownR (.slice none (([] : List KeyT).map cKey).length 0) 66 3 (([] : List KeyT).map cKey), ownR (.slice none (([] : List LocT).map cLoc).length 0) 68 2 (([] : List LocT).map cLoc), tkp bt b1 (tk2A f) a2 c2, .blk bp (.cells (pgL true 0 0 0 none 0 none 0 none 0).toArray 59 (0, 0)), .blk b2 (.cells (pgL false 0 0 0 none 0 none 0 none 0).toArray 59 (0, 0))] wk := (H.nilOwn 68 2).nilOwn 66 3
        replace hr2 : BS hfk a2 c2 (tk2A f).xs := hr2
        have hm9 : ((min ((UInt32.ofNat (tkN (tkS (tkA f) 1))).toNat : Int) 9)) = ((mA f : Nat) : Int) := by unfold mA cntA; omega
        have hm8 : mA f ≤ 9 := by unfold mA; omega
        refine Wc.loopE (fun s0 m s w' => ∃ (k : Nat) (ak : Option Addr) (ck : Nat) (al : Option Addr) (cl : Nat) (a3 : Option Addr) (c3 : Nat), m = mA f - k ∧ k ≤ mA f ∧ Agree [10, 11, 39, 40, 41, 42, 43, 44, 45, 46, 47, 48, 49, 50, 51, 52, 53, 54, 55, 56, 57, 58, 59, 60, 61, 62, 63, 64, 65, 66, 67, 68, 69, 70, 71, 72, 73, 74, 75, 76, 77, 78, 79, 80, 81, 82] s s0 ∧ s 39 = .int .u32 k ∧ BS hfk a3 c3 (rowT true (tk2A f) k).xs ∧
          St w [] h0 hfk [ownR (.slice ak ((keysA true (tk2A f) k).map cKey).length ck) 66 3 ((keysA true (tk2A f) k).map cKey), ownR (.slice al ((locsA true (tk2A f) k).map cLoc).length cl) 68 2 ((locsA true (tk2A f) k).map cLoc), tkp bt b1 (rowT true (tk2A f) k) a3 c3,
            .blk bp (.cells [Value.bool true, .slice ak ((keysA true (tk2A f) k).map cKey).length ck, .slice al ((locsA true (tk2A f) k).map cLoc).length cl, .slice none 0 0].toArray 59 (0, 0)), .blk b2 (.cells (pgL false 0 0 0 none 0 none 0 none 0).toArray 59 (0, 0))] w') (mA f) ⟨0, _, _, _, _, _, _, rfl, by omega, Agree.refl _ _, rfl, hr2, H⟩ ?_
        clear H hr2
        rintro m s w' ⟨k, ak, ck, al, cl, a3, c3, rfl, hk9, hA9, e1, hr3, H⟩
        obtain ⟨j, rfl⟩ := hA9.env1 e1
        clear hA9 e1
        have hxl := rowT_len true (tk2A f) k
        have hKl : ((keysA true (tk2A f) k).map cKey).length = k := by rw [List.length_map, keysA_len]
        have hLl : ((locsA true (tk2A f) k).map cLoc).length = k := by simp [locsA]
        by_cases hlt : k < mA f
        · have hT1 : rowT true (tk2A f) (k + 1) = tkS (tkS (tkS (tkS (tkS (rowT true (tk2A f) k) 16) 8) 32) 32) 32 := rfl
          have hV1 : rowV true (tk2A f) k = [tkN (rowT true (tk2A f) k), tkN (tkS (rowT true (tk2A f) k) 16), tkN (tkS (tkS (rowT true (tk2A f) k) 16) 8), tkN (tkS (tkS (tkS (rowT true (tk2A f) k) 16) 8) 32), tkN (tkS (tkS (tkS (tkS (rowT true (tk2A f) k) 16) 8) 32) 32)] := rfl
          have hK1 := keysA_succ true (tk2A f) k
          have hL1 := locsA_succ (tk2A f) k
          rw [hV1] at hK1 hL1
          generalize rowT true (tk2A f) k = T at H hr3 hT1 hK1 hL1 hxl
          generalize keysA true (tk2A f) k = KS at H hK1 hKl
          generalize locsA true (tk2A f) k = LS at H hL1 hLl
          have hrk := rows_len3 KS
          have hrl := rows_len2 LS
          repeat' (first | ((first | refine WL.p rfl ?_ | refine WL.u ?_ | refine WL.g rfl rfl ?_ | refine WL.gu rfl ?_); first | (refine opk 1 rfl ?_; first | (refine ost_H (A := tkp _ _ _ _ _) H rfl (by (exact ixQ)) (fun HO => tkp_num 16 _ _ _ _ _ _ _ HO (by assumption) (by decide)) rfl ?_; clear H; rintro vk wk hfk Lk ⟨rfl, rfl, a2, c2, hr2, rfl⟩ hle H; simp only [List.cons_append, List.nil_append, List.eraseIdx_cons_zero, List.eraseIdx_cons_succ] at H) | (refine ost_H (A := tkp _ _ _ _ _) H rfl (by (exact ixQ)) (fun HO => tkp_num 8 _ _ _ _ _ _ _ HO (by assumption) (by decide)) rfl ?_; clear H; rintro vk wk hfk Lk ⟨rfl, rfl, a2, c2, hr2, rfl⟩ hle H; simp only [List.cons_append, List.nil_append, List.eraseIdx_cons_zero, List.eraseIdx_cons_succ] at H) | (refine ost_H (A := tkp _ _ _ _ _) H rfl (by (exact ixQ)) (fun HO => tkp_num 32 _ _ _ _ _ _ _ HO (by assumption) (by decide)) rfl ?_; clear H; rintro vk wk hfk Lk ⟨rfl, rfl, a2, c2, hr2, rfl⟩ hle H; simp only [List.cons_append, List.nil_append, List.eraseIdx_cons_zero, List.eraseIdx_cons_succ] at H) | (refine ost_appR (rows := KS.map cKey) (row := [Value.int .u16 (IntKind.u16.wrap ((UInt32.ofNat (tkN T)).toNat : Int)), Value.int .u8 (IntKind.u8.wrap ((UInt32.ofNat (tkN (tkS T 16))).toNat : Int)), Value.int .u32 ((UInt32.ofNat (tkN (tkS (tkS T 16) 8))).toNat : Int)]) H rfl rfl rfl (by (exact ixQ)) (by (exact ixQ)) (by rfl) (by first | simp; done | exact Nat.succ_pos _) rfl (allOne_of rfl) rfl (by omega) ?_; clear H; intro aa ca wk H; simp only [List.set_cons_zero, List.set_cons_succ] at H) | (refine ost_appR (rows := LS.map cLoc) (row := [Value.int .u32 ((UInt32.ofNat (tkN (tkS (tkS (tkS T 16) 8) 32))).toNat : Int), Value.int .u32 ((UInt32.ofNat (tkN (tkS (tkS (tkS (tkS T 16) 8) 32) 32))).toNat : Int)]) H rfl rfl rfl (by (exact ixQ)) (by (exact ixQ)) (by rfl) (by first | simp; done | exact Nat.succ_pos _) rfl (allOne_of rfl) rfl (by omega) ?_; clear H; intro aa ca wk H; simp only [List.set_cons_zero, List.set_cons_succ] at H)) | (refine opk 9 rfl ?_; first | (refine ost_buildR (rows := [[Value.int .u16 (IntKind.u16.wrap ((UInt32.ofNat (tkN T)).toNat : Int)), Value.int .u8 (IntKind.u8.wrap ((UInt32.ofNat (tkN (tkS T 16))).toNat : Int)), Value.int .u32 ((UInt32.ofNat (tkN (tkS (tkS T 16) 8))).toNat : Int)]]) H rfl (by decide) rfl (by rfl) (evP1 vxQ) (.cons rfl .nil) rfl (fun r hr => by rw [List.mem_singleton.1 hr]; rfl) ?_; clear H; intro bk wk H) | (refine ost_buildR (rows := [[Value.int .u32 ((UInt32.ofNat (tkN (tkS (tkS (tkS T 16) 8) 32))).toNat : Int), Value.int .u32 ((UInt32.ofNat (tkN (tkS (tkS (tkS (tkS T 16) 8) 32) 32))).toNat : Int)]]) H rfl (by decide) rfl (by rfl) (evP1 vxQ) (.cons rfl .nil) rfl (fun r hr => by rw [List.mem_singleton.1 hr]; rfl) ?_; clear H; intro bk wk H)) | refine pvQ ?_ | (refine opk 3 rfl ?_; (refine ost_cmp rfl rfl rfl rfl (fun hc => ?_) (fun hc => ?_) <;> (simp only [cmpP] at hc; try exact prIQ))) | (refine opk 4 rfl ?_; (refine ost_cmp rfl rfl rfl rfl (fun hc => ?_) (fun hc => ?_) <;> (simp only [cmpP] at hc; try exact prIQ))) | (refine opk 8 rfl ?_; first | (refine ost_store1 H rfl rfl vlQ gvQ ixQ (by first | decide | (simp; omega) | (simp; done) | omega) ?_; clear H; intro wk H; simp only [List.set_cons_zero, List.set_cons_succ, Nat.reduceAdd] at H) | (refine ost_storeW H rfl rfl rfl rfl lQ ixQ lQ okQ ?_; clear H; intro wk H; simp only [List.set_cons_zero, List.set_cons_succ, Nat.reduceAdd] at H)) | (refine opk 9 rfl ?_; first | (refine ost_boxq H rfl ?_; clear H; intro bk wk H) | (refine ost_allocA H rfl ?_; clear H; intro bk wk H) | (refine ost_build1 H rfl rfl rfl evQ lsQ rfl ?_; clear H; intro bk wk H))) | refine Wc.seq ?_ | refine then_n ?_ | refine WL.nil ?_ | refine Wc.region ?_ | refine Wc.block ?_ | refine then_r ?_ | refine then_e ?_ | refine inb_e rfl ?_ | refine inb_o rfl ?_ | refine inb_n ?_ | refine inb_r ?_ | refine Wc.skip ?_ | refine Wc.exit ?_ | refine Wc.ret ?_ | refine Wc.cond_true rfl ?_ | refine Wc.cond_false rfl ?_ | (refine Wc.drawn (id := 16) 5 (by kernel_rfl) ?_) | refine WL.skp rfl rfl ?_ | refine WL.sku rfl ?_ | (refine rgs_nil ?_; intro vs wk hE; replace H := H.ext hE; clear hE) | refine RGs.skp (fun _ => rfl) rfl ?_ | (refine RGs.bq (fun _ => rfl) rfl (by intro vs w hE hP; have H := H.ext hE; first | exact dbQ | fail) (fun hc => ?_) (fun hc => ?_) <;> ((try simp only [cmpP, decide_eq_true_eq, decide_eq_false_iff_not, dcd_iff, dcd_no] at hc); try exact prDQ)) | refine RGs.pq (fun _ => rfl) rfl (by intro vs w hE hP; have H := H.ext hE; first | exact dvQ | fail) ?_)
          have hKr : (keysA true (tk2A f) (k + 1)).map cKey = KS.map cKey ++ [[Value.int .u16 (IntKind.u16.wrap ((UInt32.ofNat (tkN T)).toNat : Int)), Value.int .u8 (IntKind.u8.wrap ((UInt32.ofNat (tkN (tkS T 16))).toNat : Int)), Value.int .u32 ((UInt32.ofNat (tkN (tkS (tkS T 16) 8))).toNat : Int)]] := by rw [hK1, List.map_append, u16_2, u8_2]; rfl
          have hLr : (locsA true (tk2A f) (k + 1)).map cLoc = LS.map cLoc ++ [[Value.int .u32 ((UInt32.ofNat (tkN (tkS (tkS (tkS T 16) 8) 32))).toNat : Int), Value.int .u32 ((UInt32.ofNat (tkN (tkS (tkS (tkS (tkS T 16) 8) 32) 32))).toNat : Int)]] := by rw [hL1, List.map_append]; rfl
          rw [← hKr, ← hLr, ← hT1] at H
          rw [← hT1] at hr2
          exact ⟨mA f - (k + 1), by omega, k + 1, _, _, _, _, a2, c2, rfl, by omega, by (repeat' (first | exact Agree.refl _ _ | exact Agree.havoc | refine Agree.upd rfl ?_ | refine Agree.hav2 rfl ?_)), rfl, hr2, H.picks [5, 6, 1, 7, 8] rfl (by decide)⟩
        · obtain rfl : k = mA f := by omega
          have eT : rowT true (tk2A f) (mA f) = endA f := by unfold endA; rw [e0]
          have eP : pageA f = ⟨true, keysA true (tk2A f) (mA f), locsA true (tk2A f) (mA f), []⟩ := by unfold pageA; rw [e0]; rfl
          rw [eT] at H hr3
          rw [eP] at hA
          clear eP eT hxl
          generalize endA f = T at H hr3 hA
          generalize keysA true (tk2A f) (mA f) = KS at H hA hKl
          generalize locsA true (tk2A f) (mA f) = LS at H hA hLl
          obtain ⟨ak, ck, h7, e7, hle7, hK7, H⟩ := H.freezeR (rows_len3 KS)
          cases e7
          obtain ⟨al, cl, h8, e8, hle8, hL8, H⟩ := H.freezeR (rows_len2 LS)
          cases e8
          have hPg : PgR h8 ⟨true, KS, LS, []⟩ ⟨ak, ck, al, cl, none, 0⟩ := ⟨hK7.mono hle8, hL8, Sl.nil _ _⟩
          simp only [List.length_map] at H
          replace H := H.split
          obtain ⟨te, txs, tbad⟩ := T
          dsimp only at hA H
          cases tbad with
          | true =>
            rw [if_neg (by simp), if_neg (by simp)] at hA
            have hD := decP_eq hA
            repeat' (first | ((first | refine WL.p rfl ?_ | refine WL.u ?_ | refine WL.g rfl rfl ?_ | refine WL.gu rfl ?_); first | refine pvQ ?_ | (refine opk 3 rfl ?_; (refine ost_cmp rfl rfl rfl rfl (fun hc => ?_) (fun hc => ?_) <;> (simp only [cmpP] at hc; try exact prIQ))) | (refine opk 4 rfl ?_; (refine ost_cmp rfl rfl rfl rfl (fun hc => ?_) (fun hc => ?_) <;> (simp only [cmpP] at hc; try exact prIQ))) | (refine opk 8 rfl ?_; first | (refine ost_store1 H rfl rfl vlQ gvQ ixQ (by first | decide | (simp; omega) | (simp; done) | omega) ?_; clear H; intro wk H; simp only [List.set_cons_zero, List.set_cons_succ, Nat.reduceAdd] at H) | (refine ost_storeW H rfl rfl rfl rfl lQ ixQ lQ okQ ?_; clear H; intro wk H; simp only [List.set_cons_zero, List.set_cons_succ, Nat.reduceAdd] at H)) | (refine opk 9 rfl ?_; first | (refine ost_boxq H rfl ?_; clear H; intro bk wk H) | (refine ost_allocA H rfl ?_; clear H; intro bk wk H) | (refine ost_build1 H rfl rfl rfl evQ lsQ rfl ?_; clear H; intro bk wk H))) | refine Wc.seq ?_ | refine then_n ?_ | refine WL.nil ?_ | refine Wc.region ?_ | refine Wc.block ?_ | refine then_r ?_ | refine then_e ?_ | refine inb_e rfl ?_ | refine inb_o rfl ?_ | refine inb_n ?_ | refine inb_r ?_ | refine Wc.skip ?_ | refine Wc.exit ?_ | refine Wc.ret ?_ | refine Wc.cond_true rfl ?_ | refine Wc.cond_false rfl ?_ | (refine Wc.drawn (id := 16) 5 (by kernel_rfl) ?_) | refine WL.skp rfl rfl ?_ | refine WL.sku rfl ?_ | (refine rgs_nil ?_; intro vs wk hE; replace H := H.ext hE; clear hE) | refine RGs.skp (fun _ => rfl) rfl ?_ | (refine RGs.bq (fun _ => rfl) rfl (by intro vs w hE hP; have H := H.ext hE; first | exact dbQ | fail) (fun hc => ?_) (fun hc => ?_) <;> ((try simp only [cmpP, decide_eq_true_eq, decide_eq_false_iff_not, dcd_iff, dcd_no] at hc); try exact prDQ)) | refine RGs.pq (fun _ => rfl) rfl (by intro vs w hE hP; have H := H.ext hE; first | exact dvQ | fail) ?_)
            exact fn_ret2 (v2 := .int _ _) rfl (rv_cellA rfl rfl H.bI lQ) rfl ⟨_, _, H.pick0, zeroA, by rw [hD]; rfl, rfl, by rw [hD]; exact zeroP_R _⟩
          | false =>
            cases hR : rightP ⟨true, KS, LS, []⟩ with
            | false =>
              rw [hR, if_neg (by simp), if_neg (by simp)] at hA
              have hD := decP_eq hA
              have hRR : ∀ w, Sat h8 w → SpecV Tryd.prog 42 #[.agg (pgV ⟨true, KS, LS, []⟩ ⟨ak, ck, al, cl, none, 0⟩).toArray] w (.bool false) := fun w hs => by
                have := page_Right _ _ h8 w hs hPg; rw [hR] at this; exact this
              repeat' (first | ((first | refine WL.p rfl ?_ | refine WL.u ?_ | refine WL.g rfl rfl ?_ | refine WL.gu rfl ?_); first | (refine opk 1 rfl ?_; first | (refine ost_VB H rfl (rd_Done _ _ _ _ _ _ H.bI) rfl ?_ ?_ <;> (intro hc; (try (first | exact (bcon hc ‹_›).elim | exact (bcon ‹_› hc).elim)); try (clear H; intro wk H))) | (refine ost_V H rfl (hRR _ H.sat) rfl ?_; clear H; intro wk H)) | refine pvQ ?_ | (refine opk 3 rfl ?_; (refine ost_cmp rfl rfl rfl rfl (fun hc => ?_) (fun hc => ?_) <;> (simp only [cmpP] at hc; try exact prIQ))) | (refine opk 4 rfl ?_; (refine ost_cmp rfl rfl rfl rfl (fun hc => ?_) (fun hc => ?_) <;> (simp only [cmpP] at hc; try exact prIQ))) | (refine opk 8 rfl ?_; first | (refine ost_store1 H rfl rfl vlQ gvQ ixQ (by first | decide | (simp; omega) | (simp; done) | omega) ?_; clear H; intro wk H; simp only [List.set_cons_zero, List.set_cons_succ, Nat.reduceAdd] at H) | (refine ost_storeW H rfl rfl rfl rfl lQ ixQ lQ okQ ?_; clear H; intro wk H; simp only [List.set_cons_zero, List.set_cons_succ, Nat.reduceAdd] at H)) | (refine opk 9 rfl ?_; first | (refine ost_boxq H rfl ?_; clear H; intro bk wk H) | (refine ost_allocA H rfl ?_; clear H; intro bk wk H) | (refine ost_build1 H rfl rfl rfl evQ lsQ rfl ?_; clear H; intro bk wk H))) | refine Wc.seq ?_ | refine then_n ?_ | refine WL.nil ?_ | refine Wc.region ?_ | refine Wc.block ?_ | refine then_r ?_ | refine then_e ?_ | refine inb_e rfl ?_ | refine inb_o rfl ?_ | refine inb_n ?_ | refine inb_r ?_ | refine Wc.skip ?_ | refine Wc.exit ?_ | refine Wc.ret ?_ | refine Wc.cond_true rfl ?_ | refine Wc.cond_false rfl ?_ | (refine Wc.drawn (id := 16) 5 (by kernel_rfl) ?_) | refine WL.skp rfl rfl ?_ | refine WL.sku rfl ?_ | (refine rgs_nil ?_; intro vs wk hE; replace H := H.ext hE; clear hE) | refine RGs.skp (fun _ => rfl) rfl ?_ | (refine RGs.bq (fun _ => rfl) rfl (by intro vs w hE hP; have H := H.ext hE; first | exact dbQ | fail) (fun hc => ?_) (fun hc => ?_) <;> ((try simp only [cmpP, decide_eq_true_eq, decide_eq_false_iff_not, dcd_iff, dcd_no] at hc); try exact prDQ)) | refine RGs.pq (fun _ => rfl) rfl (by intro vs w hE hP; have H := H.ext hE; first | exact dvQ | fail) ?_)
              all_goals exact fn_ret2 (v2 := .int _ _) rfl (rv_cellA rfl rfl H.bI lQ) rfl ⟨_, _, H.pick0, zeroA, by rw [hD]; rfl, rfl, by rw [hD]; exact zeroP_R _⟩
            | true =>
              have hRR : ∀ w, Sat h8 w → SpecV Tryd.prog 42 #[.agg (pgV ⟨true, KS, LS, []⟩ ⟨ak, ck, al, cl, none, 0⟩).toArray] w (.bool true) := fun w hs => by
                have := page_Right _ _ h8 w hs hPg; rw [hR] at this; exact this
              repeat' (first | ((first | refine WL.p rfl ?_ | refine WL.u ?_ | refine WL.g rfl rfl ?_ | refine WL.gu rfl ?_); first | (refine opk 1 rfl ?_; first | (refine ost_VB H rfl (rd_Done _ _ _ _ _ _ H.bI) rfl ?_ ?_ <;> (intro hc; (try (first | exact (bcon hc ‹_›).elim | exact (bcon ‹_› hc).elim)); try (clear H; intro wk H))) | (refine ost_V H rfl (hRR _ H.sat) rfl ?_; clear H; intro wk H)) | refine pvQ ?_ | (refine opk 3 rfl ?_; (refine ost_cmp rfl rfl rfl rfl (fun hc => ?_) (fun hc => ?_) <;> (simp only [cmpP] at hc; try exact prIQ))) | (refine opk 4 rfl ?_; (refine ost_cmp rfl rfl rfl rfl (fun hc => ?_) (fun hc => ?_) <;> (simp only [cmpP] at hc; try exact prIQ))) | (refine opk 8 rfl ?_; first | (refine ost_store1 H rfl rfl vlQ gvQ ixQ (by first | decide | (simp; omega) | (simp; done) | omega) ?_; clear H; intro wk H; simp only [List.set_cons_zero, List.set_cons_succ, Nat.reduceAdd] at H) | (refine ost_storeW H rfl rfl rfl rfl lQ ixQ lQ okQ ?_; clear H; intro wk H; simp only [List.set_cons_zero, List.set_cons_succ, Nat.reduceAdd] at H)) | (refine opk 9 rfl ?_; first | (refine ost_boxq H rfl ?_; clear H; intro bk wk H) | (refine ost_allocA H rfl ?_; clear H; intro bk wk H) | (refine ost_build1 H rfl rfl rfl evQ lsQ rfl ?_; clear H; intro bk wk H))) | refine Wc.seq ?_ | refine then_n ?_ | refine WL.nil ?_ | refine Wc.region ?_ | refine Wc.block ?_ | refine then_r ?_ | refine then_e ?_ | refine inb_e rfl ?_ | refine inb_o rfl ?_ | refine inb_n ?_ | refine inb_r ?_ | refine Wc.skip ?_ | refine Wc.exit ?_ | refine Wc.ret ?_ | refine Wc.cond_true rfl ?_ | refine Wc.cond_false rfl ?_ | (refine Wc.drawn (id := 16) 5 (by kernel_rfl) ?_) | refine WL.skp rfl rfl ?_ | refine WL.sku rfl ?_ | (refine rgs_nil ?_; intro vs wk hE; replace H := H.ext hE; clear hE) | refine RGs.skp (fun _ => rfl) rfl ?_ | (refine RGs.bq (fun _ => rfl) rfl (by intro vs w hE hP; have H := H.ext hE; first | exact dbQ | fail) (fun hc => ?_) (fun hc => ?_) <;> ((try simp only [cmpP, decide_eq_true_eq, decide_eq_false_iff_not, dcd_iff, dcd_no] at hc); try exact prDQ)) | refine RGs.pq (fun _ => rfl) rfl (by intro vs w hE hP; have H := H.ext hE; first | exact dvQ | fail) ?_)
              · have hd : te = 0 ∧ txs = [] := by
                  simp only [Bool.and_eq_true, decide_eq_true_eq, List.length_eq_zero_iff] at hc; exact hc
                rw [if_pos ⟨rfl, hd.1, hd.2, hR⟩, if_pos ⟨rfl, hd.1, hd.2, hR⟩] at hA
                have hD := decP_eq hA
                exact fn_ret2 (v2 := .int _ _) rfl (rv_cellA rfl rfl H.bI lQ) rfl ⟨_, _, H.pick0, ⟨ak, ck, al, cl, none, 0⟩, by rw [hD]; rfl, rfl, by rw [hD]; exact hPg⟩
              · have hd : ¬ (te = 0 ∧ txs = []) := fun h => by
                  rw [h.1, h.2] at hc; simp at hc
                rw [if_neg fun h => hd ⟨h.2.1, h.2.2.1⟩, if_neg fun h => hd ⟨h.2.1, h.2.2.1⟩] at hA
                have hD := decP_eq hA
                exact fn_ret2 (v2 := .int _ _) rfl (rv_cellA rfl rfl H.bI lQ) rfl ⟨_, _, H.pick0, zeroA, by rw [hD]; rfl, rfl, by rw [hD]; exact zeroP_R _⟩
      · have e0 : lfA f = false := by unfold lfA; rw [decide_eq_false_iff_not]; omega
        replace H : St w [] h0 hfk [ownR (.slice none (([] : List KeyT).map cKey).length 0) 66 3 (([] : List KeyT).map cKey), ownR (.slice none (([] : List UInt32).map cKid).length 0) 26 1 (([] : List UInt32).map cKid), tkp bt b1 (tk2A f) a2 c2, .blk bp (.cells (pgL false 0 0 0 none 0 none 0 none 0).toArray 59 (0, 0)), .blk b2 (.cells (pgL false 0 0 0 none 0 none 0 none 0).toArray 59 (0, 0))] wk := (H.nilOwn 26 1).nilOwn 66 3
        replace hr2 : BS hfk a2 c2 (tk2A f).xs := hr2
        have hm9 : ((min ((UInt32.ofNat (tkN (tkS (tkA f) 1))).toNat : Int) 9)) = ((mA f : Nat) : Int) := by unfold mA cntA; omega
        have hm8 : mA f ≤ 9 := by unfold mA; omega
        refine Wc.loopE (fun s0 m s w' => ∃ (k : Nat) (ak : Option Addr) (ck : Nat) (al : Option Addr) (cl : Nat) (a3 : Option Addr) (c3 : Nat), m = mA f - k ∧ k ≤ mA f ∧ Agree [10, 11, 39, 40, 41, 42, 43, 44, 45, 46, 47, 48, 49, 50, 51, 52, 53, 54, 55, 56, 57, 58, 59, 60, 61, 62, 63, 64, 65, 66, 67, 68, 69, 70, 71, 72, 73, 74, 75, 76, 77, 78, 79, 80, 81, 82] s s0 ∧ s 39 = .int .u32 k ∧ BS hfk a3 c3 (rowT false (tk2A f) k).xs ∧
          St w [] h0 hfk [ownR (.slice ak ((keysA false (tk2A f) k).map cKey).length ck) 66 3 ((keysA false (tk2A f) k).map cKey), ownR (.slice al ((kidsA false (tk2A f) k).map cKid).length cl) 26 1 ((kidsA false (tk2A f) k).map cKid), tkp bt b1 (rowT false (tk2A f) k) a3 c3,
            .blk bp (.cells [Value.bool false, .slice ak ((keysA false (tk2A f) k).map cKey).length ck, .slice none 0 0, .slice al ((kidsA false (tk2A f) k).map cKid).length cl].toArray 59 (0, 0)), .blk b2 (.cells (pgL false 0 0 0 none 0 none 0 none 0).toArray 59 (0, 0))] w') (mA f) ⟨0, _, _, _, _, _, _, rfl, by omega, Agree.refl _ _, rfl, hr2, H⟩ ?_
        clear H hr2
        rintro m s w' ⟨k, ak, ck, al, cl, a3, c3, rfl, hk9, hA9, e1, hr3, H⟩
        obtain ⟨j, rfl⟩ := hA9.env1 e1
        clear hA9 e1
        have hxl := rowT_len false (tk2A f) k
        have hKl : ((keysA false (tk2A f) k).map cKey).length = k := by rw [List.length_map, keysA_len]
        have hLl : ((kidsA false (tk2A f) k).map cKid).length = k := by simp [kidsA]
        by_cases hlt : k < mA f
        · have hT1 : rowT false (tk2A f) (k + 1) = tkS (tkS (tkS (tkS (rowT false (tk2A f) k) 16) 8) 32) 32 := rfl
          have hV1 : rowV false (tk2A f) k = [tkN (rowT false (tk2A f) k), tkN (tkS (rowT false (tk2A f) k) 16), tkN (tkS (tkS (rowT false (tk2A f) k) 16) 8), tkN (tkS (tkS (tkS (rowT false (tk2A f) k) 16) 8) 32)] := rfl
          have hK1 := keysA_succ false (tk2A f) k
          have hL1 := kidsA_succ (tk2A f) k
          rw [hV1] at hK1 hL1
          generalize rowT false (tk2A f) k = T at H hr3 hT1 hK1 hL1 hxl
          generalize keysA false (tk2A f) k = KS at H hK1 hKl
          generalize kidsA false (tk2A f) k = LS at H hL1 hLl
          have hrk := rows_len3 KS
          have hrl := rows_len1 LS
          repeat' (first | ((first | refine WL.p rfl ?_ | refine WL.u ?_ | refine WL.g rfl rfl ?_ | refine WL.gu rfl ?_); first | (refine opk 1 rfl ?_; first | (refine ost_H (A := tkp _ _ _ _ _) H rfl (by (exact ixQ)) (fun HO => tkp_num 16 _ _ _ _ _ _ _ HO (by assumption) (by decide)) rfl ?_; clear H; rintro vk wk hfk Lk ⟨rfl, rfl, a2, c2, hr2, rfl⟩ hle H; simp only [List.cons_append, List.nil_append, List.eraseIdx_cons_zero, List.eraseIdx_cons_succ] at H) | (refine ost_H (A := tkp _ _ _ _ _) H rfl (by (exact ixQ)) (fun HO => tkp_num 8 _ _ _ _ _ _ _ HO (by assumption) (by decide)) rfl ?_; clear H; rintro vk wk hfk Lk ⟨rfl, rfl, a2, c2, hr2, rfl⟩ hle H; simp only [List.cons_append, List.nil_append, List.eraseIdx_cons_zero, List.eraseIdx_cons_succ] at H) | (refine ost_H (A := tkp _ _ _ _ _) H rfl (by (exact ixQ)) (fun HO => tkp_num 32 _ _ _ _ _ _ _ HO (by assumption) (by decide)) rfl ?_; clear H; rintro vk wk hfk Lk ⟨rfl, rfl, a2, c2, hr2, rfl⟩ hle H; simp only [List.cons_append, List.nil_append, List.eraseIdx_cons_zero, List.eraseIdx_cons_succ] at H) | (refine ost_appR (rows := KS.map cKey) (row := [Value.int .u16 (IntKind.u16.wrap ((UInt32.ofNat (tkN T)).toNat : Int)), Value.int .u8 (IntKind.u8.wrap ((UInt32.ofNat (tkN (tkS T 16))).toNat : Int)), Value.int .u32 ((UInt32.ofNat (tkN (tkS (tkS T 16) 8))).toNat : Int)]) H rfl rfl rfl (by (exact ixQ)) (by (exact ixQ)) (by rfl) (by first | simp; done | exact Nat.succ_pos _) rfl (allOne_of rfl) rfl (by omega) ?_; clear H; intro aa ca wk H; simp only [List.set_cons_zero, List.set_cons_succ] at H) | (refine ost_appR (rows := LS.map cKid) (row := [Value.int .u32 ((UInt32.ofNat (tkN (tkS (tkS (tkS T 16) 8) 32))).toNat : Int)]) H rfl rfl rfl (by (exact ixQ)) (by (exact ixQ)) (by rfl) (by first | simp; done | exact Nat.succ_pos _) rfl (allOne_of rfl) rfl (by omega) ?_; clear H; intro aa ca wk H; simp only [List.set_cons_zero, List.set_cons_succ] at H)) | (refine opk 9 rfl ?_; (refine ost_buildR (rows := [[Value.int .u16 (IntKind.u16.wrap ((UInt32.ofNat (tkN T)).toNat : Int)), Value.int .u8 (IntKind.u8.wrap ((UInt32.ofNat (tkN (tkS T 16))).toNat : Int)), Value.int .u32 ((UInt32.ofNat (tkN (tkS (tkS T 16) 8))).toNat : Int)]]) H rfl (by decide) rfl (by rfl) (evP1 vxQ) (.cons rfl .nil) rfl (fun r hr => by rw [List.mem_singleton.1 hr]; rfl) ?_; clear H; intro bk wk H)) | refine pvQ ?_ | (refine opk 3 rfl ?_; (refine ost_cmp rfl rfl rfl rfl (fun hc => ?_) (fun hc => ?_) <;> (simp only [cmpP] at hc; try exact prIQ))) | (refine opk 4 rfl ?_; (refine ost_cmp rfl rfl rfl rfl (fun hc => ?_) (fun hc => ?_) <;> (simp only [cmpP] at hc; try exact prIQ))) | (refine opk 8 rfl ?_; first | (refine ost_store1 H rfl rfl vlQ gvQ ixQ (by first | decide | (simp; omega) | (simp; done) | omega) ?_; clear H; intro wk H; simp only [List.set_cons_zero, List.set_cons_succ, Nat.reduceAdd] at H) | (refine ost_storeW H rfl rfl rfl rfl lQ ixQ lQ okQ ?_; clear H; intro wk H; simp only [List.set_cons_zero, List.set_cons_succ, Nat.reduceAdd] at H)) | (refine opk 9 rfl ?_; first | (refine ost_boxq H rfl ?_; clear H; intro bk wk H) | (refine ost_allocA H rfl ?_; clear H; intro bk wk H) | (refine ost_build1 H rfl rfl rfl evQ lsQ rfl ?_; clear H; intro bk wk H))) | refine Wc.seq ?_ | refine then_n ?_ | refine WL.nil ?_ | refine Wc.region ?_ | refine Wc.block ?_ | refine then_r ?_ | refine then_e ?_ | refine inb_e rfl ?_ | refine inb_o rfl ?_ | refine inb_n ?_ | refine inb_r ?_ | refine Wc.skip ?_ | refine Wc.exit ?_ | refine Wc.ret ?_ | refine Wc.cond_true rfl ?_ | refine Wc.cond_false rfl ?_ | refine WL.skp rfl rfl ?_ | refine WL.sku rfl ?_ | (refine Wc.drawM (id := 16) 5 [(3, [tkp bt b1 (tkS (tkS (tkS T 16) 8) 32) a2 c2], fun v L' => v = Value.int .u32 ((UInt32.ofNat (tkN (tkS (tkS (tkS T 16) 8) 32))).toNat : Int) ∧ ∃ a' c', BS hfk a' c' (tkS (tkS (tkS (tkS T 16) 8) 32) 32).xs ∧ L' = [tkp bt b1 (tkS (tkS (tkS (tkS T 16) 8) 32) 32) a' c']), (4, [], fun v L' => ∃ b, v = Value.slice (some ⟨b, 0, none⟩) 1 1 ∧ L' = [ownR (Value.slice (some ⟨b, 0, none⟩) 1 1) 26 1 [[Value.int .u32 ((UInt32.ofNat (tkN (tkS (tkS (tkS T 16) 8) 32))).toNat : Int)]]])] [ownR _ _ _ _, .blk _ _, ownR _ _ _ _, ownR _ _ _ _, .blk _ _, .blk _ _] [3, 4] H (by kernel_rfl) rfl (by kernel_rfl) (perm_pick [0, 2, 3, 4, 5, 6, 1] 7 rfl (by decide) rfl) ?_) | (refine rgm_nil ?_; intro vs wk outs HM hR; obtain ⟨v3, ⟨e3, a2, c2, hr2, o3⟩, h3⟩ := hR 3 _ rfl; have hv3 : vs (0 + 1 + 1 + 1) = _ := (h3 (by kernel_rfl)).trans e3; obtain ⟨v4, ⟨b4, e4, o4⟩, h4⟩ := hR 4 _ rfl; have hv4 : vs (0 + 1 + 1 + 1 + 1) = _ := (h4 (by kernel_rfl)).trans e4; simp only [outsL, o3, o4, List.cons_append, List.nil_append, List.append_nil] at HM; (try dsimp only); rw [hv3, hv4]; replace H := HM; clear HM hR) | refine RGm.skp (fun _ => rfl) rfl ?_ | (refine RGm.bq (fun _ => rfl) rfl (by intro vs w TT hP H; simp only [List.cons_append, List.nil_append] at H; first | exact dbQ | fail) (fun hc => ?_) (fun hc => ?_) <;> ((try simp only [cmpP, decide_eq_true_eq, decide_eq_false_iff_not, dcd_iff, dcd_no] at hc); try exact prDQ)) | refine RGm.pq (fun _ => rfl) rfl (by intro vs w TT hP H; simp only [List.cons_append, List.nil_append] at H; first | exact dvQ | fail) ?_ | refine RGm.mq (fun _ => rfl) rfl (by intro vs w TT hP H; simp only [List.cons_append, List.nil_append] at H; first | (refine ost_H (A := tkp _ _ _ _ _) H rfl ixQ (fun HO => tkp_num 32 _ _ _ _ _ _ _ HO (by assumption) (by decide)) rfl ?_; rintro vk wk hfk2 Lk ⟨rfl, rfl, a8, c8, hr8, rfl⟩ hle2 H2; simp only [List.cons_append, List.nil_append, List.eraseIdx_cons_zero, List.eraseIdx_cons_succ] at H2; exact ⟨_, ⟨rfl, a8, c8, hr8, rfl⟩, H2⟩) | (obtain ⟨L9, ⟨e9, -⟩, -⟩ := hP 3 _ (by kernel_rfl) rfl rfl; have e8 : vs (0 + 1 + 1 + 1) = _ := e9; rw [e8]; refine ost_buildR (rows := [[Value.int .u32 ((UInt32.ofNat (tkN (tkS (tkS (tkS T 16) 8) 32))).toNat : Int)]]) H rfl (by decide) rfl (by rfl) (evP1 vxQ) (.cons rfl .nil) rfl (by simp) ?_; intro bk wk H2; exact ⟨[_], ⟨_, rfl, rfl⟩, H2⟩) | fail) ?_ | refine RGm.mu rfl (by intro vs w TT hP H; simp only [List.cons_append, List.nil_append] at H; first | (refine ost_H (A := tkp _ _ _ _ _) H rfl ixQ (fun HO => tkp_num 32 _ _ _ _ _ _ _ HO (by assumption) (by decide)) rfl ?_; rintro vk wk hfk2 Lk ⟨rfl, rfl, a8, c8, hr8, rfl⟩ hle2 H2; simp only [List.cons_append, List.nil_append, List.eraseIdx_cons_zero, List.eraseIdx_cons_succ] at H2; exact ⟨_, ⟨rfl, a8, c8, hr8, rfl⟩, H2⟩) | (obtain ⟨L9, ⟨e9, -⟩, -⟩ := hP 3 _ (by kernel_rfl) rfl rfl; have e8 : vs (0 + 1 + 1 + 1) = _ := e9; rw [e8]; refine ost_buildR (rows := [[Value.int .u32 ((UInt32.ofNat (tkN (tkS (tkS (tkS T 16) 8) 32))).toNat : Int)]]) H rfl (by decide) rfl (by rfl) (evP1 vxQ) (.cons rfl .nil) rfl (by simp) ?_; intro bk wk H2; exact ⟨[_], ⟨_, rfl, rfl⟩, H2⟩) | fail) ?_)
          have hKr : (keysA false (tk2A f) (k + 1)).map cKey = KS.map cKey ++ [[Value.int .u16 (IntKind.u16.wrap ((UInt32.ofNat (tkN T)).toNat : Int)), Value.int .u8 (IntKind.u8.wrap ((UInt32.ofNat (tkN (tkS T 16))).toNat : Int)), Value.int .u32 ((UInt32.ofNat (tkN (tkS (tkS T 16) 8))).toNat : Int)]] := by rw [hK1, List.map_append, u16_2, u8_2]; rfl
          have hLr : (kidsA false (tk2A f) (k + 1)).map cKid = LS.map cKid ++ [[Value.int .u32 ((UInt32.ofNat (tkN (tkS (tkS (tkS T 16) 8) 32))).toNat : Int)]] := by rw [hL1, List.map_append]; rfl
          rw [← hKr, ← hLr, ← hT1] at H
          rw [← hT1] at hr2
          exact ⟨mA f - (k + 1), by omega, k + 1, _, _, _, _, a2, c2, rfl, by omega, by (repeat' (first | exact Agree.refl _ _ | exact Agree.havoc | refine Agree.upd rfl ?_ | refine Agree.hav2 rfl ?_)), rfl, hr2, H.picks [2, 3, 6, 4, 5] rfl (by decide)⟩
        · obtain rfl : k = mA f := by omega
          have eT : rowT false (tk2A f) (mA f) = endA f := by unfold endA; rw [e0]
          have eP : pageA f = ⟨false, keysA false (tk2A f) (mA f), [], kidsA false (tk2A f) (mA f)⟩ := by unfold pageA; rw [e0]; rfl
          rw [eT] at H hr3
          rw [eP] at hA
          clear eP eT hxl
          generalize endA f = T at H hr3 hA
          generalize keysA false (tk2A f) (mA f) = KS at H hA hKl
          generalize kidsA false (tk2A f) (mA f) = LS at H hA hLl
          obtain ⟨ak, ck, h7, e7, hle7, hK7, H⟩ := H.freezeR (rows_len3 KS)
          cases e7
          obtain ⟨al, cl, h8, e8, hle8, hL8, H⟩ := H.freezeR (rows_len1 LS)
          cases e8
          have hPg : PgR h8 ⟨false, KS, [], LS⟩ ⟨ak, ck, none, 0, al, cl⟩ := ⟨hK7.mono hle8, Sl.nil _ _, hL8⟩
          simp only [List.length_map] at H
          replace H := H.split
          obtain ⟨te, txs, tbad⟩ := T
          dsimp only at hA H
          cases tbad with
          | true =>
            rw [if_neg (by simp), if_neg (by simp)] at hA
            have hD := decP_eq hA
            repeat' (first | ((first | refine WL.p rfl ?_ | refine WL.u ?_ | refine WL.g rfl rfl ?_ | refine WL.gu rfl ?_); first | refine pvQ ?_ | (refine opk 3 rfl ?_; (refine ost_cmp rfl rfl rfl rfl (fun hc => ?_) (fun hc => ?_) <;> (simp only [cmpP] at hc; try exact prIQ))) | (refine opk 4 rfl ?_; (refine ost_cmp rfl rfl rfl rfl (fun hc => ?_) (fun hc => ?_) <;> (simp only [cmpP] at hc; try exact prIQ))) | (refine opk 8 rfl ?_; first | (refine ost_store1 H rfl rfl vlQ gvQ ixQ (by first | decide | (simp; omega) | (simp; done) | omega) ?_; clear H; intro wk H; simp only [List.set_cons_zero, List.set_cons_succ, Nat.reduceAdd] at H) | (refine ost_storeW H rfl rfl rfl rfl lQ ixQ lQ okQ ?_; clear H; intro wk H; simp only [List.set_cons_zero, List.set_cons_succ, Nat.reduceAdd] at H)) | (refine opk 9 rfl ?_; first | (refine ost_boxq H rfl ?_; clear H; intro bk wk H) | (refine ost_allocA H rfl ?_; clear H; intro bk wk H) | (refine ost_build1 H rfl rfl rfl evQ lsQ rfl ?_; clear H; intro bk wk H))) | refine Wc.seq ?_ | refine then_n ?_ | refine WL.nil ?_ | refine Wc.region ?_ | refine Wc.block ?_ | refine then_r ?_ | refine then_e ?_ | refine inb_e rfl ?_ | refine inb_o rfl ?_ | refine inb_n ?_ | refine inb_r ?_ | refine Wc.skip ?_ | refine Wc.exit ?_ | refine Wc.ret ?_ | refine Wc.cond_true rfl ?_ | refine Wc.cond_false rfl ?_ | (refine Wc.drawn (id := 16) 5 (by kernel_rfl) ?_) | refine WL.skp rfl rfl ?_ | refine WL.sku rfl ?_ | (refine rgs_nil ?_; intro vs wk hE; replace H := H.ext hE; clear hE) | refine RGs.skp (fun _ => rfl) rfl ?_ | (refine RGs.bq (fun _ => rfl) rfl (by intro vs w hE hP; have H := H.ext hE; first | exact dbQ | fail) (fun hc => ?_) (fun hc => ?_) <;> ((try simp only [cmpP, decide_eq_true_eq, decide_eq_false_iff_not, dcd_iff, dcd_no] at hc); try exact prDQ)) | refine RGs.pq (fun _ => rfl) rfl (by intro vs w hE hP; have H := H.ext hE; first | exact dvQ | fail) ?_)
            exact fn_ret2 (v2 := .int _ _) rfl (rv_cellA rfl rfl H.bI lQ) rfl ⟨_, _, H.pick0, zeroA, by rw [hD]; rfl, rfl, by rw [hD]; exact zeroP_R _⟩
          | false =>
            cases hR : rightP ⟨false, KS, [], LS⟩ with
            | false =>
              rw [hR, if_neg (by simp), if_neg (by simp)] at hA
              have hD := decP_eq hA
              have hRR : ∀ w, Sat h8 w → SpecV Tryd.prog 42 #[.agg (pgV ⟨false, KS, [], LS⟩ ⟨ak, ck, none, 0, al, cl⟩).toArray] w (.bool false) := fun w hs => by
                have := page_Right _ _ h8 w hs hPg; rw [hR] at this; exact this
              repeat' (first | ((first | refine WL.p rfl ?_ | refine WL.u ?_ | refine WL.g rfl rfl ?_ | refine WL.gu rfl ?_); first | (refine opk 1 rfl ?_; first | (refine ost_VB H rfl (rd_Done _ _ _ _ _ _ H.bI) rfl ?_ ?_ <;> (intro hc; (try (first | exact (bcon hc ‹_›).elim | exact (bcon ‹_› hc).elim)); try (clear H; intro wk H))) | (refine ost_V H rfl (hRR _ H.sat) rfl ?_; clear H; intro wk H)) | refine pvQ ?_ | (refine opk 3 rfl ?_; (refine ost_cmp rfl rfl rfl rfl (fun hc => ?_) (fun hc => ?_) <;> (simp only [cmpP] at hc; try exact prIQ))) | (refine opk 4 rfl ?_; (refine ost_cmp rfl rfl rfl rfl (fun hc => ?_) (fun hc => ?_) <;> (simp only [cmpP] at hc; try exact prIQ))) | (refine opk 8 rfl ?_; first | (refine ost_store1 H rfl rfl vlQ gvQ ixQ (by first | decide | (simp; omega) | (simp; done) | omega) ?_; clear H; intro wk H; simp only [List.set_cons_zero, List.set_cons_succ, Nat.reduceAdd] at H) | (refine ost_storeW H rfl rfl rfl rfl lQ ixQ lQ okQ ?_; clear H; intro wk H; simp only [List.set_cons_zero, List.set_cons_succ, Nat.reduceAdd] at H)) | (refine opk 9 rfl ?_; first | (refine ost_boxq H rfl ?_; clear H; intro bk wk H) | (refine ost_allocA H rfl ?_; clear H; intro bk wk H) | (refine ost_build1 H rfl rfl rfl evQ lsQ rfl ?_; clear H; intro bk wk H))) | refine Wc.seq ?_ | refine then_n ?_ | refine WL.nil ?_ | refine Wc.region ?_ | refine Wc.block ?_ | refine then_r ?_ | refine then_e ?_ | refine inb_e rfl ?_ | refine inb_o rfl ?_ | refine inb_n ?_ | refine inb_r ?_ | refine Wc.skip ?_ | refine Wc.exit ?_ | refine Wc.ret ?_ | refine Wc.cond_true rfl ?_ | refine Wc.cond_false rfl ?_ | (refine Wc.drawn (id := 16) 5 (by kernel_rfl) ?_) | refine WL.skp rfl rfl ?_ | refine WL.sku rfl ?_ | (refine rgs_nil ?_; intro vs wk hE; replace H := H.ext hE; clear hE) | refine RGs.skp (fun _ => rfl) rfl ?_ | (refine RGs.bq (fun _ => rfl) rfl (by intro vs w hE hP; have H := H.ext hE; first | exact dbQ | fail) (fun hc => ?_) (fun hc => ?_) <;> ((try simp only [cmpP, decide_eq_true_eq, decide_eq_false_iff_not, dcd_iff, dcd_no] at hc); try exact prDQ)) | refine RGs.pq (fun _ => rfl) rfl (by intro vs w hE hP; have H := H.ext hE; first | exact dvQ | fail) ?_)
              all_goals exact fn_ret2 (v2 := .int _ _) rfl (rv_cellA rfl rfl H.bI lQ) rfl ⟨_, _, H.pick0, zeroA, by rw [hD]; rfl, rfl, by rw [hD]; exact zeroP_R _⟩
            | true =>
              have hRR : ∀ w, Sat h8 w → SpecV Tryd.prog 42 #[.agg (pgV ⟨false, KS, [], LS⟩ ⟨ak, ck, none, 0, al, cl⟩).toArray] w (.bool true) := fun w hs => by
                have := page_Right _ _ h8 w hs hPg; rw [hR] at this; exact this
              repeat' (first | ((first | refine WL.p rfl ?_ | refine WL.u ?_ | refine WL.g rfl rfl ?_ | refine WL.gu rfl ?_); first | (refine opk 1 rfl ?_; first | (refine ost_VB H rfl (rd_Done _ _ _ _ _ _ H.bI) rfl ?_ ?_ <;> (intro hc; (try (first | exact (bcon hc ‹_›).elim | exact (bcon ‹_› hc).elim)); try (clear H; intro wk H))) | (refine ost_V H rfl (hRR _ H.sat) rfl ?_; clear H; intro wk H)) | refine pvQ ?_ | (refine opk 3 rfl ?_; (refine ost_cmp rfl rfl rfl rfl (fun hc => ?_) (fun hc => ?_) <;> (simp only [cmpP] at hc; try exact prIQ))) | (refine opk 4 rfl ?_; (refine ost_cmp rfl rfl rfl rfl (fun hc => ?_) (fun hc => ?_) <;> (simp only [cmpP] at hc; try exact prIQ))) | (refine opk 8 rfl ?_; first | (refine ost_store1 H rfl rfl vlQ gvQ ixQ (by first | decide | (simp; omega) | (simp; done) | omega) ?_; clear H; intro wk H; simp only [List.set_cons_zero, List.set_cons_succ, Nat.reduceAdd] at H) | (refine ost_storeW H rfl rfl rfl rfl lQ ixQ lQ okQ ?_; clear H; intro wk H; simp only [List.set_cons_zero, List.set_cons_succ, Nat.reduceAdd] at H)) | (refine opk 9 rfl ?_; first | (refine ost_boxq H rfl ?_; clear H; intro bk wk H) | (refine ost_allocA H rfl ?_; clear H; intro bk wk H) | (refine ost_build1 H rfl rfl rfl evQ lsQ rfl ?_; clear H; intro bk wk H))) | refine Wc.seq ?_ | refine then_n ?_ | refine WL.nil ?_ | refine Wc.region ?_ | refine Wc.block ?_ | refine then_r ?_ | refine then_e ?_ | refine inb_e rfl ?_ | refine inb_o rfl ?_ | refine inb_n ?_ | refine inb_r ?_ | refine Wc.skip ?_ | refine Wc.exit ?_ | refine Wc.ret ?_ | refine Wc.cond_true rfl ?_ | refine Wc.cond_false rfl ?_ | (refine Wc.drawn (id := 16) 5 (by kernel_rfl) ?_) | refine WL.skp rfl rfl ?_ | refine WL.sku rfl ?_ | (refine rgs_nil ?_; intro vs wk hE; replace H := H.ext hE; clear hE) | refine RGs.skp (fun _ => rfl) rfl ?_ | (refine RGs.bq (fun _ => rfl) rfl (by intro vs w hE hP; have H := H.ext hE; first | exact dbQ | fail) (fun hc => ?_) (fun hc => ?_) <;> ((try simp only [cmpP, decide_eq_true_eq, decide_eq_false_iff_not, dcd_iff, dcd_no] at hc); try exact prDQ)) | refine RGs.pq (fun _ => rfl) rfl (by intro vs w hE hP; have H := H.ext hE; first | exact dvQ | fail) ?_)
              · have hd : te = 0 ∧ txs = [] := by
                  simp only [Bool.and_eq_true, decide_eq_true_eq, List.length_eq_zero_iff] at hc; exact hc
                rw [if_pos ⟨rfl, hd.1, hd.2, hR⟩, if_pos ⟨rfl, hd.1, hd.2, hR⟩] at hA
                have hD := decP_eq hA
                exact fn_ret2 (v2 := .int _ _) rfl (rv_cellA rfl rfl H.bI lQ) rfl ⟨_, _, H.pick0, ⟨ak, ck, none, 0, al, cl⟩, by rw [hD]; rfl, rfl, by rw [hD]; exact hPg⟩
              · have hd : ¬ (te = 0 ∧ txs = []) := fun h => by
                  rw [h.1, h.2] at hc; simp at hc
                rw [if_neg fun h => hd ⟨h.2.1, h.2.2.1⟩, if_neg fun h => hd ⟨h.2.1, h.2.2.1⟩] at hA
                have hD := decP_eq hA
                exact fn_ret2 (v2 := .int _ _) rfl (rv_cellA rfl rfl H.bI lQ) rfl ⟨_, _, H.pick0, zeroA, by rw [hD]; rfl, rfl, by rw [hD]; exact zeroP_R _⟩
    · rw [decP_eq (hN fun h => hk h.2)]
      repeat' (first | ((first | refine WL.p rfl ?_ | refine WL.u ?_ | refine WL.g rfl rfl ?_ | refine WL.gu rfl ?_); first | (refine opk 1 rfl ?_; (refine ost_Sk H rfl (hFF _ H.sat hT hr (by omega)) rfl ?_; clear H; rintro vk wk hfk Lk ⟨a1, c1, rfl, rfl, rfl⟩ hle H; simp only [List.cons_append, List.nil_append] at H)) | refine pvQ ?_ | (refine opk 3 rfl ?_; (refine ost_cmp rfl rfl rfl rfl (fun hc => ?_) (fun hc => ?_) <;> (simp only [cmpP] at hc; try exact prIQ))) | (refine opk 4 rfl ?_; (refine ost_cmp rfl rfl rfl rfl (fun hc => ?_) (fun hc => ?_) <;> (simp only [cmpP] at hc; try exact prIQ))) | (refine opk 8 rfl ?_; first | (refine ost_store1 H rfl rfl vlQ gvQ ixQ (by first | decide | (simp; omega) | (simp; done) | omega) ?_; clear H; intro wk H; simp only [List.set_cons_zero, List.set_cons_succ, Nat.reduceAdd] at H) | (refine ost_storeW H rfl rfl rfl rfl lQ ixQ lQ okQ ?_; clear H; intro wk H; simp only [List.set_cons_zero, List.set_cons_succ, Nat.reduceAdd] at H)) | (refine opk 9 rfl ?_; first | (refine ost_boxq H rfl ?_; clear H; intro bk wk H) | (refine ost_allocA H rfl ?_; clear H; intro bk wk H) | (refine ost_build1 H rfl rfl rfl evQ lsQ rfl ?_; clear H; intro bk wk H))) | refine Wc.seq ?_ | refine then_n ?_ | refine WL.nil ?_ | refine Wc.region ?_ | refine Wc.block ?_ | refine then_r ?_ | refine then_e ?_ | refine inb_e rfl ?_ | refine inb_o rfl ?_ | refine inb_n ?_ | refine inb_r ?_ | refine Wc.skip ?_ | refine Wc.exit ?_ | refine Wc.ret ?_ | refine Wc.cond_true rfl ?_ | refine Wc.cond_false rfl ?_ | (refine Wc.drawn (id := 16) 5 (by kernel_rfl) ?_) | refine WL.skp rfl rfl ?_ | refine WL.sku rfl ?_ | (refine rgs_nil ?_; intro vs wk hE; replace H := H.ext hE; clear hE) | refine RGs.skp (fun _ => rfl) rfl ?_ | (refine RGs.bq (fun _ => rfl) rfl (by intro vs w hE hP; have H := H.ext hE; first | exact dbQ | fail) (fun hc => ?_) (fun hc => ?_) <;> ((try simp only [cmpP, decide_eq_true_eq, decide_eq_false_iff_not, dcd_iff, dcd_no] at hc); try exact prDQ)) | refine RGs.pq (fun _ => rfl) rfl (by intro vs w hE hP; have H := H.ext hE; first | exact dvQ | fail) ?_)
      exact fn_ret2 (v2 := .int _ _) rfl (rv_cellA rfl rfl H.bI lQ) rfl ⟨_, _, H.pick0, zeroA, rfl, rfl, zeroP_R _⟩
  · rw [decP_eq (hN fun h => he (by have := h.1; omega))]
    repeat' (first | ((first | refine WL.p rfl ?_ | refine WL.u ?_ | refine WL.g rfl rfl ?_ | refine WL.gu rfl ?_); first | (refine opk 1 rfl ?_; (refine ost_Sk H rfl (hFF _ H.sat hT hr (by omega)) rfl ?_; clear H; rintro vk wk hfk Lk ⟨a1, c1, rfl, rfl, rfl⟩ hle H; simp only [List.cons_append, List.nil_append] at H)) | refine pvQ ?_ | (refine opk 3 rfl ?_; (refine ost_cmp rfl rfl rfl rfl (fun hc => ?_) (fun hc => ?_) <;> (simp only [cmpP] at hc; try exact prIQ))) | (refine opk 4 rfl ?_; (refine ost_cmp rfl rfl rfl rfl (fun hc => ?_) (fun hc => ?_) <;> (simp only [cmpP] at hc; try exact prIQ))) | (refine opk 8 rfl ?_; first | (refine ost_store1 H rfl rfl vlQ gvQ ixQ (by first | decide | (simp; omega) | (simp; done) | omega) ?_; clear H; intro wk H; simp only [List.set_cons_zero, List.set_cons_succ, Nat.reduceAdd] at H) | (refine ost_storeW H rfl rfl rfl rfl lQ ixQ lQ okQ ?_; clear H; intro wk H; simp only [List.set_cons_zero, List.set_cons_succ, Nat.reduceAdd] at H)) | (refine opk 9 rfl ?_; first | (refine ost_boxq H rfl ?_; clear H; intro bk wk H) | (refine ost_allocA H rfl ?_; clear H; intro bk wk H) | (refine ost_build1 H rfl rfl rfl evQ lsQ rfl ?_; clear H; intro bk wk H))) | refine Wc.seq ?_ | refine then_n ?_ | refine WL.nil ?_ | refine Wc.region ?_ | refine Wc.block ?_ | refine then_r ?_ | refine then_e ?_ | refine inb_e rfl ?_ | refine inb_o rfl ?_ | refine inb_n ?_ | refine inb_r ?_ | refine Wc.skip ?_ | refine Wc.exit ?_ | refine Wc.ret ?_ | refine Wc.cond_true rfl ?_ | refine Wc.cond_false rfl ?_ | (refine Wc.drawn (id := 16) 5 (by kernel_rfl) ?_) | refine WL.skp rfl rfl ?_ | refine WL.sku rfl ?_ | (refine rgs_nil ?_; intro vs wk hE; replace H := H.ext hE; clear hE) | refine RGs.skp (fun _ => rfl) rfl ?_ | (refine RGs.bq (fun _ => rfl) rfl (by intro vs w hE hP; have H := H.ext hE; first | exact dbQ | fail) (fun hc => ?_) (fun hc => ?_) <;> ((try simp only [cmpP, decide_eq_true_eq, decide_eq_false_iff_not, dcd_iff, dcd_no] at hc); try exact prDQ)) | refine RGs.pq (fun _ => rfl) rfl (by intro vs w hE hP; have H := H.ext hE; first | exact dvQ | fail) ?_)
    exact fn_ret2 (v2 := .int _ _) rfl (rv_cellA rfl rfl H.bI lQ) rfl ⟨_, _, H.pick0, zeroA, rfl, rfl, zeroP_R _⟩
end Go.Tg

