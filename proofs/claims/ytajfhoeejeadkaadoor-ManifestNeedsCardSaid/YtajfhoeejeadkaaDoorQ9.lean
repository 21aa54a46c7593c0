/- Contracts of Go functions that the laws reach: what each call answers and leaves in memory, for all arguments within the bounds that each theorem names. -/
import Derived.Test.YtajfhoeejeadkaaDoorInst
import Derived.Test.YtajfhoeejeadkaaDoorAuto
import Derived.Test.YtajfhoeejeadkaaDoorO4
import Derived.Test.YtajfhoeejeadkaaDoorMov
import Derived.Test.YtajfhoeejeadkaaDoorW2
set_option linter.unusedVariables false
set_option linter.unusedSimpArgs false
set_option maxRecDepth 100000
set_option maxHeartbeats 4000000
namespace Go.Tg
open Go Go.Proofs
structure TkT where
  e : Int
  xs : List UInt8
  bad : Bool
def tkN (t : TkT) : Nat := (numE t.e t.xs).1
def tkS (t : TkT) (bits : Nat) : TkT := ⟨(numE t.e t.xs).2.2.1, (numE t.e t.xs).2.2.2, t.bad || !(decide ((numE t.e t.xs).2.1 = 0) && decide (tkN t / 2 ^ bits = 0))⟩
theorem tk_full {t : TkT} {bits n : Nat} {r : List UInt8} (he : t.e = 0) (hb : t.bad = false) (hx : t.xs = putB n ++ r) (hn : n < 18446744073709551616) (hn2 : n < 2 ^ bits) : tkN t = n ∧ tkS t bits = ⟨0, r, false⟩ := by
  have h1 := numE_putB n hn r
  rw [← hx, ← he] at h1
  have h2 : tkN t = n := by unfold tkN; rw [h1]
  refine ⟨h2, ?_⟩
  unfold tkS; rw [h2, h1, hb, he, Nat.div_eq_of_lt hn2]; rfl
def zeroO : OpT := ⟨⟨0, 0⟩, 0, 0, 0, 0, 0, fun _ => 0⟩
def DecO (b : List UInt8) (x : OpT) (e : Int) : Prop := (e = 0 ∧ rightO x 16 = true ∧ encO x = b) ∨ (e = 5 ∧ x = zeroO ∧ ∀ u, rightO u 16 = true → encO u ≠ b)
theorem nums_inj {u v : OpT} : ∀ (d k : Nat), 7 - k = d → k ≤ 7 → (r s : List UInt8) → ((List.range (7 - k)).map fun i => putB (numsO u (k + i))).flatten ++ r = ((List.range (7 - k)).map fun i => putB (numsO v (k + i))).flatten ++ s → (∀ i, k ≤ i → i < 7 → numsO u i = numsO v i) ∧ r = s
  | 0, k, h1, h2, r, s, h => by
    obtain rfl : k = 7 := by omega
    exact ⟨fun i _ _ => by omega, h⟩
  | d + 1, k, h1, h2, r, s, h => by
    rw [h1, List.range_succ_eq_map] at h
    simp only [List.map_cons, List.map_map, List.flatten_cons, Nat.add_zero, List.append_assoc] at h
    have hu := numsO_lt u k; have hv := numsO_lt v k
    obtain ⟨h3, h4⟩ := putB_app_inj (by omega) (by omega) h
    obtain ⟨h5, h6⟩ := nums_inj d (k + 1) (by omega) (by omega) r s (by
      rw [show 7 - (k + 1) = d by omega]
      simpa [Function.comp_def, Nat.add_assoc, Nat.add_comm 1] using h4)
    exact ⟨fun i h7 h8 => by
      by_cases hik : i = k
      · subst hik; exact h3
      · exact h5 i (by omega) h8, h6⟩
theorem encO_inj {u v : OpT} (h : encO u = encO v) : u = v := by
  have h0 : ((List.range (7 - 0)).map fun i => putB (numsO u (0 + i))).flatten ++ fieldB (encV u.ctx) = ((List.range (7 - 0)).map fun i => putB (numsO v (0 + i))).flatten ++ fieldB (encV v.ctx) := by
    simpa [encO, putsO] using h
  obtain ⟨h1, h2⟩ := nums_inj 7 0 rfl (by omega) _ _ h0
  have hu := encV_len u.ctx; have hv := encV_len v.ctx
  obtain ⟨h3, h4⟩ := putB_app_inj (by omega) (by omega) h2
  have h5 := encV_inj h4
  have e0 := h1 0 (by omega) (by omega); have e1 := h1 1 (by omega) (by omega); have e2 := h1 2 (by omega) (by omega); have e3 := h1 3 (by omega) (by omega)
  have e4 := h1 4 (by omega) (by omega); have e5 := h1 5 (by omega) (by omega); have e6 := h1 6 (by omega) (by omega)
  simp only [numsO] at e0 e1 e2 e3 e4 e5 e6
  simp at e0 e1 e2 e3 e4 e5 e6
  obtain ⟨⟨_, _⟩, _, _, _, _, _, _⟩ := u
  obtain ⟨⟨_, _⟩, _, _, _, _, _, _⟩ := v
  simp_all [UInt8.toNat_inj, UInt16.toNat_inj, UInt32.toNat_inj]
theorem DecO.unique {b : List UInt8} {x y : OpT} {e f : Int} (h : DecO b x e) (k : DecO b y f) : x = y ∧ e = f := by
  rcases h with ⟨h1, h2, h3⟩ | ⟨h1, h2, h3⟩ <;> rcases k with ⟨k1, k2, k3⟩ | ⟨k1, k2, k3⟩
  · exact ⟨encO_inj (h3.trans k3.symm), h1.trans k1.symm⟩
  · exact absurd h3 (k3 _ h2)
  · exact absurd k3 (h3 _ k2)
  · exact ⟨h2.trans k2.symm, h1.trans k1.symm⟩
theorem u32_wrap2 (y : Nat) : Value.int .u32 (IntKind.u32.wrap y) = .int .u32 (UInt32.ofNat y).toNat := by
  simp [IntKind.wrap, IntKind.bits, IntKind.signed]
theorem bytesE_inv {xs : List UInt8} (h : (bytesE 0 xs).2.1 = 0) : xs = fieldB (bytesE 0 xs).1 ++ (bytesE 0 xs).2.2.2 := by
  unfold bytesE at h ⊢
  by_cases h1 : (numE 0 xs).2.1 ≠ 0
  · rw [if_pos h1] at h; exact absurd h h1
  · rw [if_neg h1] at h ⊢
    have h0 : (numE 0 xs).2.1 = 0 := by omega
    by_cases h2 : (numE 0 xs).2.2.2.length < (numE 0 xs).1
    · rw [if_pos h2] at h; exact absurd h (by simp)
    · rw [if_neg h2]
      dsimp only
      unfold fieldB
      rw [List.length_take, Nat.min_eq_left (by omega), List.append_assoc, List.take_append_drop]
      exact numE_inv h0
theorem bytesE_len (e : Int) (xs : List UInt8) : (bytesE e xs).1.length ≤ xs.length := by
  have := numE_len e xs
  unfold bytesE
  split
  · simp
  · split
    · simp
    · simp only [List.length_take]; omega
end Go.Tg

set_option linter.unusedVariables false
set_option linter.unusedSimpArgs false
set_option maxRecDepth 100000
set_option maxHeartbeats 4000000
namespace Go.Tg
open Go Go.Proofs
def tkL : TkT → List Nat → TkT
  | t, [] => t
  | t, b :: bs => tkL (tkS t b) bs
def tkV : TkT → List Nat → List Nat
  | _, [] => []
  | t, b :: bs => tkN t :: tkV (tkS t b) bs
def fits : List Nat → List Nat → Prop
  | [], [] => True
  | n :: ns, b :: bs => n < 2 ^ b ∧ fits ns bs
  | _, _ => False
theorem tkL_full {t : TkT} {l ns : List Nat} {r : List UInt8} (he : t.e = 0) (hb : t.bad = false) (hx : t.xs = numsB ns ++ r) (hf : fits ns l) (h64 : ∀ b, b ∈ l → b < 64) : tkV t l = ns ∧ tkL t l = ⟨0, r, false⟩ := by
  induction l generalizing t ns with
  | nil =>
    cases ns with
    | nil =>
      refine ⟨rfl, ?_⟩
      obtain ⟨e, xs, bad⟩ := t
      simp only [numsB_nil, List.nil_append] at he hb hx
      subst he; subst hb; subst hx; rfl
    | cons n ns => exact hf.elim
  | cons b l ih =>
    cases ns with
    | nil => exact hf.elim
    | cons n ns =>
      obtain ⟨h1, h2⟩ := hf
      rw [numsB_cons, List.append_assoc] at hx
      have h3 : n < 18446744073709551616 := Nat.lt_trans h1 (Nat.pow_lt_pow_right (a := 2) (by decide) (h64 b (by simp)))
      obtain ⟨h4, h5⟩ := tk_full he hb hx h3 h1
      obtain ⟨h6, h7⟩ := ih (t := tkS t b) (by rw [h5]) (by rw [h5]) (by rw [h5]) h2 fun x hx => h64 x (by simp [hx])
      exact ⟨by rw [tkV, h4, h6], h7⟩
def bitsR (lf : Bool) : List Nat := [16, 8, 32] ++ (if lf = true then [32, 32] else [32])
def rowT (lf : Bool) (t : TkT) : Nat → TkT
  | 0 => t
  | k + 1 => tkL (rowT lf t k) (bitsR lf)
def keyA (v : List Nat) : KeyT := ⟨UInt16.ofNat (v.getD 0 0), ⟨UInt8.ofNat (v.getD 1 0), UInt32.ofNat (v.getD 2 0)⟩⟩
def locA (v : List Nat) : LocT := ⟨UInt32.ofNat (v.getD 3 0), UInt32.ofNat (v.getD 4 0)⟩
def kidA (v : List Nat) : UInt32 := UInt32.ofNat (v.getD 3 0)
def rowV (lf : Bool) (t : TkT) (k : Nat) : List Nat := tkV (rowT lf t k) (bitsR lf)
def keysA (lf : Bool) (t : TkT) (k : Nat) : List KeyT := (List.range k).map fun i => keyA (rowV lf t i)
def locsA (lf : Bool) (t : TkT) (k : Nat) : List LocT := if lf = true then (List.range k).map fun i => locA (rowV lf t i) else []
def kidsA (lf : Bool) (t : TkT) (k : Nat) : List UInt32 := if lf = true then [] else (List.range k).map fun i => kidA (rowV lf t i)
theorem keysA_len (lf : Bool) (t : TkT) (k : Nat) : (keysA lf t k).length = k := by simp [keysA]
def tkA (f : List UInt8) : TkT := ⟨0, f, false⟩
def lfA (f : List UInt8) : Bool := decide ((UInt32.ofNat (tkN (tkA f))).toNat = 1)
def cntA (f : List UInt8) : Nat := (UInt32.ofNat (tkN (tkS (tkA f) 1))).toNat
def tk2A (f : List UInt8) : TkT := tkS (tkS (tkA f) 1) 4
def mA (f : List UInt8) : Nat := min (cntA f) 9
def endA (f : List UInt8) : TkT := rowT (lfA f) (tk2A f) (mA f)
def pageA (f : List UInt8) : PageT := ⟨lfA f, keysA (lfA f) (tk2A f) (mA f), locsA (lfA f) (tk2A f) (mA f), kidsA (lfA f) (tk2A f) (mA f)⟩
theorem rowT_full {lf : Bool} {t : TkT} {n : Nat} {v : Nat → List Nat} {r : List UInt8} (he : t.e = 0) (hb : t.bad = false) (hx : t.xs = numsB ((List.range n).map v).flatten ++ r) (hf : ∀ i, i < n → fits (v i) (bitsR lf)) :
    ∀ k, k ≤ n → (∀ i, i < k → rowV lf t i = v i) ∧ rowT lf t k = ⟨0, numsB ((List.range (n - k)).map fun i => v (k + i)).flatten ++ r, false⟩
  | 0, _ => ⟨fun i h => absurd h (by omega), by
    obtain ⟨e, xs, bad⟩ := t
    simp only at he hb hx
    subst he; subst hb; subst hx
    simp [rowT]⟩
  | k + 1, hk => by
    obtain ⟨h1, h2⟩ := rowT_full he hb hx hf k (by omega)
    have e9 : (List.range (n - k)).map (fun i => v (k + i)) = v k :: (List.range (n - (k + 1))).map fun i => v (k + 1 + i) := by
      rw [show n - k = (n - (k + 1)) + 1 by omega, List.range_succ_eq_map]
      simp only [List.map_cons, List.map_map, Nat.add_zero, List.cons.injEq, true_and]
      apply List.map_congr_left
      intro i _
      show v (k + (i + 1)) = _
      congr 1; omega
    rw [e9, List.flatten_cons, numsB_app, List.append_assoc] at h2
    obtain ⟨h3, h4⟩ := tkL_full (t := rowT lf t k) (l := bitsR lf) (ns := v k) (by rw [h2]) (by rw [h2]) (by rw [h2]) (hf k (by omega)) (by cases lf <;> decide)
    refine ⟨fun i hi => ?_, h4⟩
    by_cases hik : i = k
    · subst hik; exact h3
    · exact h1 i (by omega)
end Go.Tg

set_option linter.unusedVariables false
set_option linter.unusedSimpArgs false
set_option maxRecDepth 100000
set_option maxHeartbeats 4000000
namespace Go.Tg
open Go Go.Proofs
theorem keyA_of (k : KeyT) (l : List Nat) : keyA (k.cart.toNat :: k.dot.rep.toNat :: k.dot.seq.toNat :: l) = k := by
  obtain ⟨c, ⟨r, q⟩⟩ := k
  simp [keyA]
theorem locA_of (x : LocT) (a b c : Nat) : locA [a, b, c, x.seg.toNat, x.at_.toNat] = x := by
  obtain ⟨s, t⟩ := x
  simp [locA]
theorem kidA_of (x : UInt32) (a b c : Nat) : kidA [a, b, c, x.toNat] = x := by simp [kidA]
theorem ofNat32 {n : Nat} (h : n < 4294967296) : (UInt32.ofNat n).toNat = n := by simp; omega
theorem rowP_fits {p : PageT} (hs : shapeP p) {i : Nat} (hi : i < p.keys.length) : fits (rowP p.leaf p.keys p.locs p.kids i) (bitsR p.leaf) := by
  obtain ⟨lf, ks, ls, ds⟩ := p
  have h1 := ks[i].cart.toNat_lt; have h2 := ks[i].dot.rep.toNat_lt; have h3 := ks[i].dot.seq.toNat_lt
  cases lf with
  | true =>
    have hs := (shapeP_T _ _ _).1 hs
    have hl : i < ls.length := by rw [hs.2.1]; exact hi
    dsimp only
    rw [rowP_leaf hi hl]
    exact ⟨h1, h2, h3, ls[i].seg.toNat_lt, ls[i].at_.toNat_lt, trivial⟩
  | false =>
    have hs := (shapeP_F _ _ _).1 hs
    have hl : i < ds.length := by rw [hs.2.2.1]; exact hi
    dsimp only
    rw [rowP_kid hi hl]
    exact ⟨h1, h2, h3, ds[i].toNat_lt, trivial⟩
theorem pageA_full {p : PageT} {f : List UInt8} (hr : rightP p = true) (hf : f = numsB (natsP p)) : pageA f = p ∧ endA f = ⟨0, [], false⟩ := by
  obtain ⟨hs1, hs2⟩ := rightP_iff.1 hr
  have hn : p.keys.length ≤ 8 := by unfold shapeP at hs2; split at hs2 <;> omega
  have hk : (if p.leaf = true then 1 else 0) < 2 := by split <;> omega
  unfold natsP at hf
  rw [numsB_cons, numsB_cons] at hf
  obtain ⟨a1, a2⟩ := tk_full (t := tkA f) (bits := 1) (n := if p.leaf = true then 1 else 0) rfl rfl hf (by omega) (by omega)
  obtain ⟨a3, a4⟩ := tk_full (t := tkS (tkA f) 1) (bits := 4) (n := p.keys.length) (r := numsB (rowsP p.leaf p.keys p.locs p.kids p.keys.length)) (by rw [a2]) (by rw [a2]) (by rw [a2]) (by omega) (by omega)
  have e0 : lfA f = p.leaf := by
    unfold lfA; rw [a1]; cases p.leaf <;> rfl
  have e1 : cntA f = p.keys.length := by unfold cntA; rw [a3, ofNat32 (by omega)]
  have e2 : mA f = p.keys.length := by unfold mA; rw [e1]; omega
  have e3 : tk2A f = ⟨0, numsB (rowsP p.leaf p.keys p.locs p.kids p.keys.length), false⟩ := a4
  obtain ⟨b1, b2⟩ := rowT_full (lf := p.leaf) (t := tk2A f) (n := p.keys.length) (v := rowP p.leaf p.keys p.locs p.kids) (r := []) (by rw [e3]) (by rw [e3]) (by rw [e3]; simp [rowsP]) (fun i hi => rowP_fits hs2 hi) p.keys.length (Nat.le_refl _)
  refine ⟨?_, ?_⟩
  · unfold pageA
    rw [e0, e2]
    obtain ⟨lf, ks, ls, ds⟩ := p
    dsimp only at b1 hs2 ⊢
    have hks : keysA lf (tk2A f) ks.length = ks := by
      apply List.ext_getElem
      · rw [keysA_len]
      · intro i h1 h2
        have : (keysA lf (tk2A f) ks.length)[i] = keyA (rowV lf (tk2A f) i) := by simp [keysA]
        rw [this, b1 i h2]
        cases lf with
        | true =>
          have hs := (shapeP_T _ _ _).1 hs2
          rw [rowP_leaf h2 (by omega)]; exact keyA_of _ _
        | false =>
          have hs := (shapeP_F _ _ _).1 hs2
          rw [rowP_kid h2 (by omega)]; exact keyA_of _ _
    cases lf with
    | true =>
      have hs := (shapeP_T _ _ _).1 hs2
      have hls : locsA true (tk2A f) ks.length = ls := by
        apply List.ext_getElem
        · simp [locsA]; omega
        · intro i h1 h2
          have : (locsA true (tk2A f) ks.length)[i] = locA (rowV true (tk2A f) i) := by simp [locsA]
          rw [this, b1 i (by omega), rowP_leaf (by omega) h2]; exact locA_of _ _ _ _
      have hds : ds = [] := List.eq_nil_of_length_eq_zero hs.2.2
      rw [hks, hls, hds]; rfl
    | false =>
      have hs := (shapeP_F _ _ _).1 hs2
      have hds : kidsA false (tk2A f) ks.length = ds := by
        apply List.ext_getElem
        · simp [kidsA]; omega
        · intro i h1 h2
          have : (kidsA false (tk2A f) ks.length)[i] = kidA (rowV false (tk2A f) i) := by simp [kidsA]
          rw [this, b1 i (by omega), rowP_kid (by omega) h2]; exact kidA_of _ _ _ _
      have hls : ls = [] := List.eq_nil_of_length_eq_zero hs.2.2.2
      rw [hks, hds, hls]; rfl
  · unfold endA
    rw [e0, e2, b2]; simp [numsB]
theorem wrapB_inj {a b : List UInt8} (ha : a.length < 18446744073709551616) (hb : b.length < 18446744073709551616) (h : wrapB a = wrapB b) : a = b := by
  unfold wrapB fieldB at h
  rw [List.append_assoc, List.append_assoc] at h
  obtain ⟨h1, h2⟩ := putB_app_inj ha hb h
  exact (List.append_inj h2 h1).1
theorem natsP_len {p : PageT} (hr : rightP p = true) : (numsB (natsP p)).length ≤ 462 := by
  obtain ⟨hs1, hs2⟩ := rightP_iff.1 hr
  have hn : p.keys.length ≤ 8 := by unfold shapeP at hs2; split at hs2 <;> omega
  exact numsR_len _ _ _ _ _ _ hn
theorem encP_inj {u v : PageT} (hu : rightP u = true) (hv : rightP v = true) (h : encP u = encP v) : u = v := by
  have h1 := natsP_len hu; have h2 := natsP_len hv
  have h3 := wrapB_inj (by omega) (by omega) h
  rw [← (pageA_full hu rfl).1, h3, (pageA_full hv rfl).1]
theorem firstF_wrap {xs : List UInt8} (hl : xs.length ≤ 4096) (r : List UInt8) : firstF (wrapB xs ++ r) = (xs, (wrapB xs).length, 0) := by
  have hg : getB (wrapB xs ++ r) = (xs.length, (putB xs.length).length, 0) := by
    unfold wrapB fieldB
    rw [List.append_assoc, List.append_assoc]
    exact getB_putB _ (by omega) _
  have hf : (fieldB xs).length = (putB xs.length).length + xs.length := by unfold fieldB; rw [List.length_append]
  have hw : (wrapB xs).length = (putB xs.length).length + xs.length + 4 := by unfold wrapB; rw [List.length_append, hf, sum4_len]
  have ht : (wrapB xs ++ r).take ((putB xs.length).length + xs.length) = fieldB xs := by
    unfold wrapB; rw [List.append_assoc]; exact List.take_left' hf
  have hd : ((wrapB xs ++ r).drop ((putB xs.length).length + xs.length)).take 4 = sum4 (fieldB xs) := by
    unfold wrapB; rw [List.append_assoc, List.drop_left' hf]; exact List.take_left' (sum4_len _)
  unfold firstF
  rw [hg]
  dsimp only
  rw [if_neg (by omega), if_neg (by omega), if_neg (by rw [List.length_append, hw]; omega), ht, hd, if_neg (by simp), hw]
  unfold fieldB
  rw [List.drop_left' rfl]
theorem firstF_ok {b : List UInt8} (h : (firstF b).2.2 = 0) : b.take (firstF b).2.1 = wrapB (firstF b).1 ∧ (firstF b).1.length ≤ 4096 ∧ (firstF b).2.1 ≤ b.length := by
  have hwi := @wrap_iff b
  have hk := getB_le b
  generalize hF : firstF b = F at h ⊢
  unfold firstF at hF
  generalize getB b = G at hF hwi hk
  obtain ⟨n, k, e⟩ := G
  dsimp only at hF hk
  by_cases he : e = 0
  · subst he
    by_cases h1 : 4096 < n
    · rw [if_neg (by omega), if_pos h1] at hF; subst hF; cases h
    · by_cases h2 : b.length < k + n + 4
      · rw [if_neg (by omega), if_neg h1, if_pos h2] at hF; subst hF; cases h
      · by_cases h3 : sum4 (b.take (k + n)) = (b.drop (k + n)).take 4
        · rw [if_neg (by omega), if_neg h1, if_neg h2, if_neg (by simpa using h3)] at hF; subst hF
          dsimp only
          refine ⟨((hwi rfl (by omega)).2 h3).symm, ?_, by omega⟩
          simp; omega
        · rw [if_neg (by omega), if_neg h1, if_neg h2, if_pos h3] at hF; subst hF; cases h
  · rw [if_pos he] at hF; subst hF; exact absurd h he
end Go.Tg

