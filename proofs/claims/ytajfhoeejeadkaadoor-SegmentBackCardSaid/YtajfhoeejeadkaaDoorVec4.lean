/- Contracts of Go functions that the laws reach: what each call answers and leaves in memory, for all arguments within the bounds that each theorem names. -/
import Derived.Test.YtajfhoeejeadkaaDoorInst
import Derived.Test.YtajfhoeejeadkaaDoorAuto
import Derived.Test.YtajfhoeejeadkaaDoorQ8
import Derived.Test.YtajfhoeejeadkaaDoorPick
import Derived.Test.YtajfhoeejeadkaaDoorO1
import Derived.Test.YtajfhoeejeadkaaDoorW7
set_option linter.unusedVariables false
set_option linter.unusedSimpArgs false
set_option maxRecDepth 100000
set_option maxHeartbeats 4000000
namespace Go.Tg
open Go Go.Proofs
theorem keyA_of (k : KeyT) (l : List Nat) : keyA (k.cart.toNat :: k.dot.rep.toNat :: k.dot.seq.toNat :: l) = k := by
  obtain ⟨c, ⟨r, q⟩⟩ := k
  simp [keyA]
theorem locA_of (x : LocT) (a b c : Nat) : locA [a, b, c, x.seg.toNat, x.at_.toNat] = x := by
  obtain ⟨s, t⟩ := x
  simp [locA]
theorem kidA_of (x : UInt32) (a b c : Nat) : kidA [a, b, c, x.toNat] = x := by simp [kidA]
theorem ofNat32 {n : Nat} (h : n < 4294967296) : (UInt32.ofNat n).toNat = n := by simp; omega
theorem rowP_fits {p : PageT} (hs : shapeP p) {i : Nat} (hi : i < p.keys.length) : fits (rowP p.leaf p.keys p.locs p.kids i) (bitsR p.leaf) := by
  obtain ⟨lf, ks, ls, ds⟩ := p
  have h1 := ks[i].cart.toNat_lt; have h2 := ks[i].dot.rep.toNat_lt; have h3 := ks[i].dot.seq.toNat_lt
  cases lf with
  | true =>
    have hs := (shapeP_T _ _ _).1 hs
    have hl : i < ls.length := by rw [hs.2.1]; exact hi
    dsimp only
    rw [rowP_leaf hi hl]
    exact ⟨h1, h2, h3, ls[i].seg.toNat_lt, ls[i].at_.toNat_lt, trivial⟩
  | false =>
    have hs := (shapeP_F _ _ _).1 hs
    have hl : i < ds.length := by rw [hs.2.2.1]; exact hi
    dsimp only
    rw [rowP_kid hi hl]
    exact ⟨h1, h2, h3, ds[i].toNat_lt, trivial⟩
theorem pageA_full {p : PageT} {f : List UInt8} (hr : rightP p = true) (hf : f = numsB (natsP p)) : pageA f = p ∧ endA f = ⟨0, [], false⟩ := by
  obtain ⟨hs1, hs2⟩ := rightP_iff.1 hr
  have hn : p.keys.length ≤ 8 := by unfold shapeP at hs2; split at hs2 <;> omega
  have hk : (if p.leaf = true then 1 else 0) < 2 := by split <;> omega
  unfold natsP at hf
  rw [numsB_cons, numsB_cons] at hf
  obtain ⟨a1, a2⟩ := tk_full (t := tkA f) (bits := 1) (n := if p.leaf = true then 1 else 0) rfl rfl hf (by omega) (by omega)
  obtain ⟨a3, a4⟩ := tk_full (t := tkS (tkA f) 1) (bits := 4) (n := p.keys.length) (r := numsB (rowsP p.leaf p.keys p.locs p.kids p.keys.length)) (by rw [a2]) (by rw [a2]) (by rw [a2]) (by omega) (by omega)
  have e0 : lfA f = p.leaf := by
    unfold lfA; rw [a1]; cases p.leaf <;> rfl
  have e1 : cntA f = p.keys.length := by unfold cntA; rw [a3, ofNat32 (by omega)]
  have e2 : mA f = p.keys.length := by unfold mA; rw [e1]; omega
  have e3 : tk2A f = ⟨0, numsB (rowsP p.leaf p.keys p.locs p.kids p.keys.length), false⟩ := a4
  obtain ⟨b1, b2⟩ := rowT_full (lf := p.leaf) (t := tk2A f) (n := p.keys.length) (v := rowP p.leaf p.keys p.locs p.kids) (r := []) (by rw [e3]) (by rw [e3]) (by rw [e3]; simp [rowsP]) (fun i hi => rowP_fits hs2 hi) p.keys.length (Nat.le_refl _)
  refine ⟨?_, ?_⟩
  · unfold pageA
    rw [e0, e2]
    obtain ⟨lf, ks, ls, ds⟩ := p
    dsimp only at b1 hs2 ⊢
    have hks : keysA lf (tk2A f) ks.length = ks := by
      apply List.ext_getElem
      · rw [keysA_len]
      · intro i h1 h2
        have : (keysA lf (tk2A f) ks.length)[i] = keyA (rowV lf (tk2A f) i) := by simp [keysA]
        rw [this, b1 i h2]
        cases lf with
        | true =>
          have hs := (shapeP_T _ _ _).1 hs2
          rw [rowP_leaf h2 (by omega)]; exact keyA_of _ _
        | false =>
          have hs := (shapeP_F _ _ _).1 hs2
          rw [rowP_kid h2 (by omega)]; exact keyA_of _ _
    cases lf with
    | true =>
      have hs := (shapeP_T _ _ _).1 hs2
      have hls : locsA true (tk2A f) ks.length = ls := by
        apply List.ext_getElem
        · simp [locsA]; omega
        · intro i h1 h2
          have : (locsA true (tk2A f) ks.length)[i] = locA (rowV true (tk2A f) i) := by simp [locsA]
          rw [this, b1 i (by omega), rowP_leaf (by omega) h2]; exact locA_of _ _ _ _
      have hds : ds = [] := List.eq_nil_of_length_eq_zero hs.2.2
      rw [hks, hls, hds]; rfl
    | false =>
      have hs := (shapeP_F _ _ _).1 hs2
      have hds : kidsA false (tk2A f) ks.length = ds := by
        apply List.ext_getElem
        · simp [kidsA]; omega
        · intro i h1 h2
          have : (kidsA false (tk2A f) ks.length)[i] = kidA (rowV false (tk2A f) i) := by simp [kidsA]
          rw [this, b1 i (by omega), rowP_kid (by omega) h2]; exact kidA_of _ _ _ _
      have hls : ls = [] := List.eq_nil_of_length_eq_zero hs.2.2.2
      rw [hks, hds, hls]; rfl
  · unfold endA
    rw [e0, e2, b2]; simp [numsB]
theorem wrapB_inj {a b : List UInt8} (ha : a.length < 18446744073709551616) (hb : b.length < 18446744073709551616) (h : wrapB a = wrapB b) : a = b := by
  unfold wrapB fieldB at h
  rw [List.append_assoc, List.append_assoc] at h
  obtain ⟨h1, h2⟩ := putB_app_inj ha hb h
  exact (List.append_inj h2 h1).1
theorem natsP_len {p : PageT} (hr : rightP p = true) : (numsB (natsP p)).length ≤ 462 := by
  obtain ⟨hs1, hs2⟩ := rightP_iff.1 hr
  have hn : p.keys.length ≤ 8 := by unfold shapeP at hs2; split at hs2 <;> omega
  exact numsR_len _ _ _ _ _ _ hn
theorem encP_inj {u v : PageT} (hu : rightP u = true) (hv : rightP v = true) (h : encP u = encP v) : u = v := by
  have h1 := natsP_len hu; have h2 := natsP_len hv
  have h3 := wrapB_inj (by omega) (by omega) h
  rw [← (pageA_full hu rfl).1, h3, (pageA_full hv rfl).1]
theorem firstF_wrap {xs : List UInt8} (hl : xs.length ≤ 4096) (r : List UInt8) : firstF (wrapB xs ++ r) = (xs, (wrapB xs).length, 0) := by
  have hg : getB (wrapB xs ++ r) = (xs.length, (putB xs.length).length, 0) := by
    unfold wrapB fieldB
    rw [List.append_assoc, List.append_assoc]
    exact getB_putB _ (by omega) _
  have hf : (fieldB xs).length = (putB xs.length).length + xs.length := by unfold fieldB; rw [List.length_append]
  have hw : (wrapB xs).length = (putB xs.length).length + xs.length + 4 := by unfold wrapB; rw [List.length_append, hf, sum4_len]
  have ht : (wrapB xs ++ r).take ((putB xs.length).length + xs.length) = fieldB xs := by
    unfold wrapB; rw [List.append_assoc]; exact List.take_left' hf
  have hd : ((wrapB xs ++ r).drop ((putB xs.length).length + xs.length)).take 4 = sum4 (fieldB xs) := by
    unfold wrapB; rw [List.append_assoc, List.drop_left' hf]; exact List.take_left' (sum4_len _)
  unfold firstF
  rw [hg]
  dsimp only
  rw [if_neg (by omega), if_neg (by omega), if_neg (by rw [List.length_append, hw]; omega), ht, hd, if_neg (by simp), hw]
  unfold fieldB
  rw [List.drop_left' rfl]
theorem firstF_ok {b : List UInt8} (h : (firstF b).2.2 = 0) : b.take (firstF b).2.1 = wrapB (firstF b).1 ∧ (firstF b).1.length ≤ 4096 ∧ (firstF b).2.1 ≤ b.length := by
  have hwi := @wrap_iff b
  have hk := getB_le b
  generalize hF : firstF b = F at h ⊢
  unfold firstF at hF
  generalize getB b = G at hF hwi hk
  obtain ⟨n, k, e⟩ := G
  dsimp only at hF hk
  by_cases he : e = 0
  · subst he
    by_cases h1 : 4096 < n
    · rw [if_neg (by omega), if_pos h1] at hF; subst hF; cases h
    · by_cases h2 : b.length < k + n + 4
      · rw [if_neg (by omega), if_neg h1, if_pos h2] at hF; subst hF; cases h
      · by_cases h3 : sum4 (b.take (k + n)) = (b.drop (k + n)).take 4
        · rw [if_neg (by omega), if_neg h1, if_neg h2, if_neg (by simpa using h3)] at hF; subst hF
          dsimp only
          refine ⟨((hwi rfl (by omega)).2 h3).symm, ?_, by omega⟩
          simp; omega
        · rw [if_neg (by omega), if_neg h1, if_neg h2, if_pos h3] at hF; subst hF; cases h
  · rw [if_pos he] at hF; subst hF; exact absurd h he
end Go.Tg

set_option linter.unusedVariables false
set_option linter.unusedSimpArgs false
set_option maxRecDepth 100000
set_option maxHeartbeats 4000000
namespace Go.Tg
open Go Go.Proofs
def zeroP : PageT := ⟨false, [], [], []⟩
def DecP (b : List UInt8) (x : PageT) (e : Int) : Prop := (e = 0 ∧ rightP x = true ∧ encP x = b) ∨ (e = 15 ∧ x = zeroP ∧ ∀ u, rightP u = true → encP u ≠ b)
theorem DecP.unique {b : List UInt8} {x y : PageT} {e f : Int} (h : DecP b x e) (k : DecP b y f) : x = y ∧ e = f := by
  rcases h with ⟨h1, h2, h3⟩ | ⟨h1, h2, h3⟩ <;> rcases k with ⟨k1, k2, k3⟩ | ⟨k1, k2, k3⟩
  · exact ⟨encP_inj h2 k2 (h3.trans k3.symm), by omega⟩
  · exact absurd h3 (k3 x h2)
  · exact absurd k3 (h3 y k2)
  · exact ⟨h2.trans k2.symm, by omega⟩
end Go.Tg

set_option linter.unusedVariables false
set_option linter.unusedSimpArgs false
set_option maxRecDepth 100000
set_option maxHeartbeats 4000000
namespace Go.Tg
open Go Go.Proofs
def v2 (x y : UInt32) : V16 := fun i => if i.val = 0 then x else if i.val = 1 then y else 0
end Go.Tg

