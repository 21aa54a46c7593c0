/- Contracts of Go functions that the laws reach: what each call answers and leaves in memory, for all arguments within the bounds that each theorem names. -/
import Derived.Test.YtajfhoeejeadkaaDoorInst
import Derived.Test.YtajfhoeejeadkaaDoorAuto
import Derived.Test.YtajfhoeejeadkaaDoorQ8
set_option linter.unusedVariables false
set_option linter.unusedSimpArgs false
set_option maxRecDepth 100000
set_option maxHeartbeats 4000000
namespace Go.Tg
open Go Go.Proofs
theorem keyA_of (k : KeyT) (l : List Nat) : keyA (k.cart.toNat :: k.dot.rep.toNat :: k.dot.seq.toNat :: l) = k := by
  obtain ⟨c, ⟨r, q⟩⟩ := k
  simp [keyA]
theorem locA_of (x : LocT) (a b c : Nat) : locA [a, b, c, x.seg.toNat, x.at_.toNat] = x := by
  obtain ⟨s, t⟩ := x
  simp [locA]
theorem kidA_of (x : UInt32) (a b c : Nat) : kidA [a, b, c, x.toNat] = x := by simp [kidA]
theorem fits_leaf {v : List Nat} (h : fits v (bitsR true)) : v = [(keyA v).cart.toNat, (keyA v).dot.rep.toNat, (keyA v).dot.seq.toNat, (locA v).seg.toNat, (locA v).at_.toNat] := by
  match v, h with
  | [a, b, c, d, e], ⟨h1, h2, h3, h4, h5, _⟩ =>
    have h1 : a < 65536 := h1
    have h2 : b < 256 := h2
    have h3 : c < 4294967296 := h3
    have h4 : d < 4294967296 := h4
    have h5 : e < 4294967296 := h5
    simp [keyA, locA]; omega
theorem fits_kid {v : List Nat} (h : fits v (bitsR false)) : v = [(keyA v).cart.toNat, (keyA v).dot.rep.toNat, (keyA v).dot.seq.toNat, (kidA v).toNat] := by
  match v, h with
  | [a, b, c, d], ⟨h1, h2, h3, h4, _⟩ =>
    have h1 : a < 65536 := h1
    have h2 : b < 256 := h2
    have h3 : c < 4294967296 := h3
    have h4 : d < 4294967296 := h4
    simp [keyA, kidA]; omega
theorem rowP_A {lf : Bool} {t : TkT} {m i : Nat} (hi : i < m) (hf : fits (rowV lf t i) (bitsR lf)) : rowP lf (keysA lf t m) (locsA lf t m) (kidsA lf t m) i = rowV lf t i := by
  have hk : i < (keysA lf t m).length := by rw [keysA_len]; exact hi
  have ek : (keysA lf t m)[i] = keyA (rowV lf t i) := by simp [keysA]
  cases lf with
  | true =>
    have hl : i < (locsA true t m).length := by simp [locsA]; exact hi
    have el : (locsA true t m)[i] = locA (rowV true t i) := by simp [locsA]
    rw [rowP_leaf hk hl, ek, el]
    exact (fits_leaf hf).symm
  | false =>
    have hl : i < (kidsA false t m).length := by simp [kidsA]; exact hi
    have el : (kidsA false t m)[i] = kidA (rowV false t i) := by simp [kidsA]
    rw [rowP_kid hk hl, ek, el]
    exact (fits_kid hf).symm
theorem ofNat32 {n : Nat} (h : n < 4294967296) : (UInt32.ofNat n).toNat = n := by simp; omega
theorem pageA_sound {f : List UInt8} (hb : (endA f).bad = false) (he : (endA f).e = 0) (hx : (endA f).xs = []) (hr : rightP (pageA f) = true) : f = numsB (natsP (pageA f)) := by
  obtain ⟨h1, h2, h3, h4⟩ := rowT_clean hb he
  obtain ⟨h5, h6, h7, h8⟩ := tk_sound h1 h2 (by decide)
  obtain ⟨h9, h10, h11, h12⟩ := tk_sound h5 h6 (by decide)
  have h13 : f = putB (tkN (tkA f)) ++ (tkS (tkA f) 1).xs := h11
  have e0 : lfA f = decide (tkN (tkA f) = 1) := by unfold lfA; rw [ofNat32 (by omega)]
  have e1 : cntA f = tkN (tkS (tkA f) 1) := by unfold cntA; rw [ofNat32 (by omega)]
  have hm : mA f = tkN (tkS (tkA f) 1) := by
    obtain ⟨-, hs⟩ := rightP_iff.1 hr
    have : (pageA f).keys.length ≤ 8 := by unfold shapeP at hs; split at hs <;> omega
    rw [show (pageA f).keys.length = mA f from keysA_len _ _ _] at this
    unfold mA at this ⊢
    rw [e1] at this ⊢
    omega
  have hrows : ((List.range (mA f)).map (rowV (lfA f) (tk2A f))).flatten = rowsP (lfA f) (pageA f).keys (pageA f).locs (pageA f).kids (mA f) := by
    unfold rowsP
    congr 1
    apply List.map_congr_left
    intro i hi
    exact (rowP_A (List.mem_range.1 hi) (h4 i (List.mem_range.1 hi))).symm
  have h14 : (tk2A f).xs = numsB (rowsP (lfA f) (pageA f).keys (pageA f).locs (pageA f).kids (mA f)) := by
    rw [h3, hrows]
    have : (rowT (lfA f) (tk2A f) (mA f)).xs = [] := hx
    rw [this, List.append_nil]
  unfold natsP
  rw [show (pageA f).keys.length = mA f from keysA_len _ _ _, show (pageA f).leaf = lfA f from rfl, numsB_cons, numsB_cons, ← h14]
  have e2 : (if lfA f = true then 1 else 0) = tkN (tkA f) := by
    rw [e0]
    have : tkN (tkA f) < 2 := h12
    by_cases h : tkN (tkA f) = 1
    · simp [h]
    · have : tkN (tkA f) = 0 := by omega
      simp [this]
  rw [e2, hm]
  have h15 : (tkS (tkA f) 1).xs = putB (tkN (tkS (tkA f) 1)) ++ (tk2A f).xs := h7
  rw [← h15]; exact h13
theorem rowP_fits {p : PageT} (hs : shapeP p) {i : Nat} (hi : i < p.keys.length) : fits (rowP p.leaf p.keys p.locs p.kids i) (bitsR p.leaf) := by
  obtain ⟨lf, ks, ls, ds⟩ := p
  have h1 := ks[i].cart.toNat_lt; have h2 := ks[i].dot.rep.toNat_lt; have h3 := ks[i].dot.seq.toNat_lt
  cases lf with
  | true =>
    have hs := (shapeP_T _ _ _).1 hs
    have hl : i < ls.length := by rw [hs.2.1]; exact hi
    dsimp only
    rw [rowP_leaf hi hl]
    exact ⟨h1, h2, h3, ls[i].seg.toNat_lt, ls[i].at_.toNat_lt, trivial⟩
  | false =>
    have hs := (shapeP_F _ _ _).1 hs
    have hl : i < ds.length := by rw [hs.2.2.1]; exact hi
    dsimp only
    rw [rowP_kid hi hl]
    exact ⟨h1, h2, h3, ds[i].toNat_lt, trivial⟩
theorem pageA_full {p : PageT} {f : List UInt8} (hr : rightP p = true) (hf : f = numsB (natsP p)) : pageA f = p ∧ endA f = ⟨0, [], false⟩ := by
  obtain ⟨hs1, hs2⟩ := rightP_iff.1 hr
  have hn : p.keys.length ≤ 8 := by unfold shapeP at hs2; split at hs2 <;> omega
  have hk : (if p.leaf = true then 1 else 0) < 2 := by split <;> omega
  unfold natsP at hf
  rw [numsB_cons, numsB_cons] at hf
  obtain ⟨a1, a2⟩ := tk_full (t := tkA f) (bits := 1) (n := if p.leaf = true then 1 else 0) rfl rfl hf (by omega) (by omega)
  obtain ⟨a3, a4⟩ := tk_full (t := tkS (tkA f) 1) (bits := 4) (n := p.keys.length) (r := numsB (rowsP p.leaf p.keys p.locs p.kids p.keys.length)) (by rw [a2]) (by rw [a2]) (by rw [a2]) (by omega) (by omega)
  have e0 : lfA f = p.leaf := by
    unfold lfA; rw [a1]; cases p.leaf <;> rfl
  have e1 : cntA f = p.keys.length := by unfold cntA; rw [a3, ofNat32 (by omega)]
  have e2 : mA f = p.keys.length := by unfold mA; rw [e1]; omega
  have e3 : tk2A f = ⟨0, numsB (rowsP p.leaf p.keys p.locs p.kids p.keys.length), false⟩ := a4
  obtain ⟨b1, b2⟩ := rowT_full (lf := p.leaf) (t := tk2A f) (n := p.keys.length) (v := rowP p.leaf p.keys p.locs p.kids) (r := []) (by rw [e3]) (by rw [e3]) (by rw [e3]; simp [rowsP]) (fun i hi => rowP_fits hs2 hi) p.keys.length (Nat.le_refl _)
  refine ⟨?_, ?_⟩
  · unfold pageA
    rw [e0, e2]
    obtain ⟨lf, ks, ls, ds⟩ := p
    dsimp only at b1 hs2 ⊢
    have hks : keysA lf (tk2A f) ks.length = ks := by
      apply List.ext_getElem
      · rw [keysA_len]
      · intro i h1 h2
        have : (keysA lf (tk2A f) ks.length)[i] = keyA (rowV lf (tk2A f) i) := by simp [keysA]
        rw [this, b1 i h2]
        cases lf with
        | true =>
          have hs := (shapeP_T _ _ _).1 hs2
          rw [rowP_leaf h2 (by omega)]; exact keyA_of _ _
        | false =>
          have hs := (shapeP_F _ _ _).1 hs2
          rw [rowP_kid h2 (by omega)]; exact keyA_of _ _
    cases lf with
    | true =>
      have hs := (shapeP_T _ _ _).1 hs2
      have hls : locsA true (tk2A f) ks.length = ls := by
        apply List.ext_getElem
        · simp [locsA]; omega
        · intro i h1 h2
          have : (locsA true (tk2A f) ks.length)[i] = locA (rowV true (tk2A f) i) := by simp [locsA]
          rw [this, b1 i (by omega), rowP_leaf (by omega) h2]; exact locA_of _ _ _ _
      have hds : ds = [] := List.eq_nil_of_length_eq_zero hs.2.2
      rw [hks, hls, hds]; rfl
    | false =>
      have hs := (shapeP_F _ _ _).1 hs2
      have hds : kidsA false (tk2A f) ks.length = ds := by
        apply List.ext_getElem
        · simp [kidsA]; omega
        · intro i h1 h2
          have : (kidsA false (tk2A f) ks.length)[i] = kidA (rowV false (tk2A f) i) := by simp [kidsA]
          rw [this, b1 i (by omega), rowP_kid (by omega) h2]; exact kidA_of _ _ _ _
      have hls : ls = [] := List.eq_nil_of_length_eq_zero hs.2.2.2
      rw [hks, hds, hls]; rfl
  · unfold endA
    rw [e0, e2, b2]; simp [numsB]
theorem wrapB_inj {a b : List UInt8} (ha : a.length < 18446744073709551616) (hb : b.length < 18446744073709551616) (h : wrapB a = wrapB b) : a = b := by
  unfold wrapB fieldB at h
  rw [List.append_assoc, List.append_assoc] at h
  obtain ⟨h1, h2⟩ := putB_app_inj ha hb h
  exact (List.append_inj h2 h1).1
theorem natsP_len {p : PageT} (hr : rightP p = true) : (numsB (natsP p)).length ≤ 462 := by
  obtain ⟨hs1, hs2⟩ := rightP_iff.1 hr
  have hn : p.keys.length ≤ 8 := by unfold shapeP at hs2; split at hs2 <;> omega
  exact numsR_len _ _ _ _ _ _ hn
theorem encP_inj {u v : PageT} (hu : rightP u = true) (hv : rightP v = true) (h : encP u = encP v) : u = v := by
  have h1 := natsP_len hu; have h2 := natsP_len hv
  have h3 := wrapB_inj (by omega) (by omega) h
  rw [← (pageA_full hu rfl).1, h3, (pageA_full hv rfl).1]
theorem firstF_wrap {xs : List UInt8} (hl : xs.length ≤ 4096) (r : List UInt8) : firstF (wrapB xs ++ r) = (xs, (wrapB xs).length, 0) := by
  have hg : getB (wrapB xs ++ r) = (xs.length, (putB xs.length).length, 0) := by
    unfold wrapB fieldB
    rw [List.append_assoc, List.append_assoc]
    exact getB_putB _ (by omega) _
  have hf : (fieldB xs).length = (putB xs.length).length + xs.length := by unfold fieldB; rw [List.length_append]
  have hw : (wrapB xs).length = (putB xs.length).length + xs.length + 4 := by unfold wrapB; rw [List.length_append, hf, sum4_len]
  have ht : (wrapB xs ++ r).take ((putB xs.length).length + xs.length) = fieldB xs := by
    unfold wrapB; rw [List.append_assoc]; exact List.take_left' hf
  have hd : ((wrapB xs ++ r).drop ((putB xs.length).length + xs.length)).take 4 = sum4 (fieldB xs) := by
    unfold wrapB; rw [List.append_assoc, List.drop_left' hf]; exact List.take_left' (sum4_len _)
  unfold firstF
  rw [hg]
  dsimp only
  rw [if_neg (by omega), if_neg (by omega), if_neg (by rw [List.length_append, hw]; omega), ht, hd, if_neg (by simp), hw]
  unfold fieldB
  rw [List.drop_left' rfl]
theorem firstF_ok {b : List UInt8} (h : (firstF b).2.2 = 0) : b.take (firstF b).2.1 = wrapB (firstF b).1 ∧ (firstF b).1.length ≤ 4096 ∧ (firstF b).2.1 ≤ b.length := by
  have hwi := @wrap_iff b
  have hk := getB_le b
  generalize hF : firstF b = F at h ⊢
  unfold firstF at hF
  generalize getB b = G at hF hwi hk
  obtain ⟨n, k, e⟩ := G
  dsimp only at hF hk
  by_cases he : e = 0
  · subst he
    by_cases h1 : 4096 < n
    · rw [if_neg (by omega), if_pos h1] at hF; subst hF; cases h
    · by_cases h2 : b.length < k + n + 4
      · rw [if_neg (by omega), if_neg h1, if_pos h2] at hF; subst hF; cases h
      · by_cases h3 : sum4 (b.take (k + n)) = (b.drop (k + n)).take 4
        · rw [if_neg (by omega), if_neg h1, if_neg h2, if_neg (by simpa using h3)] at hF; subst hF
          dsimp only
          refine ⟨((hwi rfl (by omega)).2 h3).symm, ?_, by omega⟩
          simp; omega
        · rw [if_neg (by omega), if_neg h1, if_neg h2, if_pos h3] at hF; subst hF; cases h
  · rw [if_pos he] at hF; subst hF; exact absurd h he
end Go.Tg

