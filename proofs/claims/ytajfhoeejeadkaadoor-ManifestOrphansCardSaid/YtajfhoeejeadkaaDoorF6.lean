/- Contracts of Go functions that the laws reach: what each call answers and leaves in memory, for all arguments within the bounds that each theorem names. -/
import Derived.Test.YtajfhoeejeadkaaDoorInst
import Derived.Test.YtajfhoeejeadkaaDoorAuto
import Derived.Test.YtajfhoeejeadkaaDoorS1
import Derived.Test.YtajfhoeejeadkaaDoorQ9
import Derived.Test.YtajfhoeejeadkaaDoorG3
set_option linter.unusedVariables false
set_option linter.unusedSimpArgs false
set_option maxRecDepth 100000
set_option maxHeartbeats 4000000
namespace Go.Tg
open Go Go.Proofs
theorem numE_e0 {e : Int} {xs : List UInt8} (h : (numE e xs).2.2.1 = 0) : e = 0 ∧ (numE 0 xs).2.1 = 0 := by
  by_cases he : e = 0
  · subst he
    refine ⟨rfl, ?_⟩
    by_cases h2 : (numE 0 xs).2.1 = 0
    · exact h2
    · exact absurd h (numE_err2 h2).1
  · rw [numE_err he] at h; exact absurd h he
def bt2 (f : List UInt8) : List UInt8 × Int × Int × List UInt8 := bytesE (numE 0 f).2.2.1 (numE 0 f).2.2.2
theorem bytesE_e0 {e : Int} {xs : List UInt8} (h : (bytesE e xs).2.2.1 = 0) : e = 0 ∧ (bytesE e xs).2.1 = 0 := by
  unfold bytesE at h ⊢
  by_cases h1 : (numE e xs).2.1 = 0
  · rw [if_neg (by simpa using h1)] at h ⊢
    have he : e = 0 := Classical.byContradiction fun he => by rw [numE_err he] at h1; exact he h1
    refine ⟨he, ?_⟩
    by_cases h2 : (numE e xs).2.2.2.length < (numE e xs).1
    · rw [if_pos h2] at h; cases h
    · rw [if_neg h2]
  · rw [if_pos h1] at h
    obtain ⟨h2, h3⟩ := numE_e0 h
    rw [h2] at h1; exact absurd h3 h1
end Go.Tg

set_option linter.unusedVariables false
set_option linter.unusedSimpArgs false
set_option maxRecDepth 100000
set_option maxHeartbeats 4000000
namespace Go.Tg
open Go Go.Proofs
def tmS (t : TkT) : TkT := ⟨(numE t.e t.xs).2.2.1, (numE t.e t.xs).2.2.2, t.bad || !decide (tkN t / 4294967296 = 0)⟩
def tmL (t : TkT) : Nat → TkT
  | 0 => t
  | k + 1 => tmS (tmL t k)
def tmV (t : TkT) (k : Nat) : List Nat := (List.range k).map fun i => tkN (tmL t i)
theorem tmV_succ (t : TkT) (k : Nat) : tmV t (k + 1) = tmV t k ++ [tkN (tmL t k)] := by simp [tmV, List.range_succ]
theorem tm_sound {t : TkT} (hb : (tmS t).bad = false) (he : (tmS t).e = 0) : t.bad = false ∧ t.e = 0 ∧ t.xs = putB (tkN t) ++ (tmS t).xs ∧ tkN t < 4294967296 := by
  obtain ⟨h1, h2⟩ := numE_e0 he
  simp only [tmS, Bool.or_eq_false_iff, Bool.not_eq_false', decide_eq_true_eq] at hb
  refine ⟨hb.1, h1, ?_, by omega⟩
  have := numE_inv h2
  unfold tkN tmS
  rw [h1]; exact this
theorem tmL_sound {t : TkT} : ∀ {k : Nat}, (tmL t k).bad = false → (tmL t k).e = 0 → t.bad = false ∧ t.e = 0 ∧ t.xs = numsB (tmV t k) ++ (tmL t k).xs ∧ ∀ n, n ∈ tmV t k → n < 4294967296
  | 0, hb, he => ⟨hb, he, by simp [tmV, tmL, numsB], fun n h => (List.not_mem_nil h).elim⟩
  | k + 1, hb, he => by
    obtain ⟨h1, h2, h3, h4⟩ := tm_sound hb he
    obtain ⟨h5, h6, h7, h8⟩ := tmL_sound h1 h2
    refine ⟨h5, h6, ?_, fun n hn => ?_⟩
    · rw [h7, h3, tmV_succ, numsB_app, numsB_one, List.append_assoc]; rfl
    · rw [tmV_succ, List.mem_append, List.mem_singleton] at hn
      rcases hn with hn | rfl
      · exact h8 n hn
      · exact h4
theorem tm_full {t : TkT} {n : Nat} {r : List UInt8} (he : t.e = 0) (hb : t.bad = false) (hx : t.xs = putB n ++ r) (hn : n < 4294967296) : tkN t = n ∧ tmS t = ⟨0, r, false⟩ := by
  have h1 := numE_putB n (by omega) r
  have h2 : numE t.e t.xs = (n, 0, 0, r) := by rw [he, hx]; exact h1
  have h3 : tkN t = n := by unfold tkN; rw [h2]
  refine ⟨h3, ?_⟩
  unfold tmS
  rw [h2, hb, h3, decide_eq_true (by omega)]; rfl
theorem tmL_full {t : TkT} {l : List Nat} {r : List UInt8} (he : t.e = 0) (hb : t.bad = false) (hx : t.xs = numsB l ++ r) (hl : ∀ n, n ∈ l → n < 4294967296) : ∀ k, k ≤ l.length → tmL t k = ⟨0, numsB (l.drop k) ++ r, false⟩ ∧ tmV t k = l.take k
  | 0, _ => by
    obtain ⟨e, xs, bad⟩ := t
    simp only at he hb hx
    subst he; subst hb; subst hx
    exact ⟨by simp [tmL], rfl⟩
  | k + 1, hk => by
    obtain ⟨h1, h2⟩ := tmL_full he hb hx hl k (by omega)
    have h3 : l.drop k = l[k] :: l.drop (k + 1) := List.drop_eq_getElem_cons (by omega)
    have h4 := tm_full (t := tmL t k) (n := l[k]) (r := numsB (l.drop (k + 1)) ++ r) (by rw [h1]) (by rw [h1]) (by rw [h1, h3, numsB_cons, List.append_assoc]) (hl _ (List.getElem_mem (by omega)))
    refine ⟨h4.2, ?_⟩
    rw [tmV_succ, h2, h4.1, List.take_add_one, List.getElem?_eq_getElem (by omega)]; rfl
def zeroM : ManT := ⟨0, fun _ => 0, 0, [], 0⟩
def DecM (b : List UInt8) (x : ManT) (e : Int) : Prop := (e = 0 ∧ rightM x = true ∧ encM x = b) ∨ (e = 5 ∧ x = zeroM ∧ ∀ u, rightM u = true → encM u ≠ b)
theorem fldM_len {m : ManT} (h : rightM m = true) : (fldM m).length ≤ 1000 := by
  obtain ⟨⟨h1, h2, -⟩, -⟩ := rightM_iff.1 h
  have p1 := putB_len m.ver.toNat; have p2 := putB_len m.base.toNat; have p3 := putB_len m.segs.length
  have p4 := encV_len m.flr
  have p5 := fieldB_len' (encV m.flr)
  have p6 := n32_len (m.segs ++ [m.next])
  unfold fldM
  simp only [List.length_append, List.length_cons, List.length_nil] at p6 ⊢
  omega
theorem n32_lt (l : List UInt32) : ∀ n, n ∈ n32 l → n < 4294967296 := by
  intro n hn
  obtain ⟨x, -, rfl⟩ := List.mem_map.1 hn
  exact x.toNat_lt
theorem n32_inj {a b : List UInt32} (h : n32 a = n32 b) : a = b := by
  induction a generalizing b with
  | nil => cases b with
    | nil => rfl
    | cons y b => simp [n32] at h
  | cons x a ih => cases b with
    | nil => simp [n32] at h
    | cons y b =>
      simp only [n32, List.map_cons, List.cons.injEq] at h
      rw [UInt32.toNat_inj.1 h.1, ih h.2]
theorem fldM_inj {u v : ManT} (hu : rightM u = true) (hv : rightM v = true) (h : fldM u = fldM v) : u = v := by
  obtain ⟨⟨a1, a2, -⟩, -⟩ := rightM_iff.1 hu
  obtain ⟨⟨b1, b2, -⟩, -⟩ := rightM_iff.1 hv
  have q1 := encV_len u.flr; have q2 := encV_len v.flr
  have t1 := u.base.toNat_lt; have t2 := v.base.toNat_lt
  unfold fldM fieldB at h
  simp only [List.append_assoc] at h
  obtain ⟨h1, h⟩ := putB_app_inj u.ver.toNat_lt v.ver.toNat_lt h
  obtain ⟨h2, h⟩ := putB_app_inj (by omega) (by omega) h
  obtain ⟨h3, h⟩ := List.append_inj h h2
  obtain ⟨h4, h⟩ := putB_app_inj (by omega) (by omega) h
  obtain ⟨h5, h⟩ := putB_app_inj (by omega) (by omega) h
  have h6 := n32_inj (numsB_inj (fun n hn => by have := n32_lt _ n hn; omega) (fun n hn => by have := n32_lt _ n hn; omega) h)
  obtain ⟨h7, h8⟩ := List.append_inj h6 h5
  cases u; cases v
  simp only at h1 h3 h4 h7 h8
  rw [UInt64.toNat_inj.1 h1, encV_inj h3, UInt32.toNat_inj.1 h4, h7, (List.cons.inj h8).1]
theorem encM_inj {u v : ManT} (hu : rightM u = true) (hv : rightM v = true) (h : encM u = encM v) : u = v := by
  have h1 := fldM_len hu; have h2 := fldM_len hv
  exact fldM_inj hu hv (wrapB_inj (by omega) (by omega) h)
theorem DecM.unique {b : List UInt8} {x y : ManT} {e f : Int} (h : DecM b x e) (k : DecM b y f) : x = y ∧ e = f := by
  rcases h with ⟨h1, h2, h3⟩ | ⟨h1, h2, h3⟩ <;> rcases k with ⟨k1, k2, k3⟩ | ⟨k1, k2, k3⟩
  · exact ⟨encM_inj h2 k2 (h3.trans k3.symm), by omega⟩
  · exact absurd h3 (k3 x h2)
  · exact absurd k3 (h3 y k2)
  · exact ⟨h2.trans k2.symm, by omega⟩
open Classical in
noncomputable def decM (b : List UInt8) : ManT × Int := if h : ∃ m, rightM m = true ∧ encM m = b then (h.choose, 0) else (zeroM, 5)
theorem decM_spec (b : List UInt8) : DecM b (decM b).1 (decM b).2 := by
  unfold decM
  split
  · rename_i h; exact .inl ⟨rfl, h.choose_spec.1, h.choose_spec.2⟩
  · rename_i h; exact .inr ⟨rfl, rfl, fun u hu e => h ⟨u, hu, e⟩⟩
theorem decM_eq {b : List UInt8} {x : ManT} {e : Int} (h : DecM b x e) : decM b = (x, e) := by
  obtain ⟨h1, h2⟩ := h.unique (decM_spec b)
  exact Prod.ext h1.symm h2.symm
theorem decM_enc {m : ManT} (h : rightM m = true) : decM (encM m) = (m, 0) := decM_eq (.inl ⟨rfl, h, rfl⟩)
theorem firstF_encM {m : ManT} {b : List UInt8} (h : rightM m = true) (e : encM m = b) : firstF b = (fldM m, b.length, 0) := by
  have h1 := fldM_len h
  have := firstF_wrap (xs := fldM m) (by omega) []
  rw [List.append_nil, show wrapB (fldM m) = encM m from rfl, e] at this
  exact this
theorem decM_no {b : List UInt8} (h : ¬ ((firstF b).2.2 = 0 ∧ (firstF b).2.1 = b.length)) : DecM b zeroM 5 :=
  .inr ⟨rfl, rfl, fun u hu e => h (by rw [firstF_encM hu e]; exact ⟨rfl, rfl⟩)⟩
def verF (f : List UInt8) : Nat := (numE 0 f).1
def flrF (f : List UInt8) : List UInt8 := (bt2 f).1
def t0F (f : List UInt8) : TkT := ⟨(bt2 f).2.2.1, (bt2 f).2.2.2, false⟩
def cntF (f : List UInt8) : Nat := (UInt32.ofNat (tkN (tmL (t0F f) 1))).toNat
def mF (f : List UInt8) : Nat := min (cntF f) 65
def segsF (t : TkT) (k : Nat) : List UInt32 := (List.range k).map fun i => UInt32.ofNat (tkN (tmL t (2 + i)))
theorem segsF_succ (t : TkT) (k : Nat) : segsF t (k + 1) = segsF t k ++ [UInt32.ofNat (tkN (tmL t (2 + k)))] := by simp [segsF, List.range_succ]
theorem segsF_len (t : TkT) (k : Nat) : (segsF t k).length = k := by simp [segsF]
noncomputable def manF (f : List UInt8) : ManT := ⟨UInt64.ofNat (verF f), (decV (flrF f)).1, UInt32.ofNat (tkN (t0F f)), segsF (t0F f) (mF f), UInt32.ofNat (tkN (tmL (t0F f) (2 + mF f)))⟩
def endF (f : List UInt8) : TkT := tmL (t0F f) (3 + mF f)
end Go.Tg

set_option linter.unusedVariables false
set_option linter.unusedSimpArgs false
set_option maxRecDepth 100000
set_option maxHeartbeats 4000000
namespace Go.Tg
open Go Go.Proofs
theorem tmV_three (t : TkT) (m : Nat) : tmV t (3 + m) = tkN t :: tkN (tmL t 1) :: (List.range (m + 1)).map fun i => tkN (tmL t (2 + i)) := by
  induction m with
  | zero => simp [tmV, List.range_succ, tmL]
  | succ m ih =>
    rw [show 3 + (m + 1) = (3 + m) + 1 by omega, tmV_succ, ih, List.range_succ (n := m + 1), List.map_append]
    simp only [List.cons_append, List.map_cons, List.map_nil]
    rw [show 2 + (m + 1) = 3 + m by omega]
theorem n32_segsF (t : TkT) (m : Nat) (h : ∀ i, i < m + 1 → tkN (tmL t (2 + i)) < 4294967296) : n32 (segsF t m ++ [UInt32.ofNat (tkN (tmL t (2 + m)))]) = (List.range (m + 1)).map fun i => tkN (tmL t (2 + i)) := by
  rw [← segsF_succ]
  unfold n32 segsF
  rw [List.map_map]
  apply List.map_congr_left
  intro i hi
  have := h i (List.mem_range.1 hi)
  show (UInt32.ofNat (tkN (tmL t (2 + i)))).toNat = _
  exact ofNat32 this
theorem tm_get {t : TkT} {l : List Nat} {r : List UInt8} (he : t.e = 0) (hb : t.bad = false) (hx : t.xs = numsB l ++ r) (hl : ∀ n, n ∈ l → n < 4294967296) {i : Nat} (hi : i < l.length) : tkN (tmL t i) = l[i] := by
  obtain ⟨h1, -⟩ := tmL_full he hb hx hl i (by omega)
  have h3 : l.drop i = l[i] :: l.drop (i + 1) := List.drop_eq_getElem_cons (by omega)
  exact (tm_full (t := tmL t i) (n := l[i]) (r := numsB (l.drop (i + 1)) ++ r) (by rw [h1]) (by rw [h1]) (by rw [h1, h3, numsB_cons, List.append_assoc]) (hl _ (List.getElem_mem (by omega)))).1
def okF (f : List UInt8) : Prop := (decV (flrF f)).2 = 0 ∧ (endF f).bad = false ∧ (endF f).e = 0 ∧ (endF f).xs = [] ∧ rightM (manF f) = true
theorem manF_sound {f : List UInt8} (h : okF f) : fldM (manF f) = f := by
  obtain ⟨h1, h2, h3, h4, h5⟩ := h
  obtain ⟨g1, g2, g3, g4⟩ := tmL_sound h2 h3
  have g2 : (bt2 f).2.2.1 = 0 := g2
  obtain ⟨g5, g6⟩ := bytesE_e0 g2
  obtain ⟨-, g7⟩ := numE_e0 (e := 0) g5
  have g8 := numE_inv g7
  have g9 : (numE 0 f).2.2.2 = fieldB (flrF f) ++ (t0F f).xs := by
    unfold flrF t0F bt2
    rw [g5] at g6 ⊢
    exact bytesE_inv g6
  have g10 : encV (decV (flrF f)).1 = flrF f := by
    rcases decV_spec (flrF f) with ⟨_, h⟩ | ⟨h, _, _⟩
    · exact h
    · rw [h] at h1; cases h1
  have h4 : (tmL (t0F f) (3 + mF f)).xs = [] := h4
  rw [h4, List.append_nil, tmV_three] at g3
  rw [tmV_three] at g4
  have b0 := g4 _ (List.mem_cons_self ..)
  have b1 := g4 _ (List.mem_cons_of_mem _ (List.mem_cons_self ..))
  have b2 : ∀ i, i < mF f + 1 → tkN (tmL (t0F f) (2 + i)) < 4294967296 := fun i hi => g4 _ (List.mem_cons_of_mem _ (List.mem_cons_of_mem _ (List.mem_map.2 ⟨i, List.mem_range.2 hi, rfl⟩)))
  have hm : mF f = tkN (tmL (t0F f) 1) := by
    obtain ⟨⟨c1, c2, -⟩, -⟩ := rightM_iff.1 h5
    have c2 : (segsF (t0F f) (mF f)).length ≤ 64 := c2
    rw [segsF_len] at c2
    unfold mF cntF at c2 ⊢
    rw [ofNat32 b1] at c2 ⊢
    omega
  unfold fldM
  have e1 : (manF f).ver.toNat = (numE 0 f).1 := by
    have := numE_lt 0 f
    show (UInt64.ofNat (verF f)).toNat = _
    unfold verF; simp; omega
  have e2 : (manF f).base.toNat = tkN (t0F f) := ofNat32 b0
  have e3 : (manF f).segs.length = tkN (tmL (t0F f) 1) := by rw [← hm]; exact segsF_len _ _
  have e4 : n32 ((manF f).segs ++ [(manF f).next]) = (List.range (mF f + 1)).map fun i => tkN (tmL (t0F f) (2 + i)) := n32_segsF _ _ b2
  have e5 : encV (manF f).flr = flrF f := g10
  rw [e1, e2, e3, e4, e5]
  rw [numsB_cons, numsB_cons] at g3
  conv => rhs; rw [g8, g9, g3]
  simp only [List.append_assoc]
theorem manF_full {u : ManT} {f : List UInt8} (hr : rightM u = true) (hf : f = fldM u) : manF f = u ∧ okF f := by
  obtain ⟨ver, flr, base, segs, next⟩ := u
  obtain ⟨⟨c1, c2, -⟩, -⟩ := rightM_iff.1 hr
  have c1 : 1 ≤ segs.length := c1
  have c2 : segs.length ≤ 64 := c2
  have q1 := encV_len flr
  have t1 := base.toNat_lt
  have hf2 : f = putB ver.toNat ++ (fieldB (encV flr) ++ numsB (base.toNat :: segs.length :: n32 (segs ++ [next]))) := by
    rw [hf]; unfold fldM; rw [numsB_cons, numsB_cons]; simp only [List.append_assoc]
  have e1 := numE_putB ver.toNat ver.toNat_lt (fieldB (encV flr) ++ numsB (base.toNat :: segs.length :: n32 (segs ++ [next])))
  rw [← hf2] at e1
  have e2 : bt2 f = (encV flr, 0, 0, numsB (base.toNat :: segs.length :: n32 (segs ++ [next]))) := by
    unfold bt2; rw [e1]
    exact bytesE_fieldB (encV flr) _ (by omega)
  have e3 : t0F f = ⟨0, numsB (base.toNat :: segs.length :: n32 (segs ++ [next])), false⟩ := by unfold t0F; rw [e2]
  have e4 : flrF f = encV flr := by unfold flrF; rw [e2]
  have hl : ∀ n, n ∈ base.toNat :: segs.length :: n32 (segs ++ [next]) → n < 4294967296 := by
    intro n hn
    rw [List.mem_cons, List.mem_cons] at hn
    rcases hn with rfl | rfl | hn
    · exact t1
    · omega
    · exact n32_lt _ n hn
  have hlen : (base.toNat :: segs.length :: n32 (segs ++ [next])).length = 3 + segs.length := by simp [n32]; omega
  have hx : (t0F f).xs = numsB (base.toNat :: segs.length :: n32 (segs ++ [next])) ++ [] := by rw [e3, List.append_nil]
  have hg := fun i hi => tm_get (t := t0F f) (by rw [e3]) (by rw [e3]) hx hl (i := i) hi
  have hE := (tmL_full (t := t0F f) (by rw [e3]) (by rw [e3]) hx hl (3 + segs.length) (by omega)).1
  have h1 := hg 0 (by omega)
  have h2 := hg 1 (by omega)
  have hc : cntF f = segs.length := by
    unfold cntF; rw [h2]
    exact ofNat32 (by show segs.length < _; omega)
  have hm : mF f = segs.length := by unfold mF; rw [hc]; omega
  have hs : ∀ i, i < segs.length + 1 → tkN (tmL (t0F f) (2 + i)) = (n32 (segs ++ [next])).getD i 0 := fun i hi => by
    rw [hg (2 + i) (by omega)]
    have hlt : i < (n32 (segs ++ [next])).length := by simp [n32]; omega
    have : 2 + i = i + 1 + 1 := by omega
    simp only [this, List.getElem_cons_succ, List.getD_eq_getElem?_getD, List.getElem?_eq_getElem hlt, Option.getD_some]
  have hman : manF f = ⟨ver, flr, base, segs, next⟩ := by
    unfold manF
    rw [e4, decV_enc, hm]
    have f1 : UInt64.ofNat (verF f) = ver := by unfold verF; rw [e1]; simp
    have f2 : UInt32.ofNat (tkN (t0F f)) = base := by
      rw [show tkN (t0F f) = base.toNat from h1]; simp
    have f3 : UInt32.ofNat (tkN (tmL (t0F f) (2 + segs.length))) = next := by
      rw [hs segs.length (by omega)]; simp [n32, List.getD_eq_getElem?_getD]
    have f4 : segsF (t0F f) segs.length = segs := by
      apply List.ext_getElem
      · rw [segsF_len]
      · intro i g1 g2
        have : (segsF (t0F f) segs.length)[i] = UInt32.ofNat (tkN (tmL (t0F f) (2 + i))) := by simp [segsF]
        rw [this, hs i (by omega)]
        simp [n32, List.getD_eq_getElem?_getD, List.getElem?_append_left, g2]
    dsimp only at f1 f2 f3 f4 ⊢
    rw [f1, f2, f3, f4]
  refine ⟨hman, by rw [e4, decV_enc], ?_, ?_, ?_, by rw [hman]; exact hr⟩
  all_goals
    unfold endF
    rw [hm, hE]
  · rw [← hlen, List.drop_length]; rfl
theorem decM_F {b f : List UInt8} {k : Nat} (hF : firstF b = (f, k, 0)) (hk : k = b.length) : (okF f → decM b = (manF f, 0)) ∧ (¬ okF f → decM b = (zeroM, 5)) := by
  have h1 := firstF_ok (b := b) (by rw [hF])
  rw [hF] at h1
  dsimp only at h1
  constructor
  · intro hc
    refine decM_eq (.inl ⟨rfl, hc.2.2.2.2, ?_⟩)
    unfold encM
    rw [manF_sound hc, ← h1.1, hk, List.take_length]
  · intro hc
    refine decM_eq (.inr ⟨rfl, rfl, fun u hu e => hc ?_⟩)
    rw [firstF_encM hu e] at hF
    injection hF with h2 _
    exact (manF_full hu h2.symm).2
abbrev tkm (b7 b8 br : Nat) (t : TkT) (a : Option Addr) (c : Nat) : HA := .both (.both (.blk b7 (.cells [pt br].toArray 127 (0, 0))) (.blk b8 (.cells [Value.bool t.bad].toArray 4 (0, 0)))) (rdr br true t.e a t.xs.length c)
theorem man_num (b7 b8 br : Nat) (t : TkT) (a : Option Addr) (c : Nat) (g : FH) (w : World) (HO : St w (tkm b7 b8 br t a c).fp g g [tkm b7 b8 br t a c] w) (hr : BS g a c t.xs) :
    Spec Tryd.prog 93 #[pt b7, pt b8] w (tkm b7 b8 br t a c).fp g (fun v' h' L' => v' = .int .u32 (UInt32.ofNat (tkN t)).toNat ∧ h' = g ∧ ∃ a' c', BS g a' c' (tmS t).xs ∧ L' = [tkm b7 b8 br (tmS t) a' c']) := by
  have H := HO.split.split
  have hn := numE_lt t.e t.xs
  have hu := u32_wrap2 (numE t.e t.xs).1
  unfold Spec
  refine calls_of Tryd.func93 rfl Tryd.ntmps93 (by simp) ?_
  cases hb : t.bad with
  | true =>
    rw [hb] at H
    repeat' (first | ((first | refine WL.p rfl ?_ | refine WL.u ?_ | refine WL.g rfl rfl ?_ | refine WL.gu rfl ?_); first | (refine opk 1 rfl ?_; (refine ost_H (A := rdr _ _ _ _ _ _) H rfl (by (exact ixQ)) (fun HO => rd_Num _ _ _ _ _ _ _ HO hr) rfl ?_; clear H; rintro vk wk hfk Lk ⟨rfl, rfl, a2, c2, hr2, rfl⟩ hle H; simp only [List.cons_append, List.nil_append, List.eraseIdx_cons_zero, List.eraseIdx_cons_succ] at H)) | (refine opk 6 rfl ?_; (refine ost_conv rfl rfl ?_)) | refine pvQ ?_ | (refine opk 3 rfl ?_; (refine ost_cmp rfl rfl rfl rfl (fun hc => ?_) (fun hc => ?_) <;> (simp only [cmpP] at hc; try exact prIQ))) | (refine opk 4 rfl ?_; (refine ost_cmp rfl rfl rfl rfl (fun hc => ?_) (fun hc => ?_) <;> (simp only [cmpP] at hc; try exact prIQ))) | (refine opk 8 rfl ?_; (refine ost_store1 H rfl rfl vlQ gvQ ixQ (by first | decide | (simp; omega) | (simp; done) | omega) ?_; clear H; intro wk H; simp only [List.set_cons_zero, List.set_cons_succ, Nat.reduceAdd] at H))) | refine Wc.seq ?_ | refine then_n ?_ | refine WL.nil ?_ | refine Wc.region ?_ | refine Wc.block ?_ | refine then_r ?_ | refine then_e ?_ | refine inb_e rfl ?_ | refine inb_o rfl ?_ | refine inb_n ?_ | refine inb_r ?_ | refine Wc.skip ?_ | refine Wc.exit ?_ | refine Wc.ret ?_ | refine Wc.cond_true rfl ?_ | refine Wc.cond_false rfl ?_ | refine WL.skp rfl rfl ?_ | refine WL.sku rfl ?_)
    have e : (tmS t).bad = true := by simp [tmS, hb]
    exact fn_ret1 (v := .int _ _) rfl rfl ⟨_, _, (H.picks [1, 2, 0] rfl (by decide)).join.join, hu, rfl, a2, c2, hr2, by simp only [tkm]; rw [e]⟩
  | false =>
    rw [hb] at H
    repeat' (first | ((first | refine WL.p rfl ?_ | refine WL.u ?_ | refine WL.g rfl rfl ?_ | refine WL.gu rfl ?_); first | (refine opk 1 rfl ?_; (refine ost_H (A := rdr _ _ _ _ _ _) H rfl (by (exact ixQ)) (fun HO => rd_Num _ _ _ _ _ _ _ HO hr) rfl ?_; clear H; rintro vk wk hfk Lk ⟨rfl, rfl, a2, c2, hr2, rfl⟩ hle H; simp only [List.cons_append, List.nil_append, List.eraseIdx_cons_zero, List.eraseIdx_cons_succ] at H)) | (refine opk 6 rfl ?_; (refine ost_conv rfl rfl ?_)) | refine pvQ ?_ | (refine opk 3 rfl ?_; (refine ost_cmp rfl rfl rfl rfl (fun hc => ?_) (fun hc => ?_) <;> (simp only [cmpP] at hc; try exact prIQ))) | (refine opk 4 rfl ?_; (refine ost_cmp rfl rfl rfl rfl (fun hc => ?_) (fun hc => ?_) <;> (simp only [cmpP] at hc; try exact prIQ))) | (refine opk 8 rfl ?_; (refine ost_store1 H rfl rfl vlQ gvQ ixQ (by first | decide | (simp; omega) | (simp; done) | omega) ?_; clear H; intro wk H; simp only [List.set_cons_zero, List.set_cons_succ, Nat.reduceAdd] at H))) | refine Wc.seq ?_ | refine then_n ?_ | refine WL.nil ?_ | refine Wc.region ?_ | refine Wc.block ?_ | refine then_r ?_ | refine then_e ?_ | refine inb_e rfl ?_ | refine inb_o rfl ?_ | refine inb_n ?_ | refine inb_r ?_ | refine Wc.skip ?_ | refine Wc.exit ?_ | refine Wc.ret ?_ | refine Wc.cond_true rfl ?_ | refine Wc.cond_false rfl ?_ | refine WL.skp rfl rfl ?_ | refine WL.sku rfl ?_)
    all_goals
      have hd : ((numE t.e t.xs).1 : Int).fdiv (2 ^ min (Int.toNat 32) IntKind.u64.bits) = ((tkN t / 4294967296 : Nat) : Int) := by
        rw [show (2 ^ min (Int.toNat 32) IntKind.u64.bits : Int) = 4294967296 by decide, Int.fdiv_eq_ediv_of_nonneg _ (by decide)]
        unfold tkN; simp
      rw [hd] at hc
    · have e : (tmS t).bad = true := by
        have : tkN t / 4294967296 ≠ 0 := by omega
        simp [tmS, this]
      exact fn_ret1 (v := .int _ _) rfl rfl ⟨_, _, (H.picks [1, 2, 0] rfl (by decide)).join.join, hu, rfl, a2, c2, hr2, by simp only [tkm]; rw [e]⟩
    · have e : (tmS t).bad = false := by
        have : tkN t / 4294967296 = 0 := by omega
        simp [tmS, this, hb]
      exact fn_ret1 (v := .int _ _) rfl rfl ⟨_, _, (H.picks [1, 2, 0] rfl (by decide)).join.join, hu, rfl, a2, c2, hr2, by simp only [tkm]; rw [e]⟩
end Go.Tg

