/- Contracts of Go functions that the laws reach: what each call answers and leaves in memory, for all arguments within the bounds that each theorem names. -/
import Derived.Test.YtajfhoeejeadkaaDoorInst
import Derived.Test.YtajfhoeejeadkaaDoorAuto
import Derived.Test.YtajfhoeejeadkaaDoorF4
import Derived.Test.YtajfhoeejeadkaaDoorQ9
set_option linter.unusedVariables false
set_option linter.unusedSimpArgs false
set_option maxRecDepth 100000
set_option maxHeartbeats 4000000
namespace Go.Tg
open Go Go.Proofs
structure InfT where
  id : UInt32
  ops : List OpT
  ats : List Nat
  sld : Bool
  used : Nat
end Go.Tg

set_option linter.unusedVariables false
set_option linter.unusedSimpArgs false
set_option maxRecDepth 100000
set_option maxHeartbeats 4000000
namespace Go.Tg
open Go Go.Proofs
theorem numE_e0 {e : Int} {xs : List UInt8} (h : (numE e xs).2.2.1 = 0) : e = 0 ∧ (numE 0 xs).2.1 = 0 := by
  by_cases he : e = 0
  · subst he
    refine ⟨rfl, ?_⟩
    by_cases h2 : (numE 0 xs).2.1 = 0
    · exact h2
    · exact absurd h (numE_err2 h2).1
  · rw [numE_err he] at h; exact absurd h he
def bt2 (f : List UInt8) : List UInt8 × Int × Int × List UInt8 := bytesE (numE 0 f).2.2.1 (numE 0 f).2.2.2
theorem bytesE_e0 {e : Int} {xs : List UInt8} (h : (bytesE e xs).2.2.1 = 0) : e = 0 ∧ (bytesE e xs).2.1 = 0 := by
  unfold bytesE at h ⊢
  by_cases h1 : (numE e xs).2.1 = 0
  · rw [if_neg (by simpa using h1)] at h ⊢
    have he : e = 0 := Classical.byContradiction fun he => by rw [numE_err he] at h1; exact he h1
    refine ⟨he, ?_⟩
    by_cases h2 : (numE e xs).2.2.2.length < (numE e xs).1
    · rw [if_pos h2] at h; cases h
    · rw [if_neg h2]
  · rw [if_pos h1] at h
    obtain ⟨h2, h3⟩ := numE_e0 h
    rw [h2] at h1; exact absurd h3 h1
end Go.Tg

set_option linter.unusedVariables false
set_option linter.unusedSimpArgs false
set_option maxRecDepth 100000
set_option maxHeartbeats 4000000
namespace Go.Tg
open Go Go.Proofs
def tmS (t : TkT) : TkT := ⟨(numE t.e t.xs).2.2.1, (numE t.e t.xs).2.2.2, t.bad || !decide (tkN t / 4294967296 = 0)⟩
def tmL (t : TkT) : Nat → TkT
  | 0 => t
  | k + 1 => tmS (tmL t k)
def tmV (t : TkT) (k : Nat) : List Nat := (List.range k).map fun i => tkN (tmL t i)
theorem tmV_succ (t : TkT) (k : Nat) : tmV t (k + 1) = tmV t k ++ [tkN (tmL t k)] := by simp [tmV, List.range_succ]
theorem tm_sound {t : TkT} (hb : (tmS t).bad = false) (he : (tmS t).e = 0) : t.bad = false ∧ t.e = 0 ∧ t.xs = putB (tkN t) ++ (tmS t).xs ∧ tkN t < 4294967296 := by
  obtain ⟨h1, h2⟩ := numE_e0 he
  simp only [tmS, Bool.or_eq_false_iff, Bool.not_eq_false', decide_eq_true_eq] at hb
  refine ⟨hb.1, h1, ?_, by omega⟩
  have := numE_inv h2
  unfold tkN tmS
  rw [h1]; exact this
theorem tmL_sound {t : TkT} : ∀ {k : Nat}, (tmL t k).bad = false → (tmL t k).e = 0 → t.bad = false ∧ t.e = 0 ∧ t.xs = numsB (tmV t k) ++ (tmL t k).xs ∧ ∀ n, n ∈ tmV t k → n < 4294967296
  | 0, hb, he => ⟨hb, he, by simp [tmV, tmL, numsB], fun n h => (List.not_mem_nil h).elim⟩
  | k + 1, hb, he => by
    obtain ⟨h1, h2, h3, h4⟩ := tm_sound hb he
    obtain ⟨h5, h6, h7, h8⟩ := tmL_sound h1 h2
    refine ⟨h5, h6, ?_, fun n hn => ?_⟩
    · rw [h7, h3, tmV_succ, numsB_app, numsB_one, List.append_assoc]; rfl
    · rw [tmV_succ, List.mem_append, List.mem_singleton] at hn
      rcases hn with hn | rfl
      · exact h8 n hn
      · exact h4
theorem tm_full {t : TkT} {n : Nat} {r : List UInt8} (he : t.e = 0) (hb : t.bad = false) (hx : t.xs = putB n ++ r) (hn : n < 4294967296) : tkN t = n ∧ tmS t = ⟨0, r, false⟩ := by
  have h1 := numE_putB n (by omega) r
  have h2 : numE t.e t.xs = (n, 0, 0, r) := by rw [he, hx]; exact h1
  have h3 : tkN t = n := by unfold tkN; rw [h2]
  refine ⟨h3, ?_⟩
  unfold tmS
  rw [h2, hb, h3, decide_eq_true (by omega)]; rfl
theorem tmL_full {t : TkT} {l : List Nat} {r : List UInt8} (he : t.e = 0) (hb : t.bad = false) (hx : t.xs = numsB l ++ r) (hl : ∀ n, n ∈ l → n < 4294967296) : ∀ k, k ≤ l.length → tmL t k = ⟨0, numsB (l.drop k) ++ r, false⟩ ∧ tmV t k = l.take k
  | 0, _ => by
    obtain ⟨e, xs, bad⟩ := t
    simp only at he hb hx
    subst he; subst hb; subst hx
    exact ⟨by simp [tmL], rfl⟩
  | k + 1, hk => by
    obtain ⟨h1, h2⟩ := tmL_full he hb hx hl k (by omega)
    have h3 : l.drop k = l[k] :: l.drop (k + 1) := List.drop_eq_getElem_cons (by omega)
    have h4 := tm_full (t := tmL t k) (n := l[k]) (r := numsB (l.drop (k + 1)) ++ r) (by rw [h1]) (by rw [h1]) (by rw [h1, h3, numsB_cons, List.append_assoc]) (hl _ (List.getElem_mem (by omega)))
    refine ⟨h4.2, ?_⟩
    rw [tmV_succ, h2, h4.1, List.take_add_one, List.getElem?_eq_getElem (by omega)]; rfl
def zeroM : ManT := ⟨0, fun _ => 0, 0, [], 0⟩
def DecM (b : List UInt8) (x : ManT) (e : Int) : Prop := (e = 0 ∧ rightM x = true ∧ encM x = b) ∨ (e = 5 ∧ x = zeroM ∧ ∀ u, rightM u = true → encM u ≠ b)
theorem fldM_len {m : ManT} (h : rightM m = true) : (fldM m).length ≤ 1000 := by
  obtain ⟨⟨h1, h2, -⟩, -⟩ := rightM_iff.1 h
  have p1 := putB_len m.ver.toNat; have p2 := putB_len m.base.toNat; have p3 := putB_len m.segs.length
  have p4 := encV_len m.flr
  have p5 := fieldB_len' (encV m.flr)
  have p6 := n32_len (m.segs ++ [m.next])
  unfold fldM
  simp only [List.length_append, List.length_cons, List.length_nil] at p6 ⊢
  omega
theorem n32_lt (l : List UInt32) : ∀ n, n ∈ n32 l → n < 4294967296 := by
  intro n hn
  obtain ⟨x, -, rfl⟩ := List.mem_map.1 hn
  exact x.toNat_lt
theorem n32_inj {a b : List UInt32} (h : n32 a = n32 b) : a = b := by
  induction a generalizing b with
  | nil => cases b with
    | nil => rfl
    | cons y b => simp [n32] at h
  | cons x a ih => cases b with
    | nil => simp [n32] at h
    | cons y b =>
      simp only [n32, List.map_cons, List.cons.injEq] at h
      rw [UInt32.toNat_inj.1 h.1, ih h.2]
theorem fldM_inj {u v : ManT} (hu : rightM u = true) (hv : rightM v = true) (h : fldM u = fldM v) : u = v := by
  obtain ⟨⟨a1, a2, -⟩, -⟩ := rightM_iff.1 hu
  obtain ⟨⟨b1, b2, -⟩, -⟩ := rightM_iff.1 hv
  have q1 := encV_len u.flr; have q2 := encV_len v.flr
  have t1 := u.base.toNat_lt; have t2 := v.base.toNat_lt
  unfold fldM fieldB at h
  simp only [List.append_assoc] at h
  obtain ⟨h1, h⟩ := putB_app_inj u.ver.toNat_lt v.ver.toNat_lt h
  obtain ⟨h2, h⟩ := putB_app_inj (by omega) (by omega) h
  obtain ⟨h3, h⟩ := List.append_inj h h2
  obtain ⟨h4, h⟩ := putB_app_inj (by omega) (by omega) h
  obtain ⟨h5, h⟩ := putB_app_inj (by omega) (by omega) h
  have h6 := n32_inj (numsB_inj (fun n hn => by have := n32_lt _ n hn; omega) (fun n hn => by have := n32_lt _ n hn; omega) h)
  obtain ⟨h7, h8⟩ := List.append_inj h6 h5
  cases u; cases v
  simp only at h1 h3 h4 h7 h8
  rw [UInt64.toNat_inj.1 h1, encV_inj h3, UInt32.toNat_inj.1 h4, h7, (List.cons.inj h8).1]
theorem encM_inj {u v : ManT} (hu : rightM u = true) (hv : rightM v = true) (h : encM u = encM v) : u = v := by
  have h1 := fldM_len hu; have h2 := fldM_len hv
  exact fldM_inj hu hv (wrapB_inj (by omega) (by omega) h)
theorem DecM.unique {b : List UInt8} {x y : ManT} {e f : Int} (h : DecM b x e) (k : DecM b y f) : x = y ∧ e = f := by
  rcases h with ⟨h1, h2, h3⟩ | ⟨h1, h2, h3⟩ <;> rcases k with ⟨k1, k2, k3⟩ | ⟨k1, k2, k3⟩
  · exact ⟨encM_inj h2 k2 (h3.trans k3.symm), by omega⟩
  · exact absurd h3 (k3 x h2)
  · exact absurd k3 (h3 y k2)
  · exact ⟨h2.trans k2.symm, by omega⟩
open Classical in
noncomputable def decM (b : List UInt8) : ManT × Int := if h : ∃ m, rightM m = true ∧ encM m = b then (h.choose, 0) else (zeroM, 5)
theorem decM_spec (b : List UInt8) : DecM b (decM b).1 (decM b).2 := by
  unfold decM
  split
  · rename_i h; exact .inl ⟨rfl, h.choose_spec.1, h.choose_spec.2⟩
  · rename_i h; exact .inr ⟨rfl, rfl, fun u hu e => h ⟨u, hu, e⟩⟩
theorem decM_eq {b : List UInt8} {x : ManT} {e : Int} (h : DecM b x e) : decM b = (x, e) := by
  obtain ⟨h1, h2⟩ := h.unique (decM_spec b)
  exact Prod.ext h1.symm h2.symm
theorem decM_enc {m : ManT} (h : rightM m = true) : decM (encM m) = (m, 0) := decM_eq (.inl ⟨rfl, h, rfl⟩)
theorem firstF_encM {m : ManT} {b : List UInt8} (h : rightM m = true) (e : encM m = b) : firstF b = (fldM m, b.length, 0) := by
  have h1 := fldM_len h
  have := firstF_wrap (xs := fldM m) (by omega) []
  rw [List.append_nil, show wrapB (fldM m) = encM m from rfl, e] at this
  exact this
theorem decM_no {b : List UInt8} (h : ¬ ((firstF b).2.2 = 0 ∧ (firstF b).2.1 = b.length)) : DecM b zeroM 5 :=
  .inr ⟨rfl, rfl, fun u hu e => h (by rw [firstF_encM hu e]; exact ⟨rfl, rfl⟩)⟩
def verF (f : List UInt8) : Nat := (numE 0 f).1
def flrF (f : List UInt8) : List UInt8 := (bt2 f).1
def t0F (f : List UInt8) : TkT := ⟨(bt2 f).2.2.1, (bt2 f).2.2.2, false⟩
def cntF (f : List UInt8) : Nat := (UInt32.ofNat (tkN (tmL (t0F f) 1))).toNat
def mF (f : List UInt8) : Nat := min (cntF f) 65
def segsF (t : TkT) (k : Nat) : List UInt32 := (List.range k).map fun i => UInt32.ofNat (tkN (tmL t (2 + i)))
theorem segsF_succ (t : TkT) (k : Nat) : segsF t (k + 1) = segsF t k ++ [UInt32.ofNat (tkN (tmL t (2 + k)))] := by simp [segsF, List.range_succ]
theorem segsF_len (t : TkT) (k : Nat) : (segsF t k).length = k := by simp [segsF]
noncomputable def manF (f : List UInt8) : ManT := ⟨UInt64.ofNat (verF f), (decV (flrF f)).1, UInt32.ofNat (tkN (t0F f)), segsF (t0F f) (mF f), UInt32.ofNat (tkN (tmL (t0F f) (2 + mF f)))⟩
def endF (f : List UInt8) : TkT := tmL (t0F f) (3 + mF f)
end Go.Tg

