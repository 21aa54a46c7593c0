/- The memory of a walk: what is frozen (h), what is owned (L), and what a call may do to them. -/
import Derived.Test.YtbfilhaigbebpaaCore
set_option linter.unusedVariables false
namespace Go.Tg
open Go

abbrev FH := Nat → Option Obj
def Sat (h : FH) (w : World) : Prop := ∀ k o, h k = some o → w.heap[k]? = some o
def full (w : World) : FH := fun k => w.heap[k]?
theorem sat_full (w : World) : Sat (full w) w := fun _ _ h => h
def FLe (h h' : FH) : Prop := ∀ k o, h k = some o → h' k = some o
theorem FLe.refl (h : FH) : FLe h h := fun _ _ e => e
theorem FLe.trans {a b c : FH} (h : FLe a b) (k : FLe b c) : FLe a c := fun i o e => k i o (h i o e)
theorem Sat.le {h : FH} {w : World} (s : Sat h w) : FLe h (full w) := s

inductive HA where
  | blk (b : Nat) (o : Obj)
  | own (v : Value) (e : TypeId) (size : Nat) (n : Nat) (xs : List Value)
  | both (A B : HA)
def HA.fp : HA → List Nat
  | .blk b _ => [b]
  | .own v _ _ _ _ => v.ownBlock.toList
  | .both A B => A.fp ++ B.fp
def HA.ok (w : World) : HA → Prop
  | .blk b o => w.heap[b]? = some o
  | .own v e size n xs => w.ownsRow 0 e size v n xs
  | .both A B => A.ok w ∧ B.ok w ∧ ∀ k, k ∈ A.fp → k ∉ B.fp
theorem HA.lt {A : HA} {w : World} (h : A.ok w) : ∀ k ∈ A.fp, k < w.heap.size := by
  intro k hk
  induction A with
  | blk b o =>
    simp [fp] at hk; subst hk
    exact (Array.getElem?_eq_some_iff.1 h).1
  | own v e size n xs =>
    simp [fp] at hk
    exact (World.ownsRow.lt h k hk).2
  | both A B ihA ihB =>
    simp only [fp, List.mem_append] at hk
    rcases hk with hk | hk
    · exact ihA h.1 hk
    · exact ihB h.2.1 hk
theorem HA.loc {A : HA} {w w' : World} (h : A.ok w) (hk : ∀ k ∈ A.fp, w'.heap[k]? = w.heap[k]?) : A.ok w' := by
  induction A with
  | blk b o => exact (hk b (by simp [fp])).trans h
  | own v e size n xs =>
    refine ⟨h.1, ?_⟩
    rcases h.2 with hn | ⟨g, cap, cur, rfl, hb, hg, rest⟩
    · exact .inl hn
    · exact .inr ⟨g, cap, cur, rfl, hb, (hk g (by simp [fp, Value.ownBlock])).trans hg, rest⟩
  | both A B ihA ihB =>
    exact ⟨ihA h.1 fun k hk' => hk k (by simp [fp, hk']), ihB h.2.1 fun k hk' => hk k (by simp [fp, hk']), h.2.2⟩


structure St (ws : World) (S : List Nat) (h0 h : FH) (L : List HA) (w : World) : Prop where
  fr : Fr S ws w
  sat : Sat h w
  ok : ∀ (i : Nat) (A : HA), L[i]? = some A → A.ok w
  ap : ∀ (i j : Nat) (A B : HA), i ≠ j → L[i]? = some A → L[j]? = some B → ∀ k, k ∈ A.fp → k ∉ B.fp
  own : ∀ (i : Nat) (A : HA), L[i]? = some A → ∀ k, k ∈ A.fp → h k = none ∧ (k ∈ S ∨ ws.heap.size ≤ k)
  gr : ∀ k, k < ws.heap.size → k ∉ S → h k = h0 k

theorem Fr.mono {S S' : List Nat} {w w' : World} (h : Fr S w w') (hs : ∀ k, k ∈ S → k ∈ S') : Fr S' w w' :=
  ⟨h.os, h.tape, h.output, h.size, fun k hk hS => h.keep k hk fun e => hS (hs k e)⟩
theorem lt_of_some {w : World} {k : Nat} {o : Obj} (h : w.heap[k]? = some o) : k < w.heap.size := (Array.getElem?_eq_some_iff.1 h).1

section
variable {ws w w' : World} {S : List Nat} {h0 h : FH} {L L' : List HA}
theorem St.le (H : St ws [] h0 h L w) (hs : Sat h0 ws) : FLe h0 h := fun k o e => by
  rw [H.gr k (lt_of_some (hs k o e)) (by simp)]; exact e
theorem St.lt (H : St ws S h0 h L w) {i : Nat} {A : HA} (hi : L[i]? = some A) : ∀ k ∈ A.fp, k < w.heap.size := HA.lt (H.ok i A hi)
theorem St.hnone (H : St ws S h0 h L w) {k : Nat} (hk : w.heap.size ≤ k) : h k = none := by
  cases e : h k with
  | none => rfl
  | some o => have := lt_of_some (H.sat k o e); omega
theorem St.start (hs : Sat h0 ws) : St ws [] h0 h0 [] ws := ⟨Fr.refl _ _, hs, fun _ _ h => by simp at h, fun _ _ _ _ _ h => by simp at h, fun _ _ h => by simp at h, fun _ _ _ => rfl⟩

theorem St.ext (H : St ws S h0 h L w) (hE : Ext w w') : St ws S h0 h L w' where
  fr := H.fr.trans (hE.mono (by simp))
  sat k o e := (hE.keep k (lt_of_some (H.sat k o e)) (by simp)).trans (H.sat k o e)
  ok i A hA := HA.loc (H.ok i A hA) fun k hk => hE.keep k (HA.lt (H.ok i A hA) k hk) (by simp)
  ap := H.ap
  own := H.own
  gr := H.gr

theorem St.repl (H : St ws S h0 h L w) {i : Nat} {A A' : HA} (hi : L[i]? = some A) (hF : Fr A.fp w w') (hok : A'.ok w')
    (hfp : ∀ k, k ∈ A'.fp → k ∈ A.fp ∨ w.heap.size ≤ k) : St ws S h0 h (L.set i A') w' := by
  have get : ∀ (j : Nat) (B : HA), (L.set i A')[j]? = some B → (j = i ∧ B = A') ∨ (j ≠ i ∧ L[j]? = some B) := fun j B hj => by
    rw [List.getElem?_set] at hj
    split at hj
    · rename_i hij
      split at hj
      · simp at hj; exact .inl ⟨hij.symm, hj.symm⟩
      · cases hj
    · rename_i hij; exact .inr ⟨Ne.symm hij, hj⟩
  have hsub : ∀ k, k ∈ A.fp → k ∈ S ∨ ws.heap.size ≤ k := fun k hk => (H.own i A hi k hk).2
  have keep : ∀ (j : Nat) (B : HA), j ≠ i → L[j]? = some B → ∀ k ∈ B.fp, w'.heap[k]? = w.heap[k]? := fun j B hji hj k hk =>
    hF.keep k (H.lt hj k hk) (fun hA => H.ap i j A B (Ne.symm hji) hi hj k hA hk)
  refine ⟨⟨hF.os.trans H.fr.os, hF.tape.trans H.fr.tape, hF.output.trans H.fr.output, Nat.le_trans H.fr.size hF.size, fun k hk hS => ?_⟩, fun k o e => ?_, fun j B hj => ?_, fun j l B C hjl hj hl k hB hC => ?_, fun j B hj k hk => ?_, H.gr⟩
  · exact (hF.keep k (Nat.lt_of_lt_of_le hk H.fr.size) fun hA => by rcases hsub k hA with h | h; exact hS h; omega).trans (H.fr.keep k hk hS)
  · exact (hF.keep k (lt_of_some (H.sat k o e)) fun hA => by rw [(H.own i A hi k hA).1] at e; cases e).trans (H.sat k o e)
  · rcases get j B hj with ⟨_, rfl⟩ | ⟨hji, hj⟩
    · exact hok
    · exact HA.loc (H.ok j B hj) (keep j B hji hj)
  · rcases get j B hj with ⟨e1, e2⟩ | ⟨hji, hj'⟩ <;> rcases get l C hl with ⟨e3, e4⟩ | ⟨hli, hl'⟩
    · exact hjl (e1.trans e3.symm)
    · subst e1; subst e2
      rcases hfp k hB with h | h
      · exact H.ap j l A C hjl hi hl' k h hC
      · have := H.lt hl' k hC; omega
    · subst e3; subst e4
      rcases hfp k hC with h | h
      · exact H.ap j l B A hjl hj' hi k hB h
      · have := H.lt hj' k hB; omega
    · exact H.ap j l B C hjl hj' hl' k hB hC
  · rcases get j B hj with ⟨rfl, rfl⟩ | ⟨hji, hj⟩
    · rcases hfp k hk with h | h
      · exact H.own j A hi k h
      · exact ⟨H.hnone h, .inr (Nat.le_trans H.fr.size h)⟩
    · exact H.own j B hj k hk

theorem St.sub (H : St ws S h0 h L w) {L' : List HA} (f : Nat → Nat) (hf : ∀ (i : Nat) (A : HA), L'[i]? = some A → L[f i]? = some A) (hinj : ∀ i j, i < L'.length → j < L'.length → f i = f j → i = j) : St ws S h0 h L' w where
  fr := H.fr
  sat := H.sat
  ok i A hA := H.ok (f i) A (hf i A hA)
  ap i j A B hij hi hj := H.ap (f i) (f j) A B (fun e => hij (hinj i j (List.getElem?_eq_some_iff.1 hi).1 (List.getElem?_eq_some_iff.1 hj).1 e)) (hf i A hi) (hf j B hj)
  own i A hA := H.own (f i) A (hf i A hA)
  gr := H.gr

theorem St.cons (H : St ws S h0 h L w) {A : HA} (hE : Ext w w') (hok : A.ok w') (hfp : ∀ k, k ∈ A.fp → w.heap.size ≤ k) : St ws S h0 h (A :: L) w' := by
  have H' := H.ext hE
  refine ⟨H'.fr, H'.sat, fun i B hi => ?_, fun i j B C hij hi hj k hB hC => ?_, fun i B hi k hk => ?_, H.gr⟩
  · cases i with
    | zero => simp at hi; subst hi; exact hok
    | succ i => exact H'.ok i B (by simpa using hi)
  · cases i with
    | zero =>
      simp at hi; subst hi
      cases j with
      | zero => exact hij rfl
      | succ j => have := H.lt (i := j) (by simpa using hj) k hC; have := hfp k hB; omega
    | succ i =>
      cases j with
      | zero => simp at hj; subst hj; have := H.lt (i := i) (by simpa using hi) k hB; have := hfp k hC; omega
      | succ j => exact H.ap i j B C (by omega) (by simpa using hi) (by simpa using hj) k hB hC
  · cases i with
    | zero => simp at hi; subst hi; exact ⟨H.hnone (hfp k hk), .inr (Nat.le_trans H.fr.size (hfp k hk))⟩
    | succ i => exact H.own i B (by simpa using hi) k hk

theorem ext_alloc (w : World) (o : Obj) : Ext w (w.alloc o) := ⟨rfl, rfl, rfl, by simp, fun k hk _ => heap_alloc_old w o k hk⟩
theorem St.alloc (H : St ws S h0 h L w) (o : Obj) : St ws S h0 h (.blk w.heap.size o :: L) (w.alloc o) :=
  H.cons (ext_alloc w o) (heap_alloc_new w o) (by simp [HA.fp])
theorem ext_drew (w : World) : Ext w w.drew := ⟨rfl, rfl, rfl, Nat.le_refl _, fun _ _ _ => rfl⟩

theorem St.call {g h' : FH} {L' : List HA} (H : St ws S h0 h L w) (hg : FLe h g) (C : St w [] g h' L' w') :
    St ws S h0 (fun k => if k < w.heap.size then h k else h' k) (L' ++ L) w' := by
  have H' := H.ext C.fr
  have get : ∀ (i : Nat) (A : HA), (L' ++ L)[i]? = some A → (i < L'.length ∧ L'[i]? = some A) ∨ (L'.length ≤ i ∧ L[i - L'.length]? = some A) := fun i A hi => by
    by_cases hl : i < L'.length
    · rw [List.getElem?_append_left hl] at hi; exact .inl ⟨hl, hi⟩
    · rw [List.getElem?_append_right (by omega)] at hi; exact .inr ⟨by omega, hi⟩
  have new : ∀ (i : Nat) (A : HA), L'[i]? = some A → ∀ k, k ∈ A.fp → w.heap.size ≤ k := fun i A hi k hk => by
    rcases (C.own i A hi k hk).2 with h | h
    · cases h
    · exact h
  refine ⟨H'.fr, fun k o e => ?_, fun i A hi => ?_, fun i j A B hij hi hj k hA hB => ?_, fun i A hi k hk => ?_, fun k hk hS => ?_⟩
  · split at e
    · exact H'.sat k o e
    · exact C.sat k o e
  · rcases get i A hi with ⟨_, h⟩ | ⟨_, h⟩
    · exact C.ok _ _ h
    · exact H'.ok _ _ h
  · rcases get i A hi with ⟨h1, h⟩ | ⟨h1, h⟩ <;> rcases get j B hj with ⟨h2, h'⟩ | ⟨h2, h'⟩
    · exact C.ap i j A B hij h h' k hA hB
    · have := new _ _ h k hA; have := H.lt h' k hB; omega
    · have := new _ _ h' k hB; have := H.lt h k hA; omega
    · exact H.ap _ _ A B (by omega) h h' k hA hB
  · rcases get i A hi with ⟨_, h⟩ | ⟨_, h⟩
    · have hn := new _ _ h k hk
      simp only [show ¬ k < w.heap.size by omega, if_false]
      exact ⟨(C.own _ _ h k hk).1, .inr (Nat.le_trans H.fr.size hn)⟩
    · have := H.lt h k hk
      simp only [this, if_true]
      exact H.own _ _ h k hk
  · have := Nat.lt_of_lt_of_le hk H.fr.size
    simp only [this, if_true]
    exact H.gr k hk hS
theorem St.callh {h' : FH} {L' : List HA} (H : St ws S h0 h L w) (C : St w [] h h' L' w') : St ws S h0 h' (L' ++ L) w' := by
  have := H.call (FLe.refl h) C
  have e : (fun k => if k < w.heap.size then h k else h' k) = h' := by
    funext k; split
    · exact (C.gr k ‹_› (by simp)).symm
    · rfl
  rwa [e] at this

theorem St.call1 {g h' : FH} {L' : List HA} {i : Nat} {A : HA} (H : St ws S h0 h L w) (hi : L[i]? = some A) (hg : FLe h g) (C : St w A.fp g h' L' w') :
    St ws S h0 (fun k => if k < w.heap.size then h k else h' k) (L' ++ L.eraseIdx i) w' := by
  have hge : ∀ (j : Nat) (B : HA), (L.eraseIdx i)[j]? = some B → ∃ l, l ≠ i ∧ L[l]? = some B ∧ l = if j < i then j else j + 1 := fun j B hj => by
    rw [List.getElem?_eraseIdx] at hj
    by_cases h : j < i
    · rw [if_pos h] at hj; exact ⟨j, by omega, hj, by rw [if_pos h]⟩
    · rw [if_neg h] at hj; exact ⟨j + 1, by omega, hj, by rw [if_neg h]⟩
  have hF := C.fr
  have keep : ∀ (j : Nat) (B : HA), j ≠ i → L[j]? = some B → ∀ k ∈ B.fp, w'.heap[k]? = w.heap[k]? := fun j B hji hj k hk =>
    hF.keep k (H.lt hj k hk) (fun hA => H.ap i j A B (Ne.symm hji) hi hj k hA hk)
  have get : ∀ (i' : Nat) (B : HA), (L' ++ L.eraseIdx i)[i']? = some B → (i' < L'.length ∧ L'[i']? = some B) ∨ (L'.length ≤ i' ∧ (L.eraseIdx i)[i' - L'.length]? = some B) := fun i' B hi' => by
    by_cases hl : i' < L'.length
    · rw [List.getElem?_append_left hl] at hi'; exact .inl ⟨hl, hi'⟩
    · rw [List.getElem?_append_right (by omega)] at hi'; exact .inr ⟨by omega, hi'⟩
  have cross : ∀ (j : Nat) (B : HA), L'[j]? = some B → ∀ (l : Nat) (C' : HA), l ≠ i → L[l]? = some C' → ∀ k, k ∈ B.fp → k ∉ C'.fp := fun j B hj l C' hl hC' k hB hC => by
    have h1 := H.lt hC' k hC
    rcases (C.own j B hj k hB).2 with h | h
    · exact H.ap i l A C' (Ne.symm hl) hi hC' k h hC
    · omega
  have hsub : ∀ k, k ∈ A.fp → k ∈ S ∨ ws.heap.size ≤ k := fun k hk => (H.own i A hi k hk).2
  refine ⟨⟨hF.os.trans H.fr.os, hF.tape.trans H.fr.tape, hF.output.trans H.fr.output, Nat.le_trans H.fr.size hF.size, fun k hk hS => ?_⟩, fun k o e => ?_, fun j B hj => ?_, fun j l B D hjl hj hl k hB hD => ?_, fun j B hj k hk => ?_, fun k hk hS => ?_⟩
  · exact (hF.keep k (Nat.lt_of_lt_of_le hk H.fr.size) fun hA => by rcases hsub k hA with h | h; exact hS h; omega).trans (H.fr.keep k hk hS)
  · split at e
    · exact C.sat k o (by rw [C.gr k ‹_› (fun hA => by rw [(H.own i A hi k hA).1] at e; cases e)]; exact hg k o e)
    · exact C.sat k o e
  · rcases get j B hj with ⟨_, h⟩ | ⟨_, h⟩
    · exact C.ok _ _ h
    · obtain ⟨l, hl, hB, _⟩ := hge _ _ h
      exact HA.loc (H.ok l B hB) (keep l B hl hB)
  · rcases get j B hj with ⟨h1, h⟩ | ⟨h1, h⟩ <;> rcases get l D hl with ⟨h2, h'⟩ | ⟨h2, h'⟩
    · exact C.ap j l B D hjl h h' k hB hD
    · obtain ⟨m, hm, hD', _⟩ := hge _ _ h'
      exact cross _ _ h m D hm hD' k hB hD
    · obtain ⟨m, hm, hB', _⟩ := hge _ _ h
      exact cross _ _ h' m B hm hB' k hD hB
    · obtain ⟨m, hm, hB', em⟩ := hge _ _ h
      obtain ⟨m', hm', hD', em'⟩ := hge _ _ h'
      refine H.ap m m' B D (fun e => hjl ?_) hB' hD' k hB hD
      rw [em, em'] at e; split at e <;> split at e <;> omega
  · rcases get j B hj with ⟨_, h⟩ | ⟨_, h⟩
    · have hc := C.own _ _ h k hk
      rcases hc.2 with hA | hn
      · have := H.lt hi k hA
        simp only [this, if_true]
        exact H.own i A hi k hA
      · simp only [show ¬ k < w.heap.size by omega, if_false]
        exact ⟨hc.1, .inr (Nat.le_trans H.fr.size hn)⟩
    · obtain ⟨l, hl, hB, _⟩ := hge _ _ h
      have := H.lt hB k hk
      simp only [this, if_true]
      exact H.own _ _ hB k hk
  · have := Nat.lt_of_lt_of_le hk H.fr.size
    simp only [this, if_true]
    exact H.gr k hk hS
theorem St.give {g : FH} {i : Nat} {A : HA} (H : St ws S h0 h L w) (hi : L[i]? = some A) (hs : Sat g w) (hg : ∀ k, k ∈ A.fp → g k = none) : St w A.fp g g [A] w :=
  ⟨Fr.refl _ _, hs, fun j B hj => by
    cases j with
    | zero => simp at hj; subst hj; exact H.ok i A hi
    | succ j => simp at hj, fun j l B C hjl hj hl => by
    cases j with
    | succ j => simp at hj
    | zero => cases l with
      | zero => exact absurd rfl hjl
      | succ l => simp at hl, fun j B hj k hk => by
    cases j with
    | succ j => simp at hj
    | zero => simp at hj; subst hj; exact ⟨hg k hk, .inl hk⟩, fun _ _ _ => rfl⟩

theorem St.split {A B : HA} (H : St ws S h0 h (.both A B :: L) w) : St ws S h0 h (A :: B :: L) w := by
  have h0' := H.ok 0 (.both A B) rfl
  refine ⟨H.fr, H.sat, fun i C hi => ?_, fun i j C D hij hi hj k hC hD => ?_, fun i C hi k hk => ?_, H.gr⟩
  · match i with
    | 0 => simp at hi; subst hi; exact h0'.1
    | 1 => simp at hi; subst hi; exact h0'.2.1
    | i + 2 => exact H.ok (i + 1) C (by simpa using hi)
  · match i, j with
    | 0, 0 => exact hij rfl
    | 0, 1 => simp at hi hj; subst hi; subst hj; exact h0'.2.2 k hC hD
    | 1, 0 => simp at hi hj; subst hi; subst hj; exact h0'.2.2 k hD hC
    | 1, 1 => exact hij rfl
    | 0, j + 2 => simp at hi; subst hi; exact H.ap 0 (j + 1) (.both A B) D (by omega) rfl (by simpa using hj) k (by simp [HA.fp, hC]) hD
    | 1, j + 2 => simp at hi; subst hi; exact H.ap 0 (j + 1) (.both A B) D (by omega) rfl (by simpa using hj) k (by simp [HA.fp, hC]) hD
    | i + 2, 0 => simp at hj; subst hj; exact H.ap 0 (i + 1) (.both A B) C (by omega) rfl (by simpa using hi) k (by simp [HA.fp, hD]) hC
    | i + 2, 1 => simp at hj; subst hj; exact H.ap 0 (i + 1) (.both A B) C (by omega) rfl (by simpa using hi) k (by simp [HA.fp, hD]) hC
    | i + 2, j + 2 => exact H.ap (i + 1) (j + 1) C D (by omega) (by simpa using hi) (by simpa using hj) k hC hD
  · match i with
    | 0 => simp at hi; subst hi; exact H.own 0 _ rfl k (by simp [HA.fp, hk])
    | 1 => simp at hi; subst hi; exact H.own 0 _ rfl k (by simp [HA.fp, hk])
    | i + 2 => exact H.own (i + 1) C (by simpa using hi) k hk
theorem St.join {A B : HA} (H : St ws S h0 h (A :: B :: L) w) : St ws S h0 h (.both A B :: L) w := by
  refine ⟨H.fr, H.sat, fun i C hi => ?_, fun i j C D hij hi hj k hC hD => ?_, fun i C hi k hk => ?_, H.gr⟩
  · match i with
    | 0 => simp at hi; subst hi; exact ⟨H.ok 0 A rfl, H.ok 1 B rfl, H.ap 0 1 A B (by omega) rfl rfl⟩
    | i + 1 => exact H.ok (i + 2) C (by simpa using hi)
  · match i, j with
    | 0, 0 => exact hij rfl
    | 0, j + 1 =>
      simp at hi; subst hi
      simp only [HA.fp, List.mem_append] at hC
      rcases hC with hC | hC
      · exact H.ap 0 (j + 2) A D (by omega) rfl (by simpa using hj) k hC hD
      · exact H.ap 1 (j + 2) B D (by omega) rfl (by simpa using hj) k hC hD
    | i + 1, 0 =>
      simp at hj; subst hj
      simp only [HA.fp, List.mem_append] at hD
      rcases hD with hD | hD
      · exact H.ap 0 (i + 2) A C (by omega) rfl (by simpa using hi) k hD hC
      · exact H.ap 1 (i + 2) B C (by omega) rfl (by simpa using hi) k hD hC
    | i + 1, j + 1 => exact H.ap (i + 2) (j + 2) C D (by omega) (by simpa using hi) (by simpa using hj) k hC hD
  · match i with
    | 0 =>
      simp at hi; subst hi
      simp only [HA.fp, List.mem_append] at hk
      rcases hk with hk | hk
      · exact H.own 0 A rfl k hk
      · exact H.own 1 B rfl k hk
    | i + 1 => exact H.own (i + 2) C (by simpa using hi) k hk
def less (w : World) (F : List Nat) : FH := fun k => if k ∈ F then none else w.heap[k]?
theorem sat_less (w : World) (F : List Nat) : Sat (less w F) w := fun k o e => by
  unfold less at e; split at e
  · cases e
  · exact e
theorem less_none {w : World} {F : List Nat} {k : Nat} (hk : k ∈ F) : less w F k = none := by simp [less, hk]
theorem St.less (H : St ws S h0 h L w) {i : Nat} {A : HA} (hi : L[i]? = some A) : FLe h (Go.Tg.less w A.fp) := fun k o e => by
  have : k ∉ A.fp := fun hk => by rw [(H.own i A hi k hk).1] at e; cases e
  simp [Go.Tg.less, this, H.sat k o e]
theorem St.forget {h2 : FH} (H : St ws S h0 h2 L w) (hle : FLe h h2) (hg : ∀ k, k < ws.heap.size → k ∉ S → h k = h0 k) : St ws S h0 h L w where
  fr := H.fr
  sat k o e := H.sat k o (hle k o e)
  ok := H.ok
  ap := H.ap
  own i A hA k hk := ⟨by
    have := (H.own i A hA k hk).1
    cases e : h k with
    | none => rfl
    | some o => (rw [hle k o e] at this; cases this), (H.own i A hA k hk).2⟩
  gr := hg
def frz (h : FH) (w : World) (F : List Nat) : FH := fun k => if k ∈ F then w.heap[k]? else h k
theorem frz_in {h : FH} {w : World} {F : List Nat} {k : Nat} (hk : k ∈ F) : frz h w F k = w.heap[k]? := by simp [frz, hk]
theorem St.freeze {A : HA} (H : St ws S h0 h (A :: L) w) : FLe h (frz h w A.fp) ∧ St ws S h0 (frz h w A.fp) L w := by
  have hn : ∀ k, k ∈ A.fp → h k = none := fun k hk => (H.own 0 A rfl k hk).1
  refine ⟨fun k o e => ?_, ⟨H.fr, fun k o e => ?_, fun i B hi => H.ok (i + 1) B (by simpa using hi), fun i j B C hij hi hj => H.ap (i + 1) (j + 1) B C (by omega) (by simpa using hi) (by simpa using hj), fun i B hi k hk => ⟨?_, (H.own (i + 1) B (by simpa using hi) k hk).2⟩, fun k hk hS => ?_⟩⟩
  · have : k ∉ A.fp := fun hk => by rw [hn k hk] at e; cases e
    simp [frz, this, e]
  · unfold frz at e; split at e
    · exact e
    · exact H.sat k o e
  · have : k ∉ A.fp := fun hA => H.ap 0 (i + 1) A B (by omega) rfl (by simpa using hi) k hA hk
    simp only [frz, this, if_false]
    exact (H.own (i + 1) B (by simpa using hi) k hk).1
  · have : k ∉ A.fp := fun hA => by
      rcases (H.own 0 A rfl k hA).2 with h | h
      · exact hS h
      · omega
    simp only [frz, this, if_false]
    exact H.gr k hk hS
theorem St.forget' {h' : FH} (H : St ws S h0 h L w) (H' : St ws S h0 (fun k => if k < w.heap.size then h k else h' k) L' w') : St ws S h0 h L' w' :=
  H'.forget (fun k o e => by
    have : k < w.heap.size := lt_of_some (H.sat k o e)
    simp [this, e]) H.gr
end

def Spec (P : Program) (f : Nat) (args : Array Value) (ws : World) (S : List Nat) (h0 : FH) (R : Value → FH → List HA → Prop) : Prop :=
  Calls P f args ws (Ret fun v w' => ∃ h' L', St ws S h0 h' L' w' ∧ R v h' L')
theorem Spec.mono {P : Program} {f : Nat} {args : Array Value} {ws : World} {S : List Nat} {h0 : FH} {R R' : Value → FH → List HA → Prop} (h : Spec P f args ws S h0 R) (hr : ∀ v h' L', R v h' L' → R' v h' L') : Spec P f args ws S h0 R' :=
  Calls.mono h fun _ _ ⟨v, he, h', L', hs, hR⟩ => ⟨v, he, h', L', hs, hr _ _ _ hR⟩
class HasB (L : List HA) (b : Nat) (o : outParam Obj) : Prop where
  has : ∃ i : Nat, L[i]? = some (HA.blk b o)
instance (priority := high) {b : Nat} {o : Obj} {L : List HA} : HasB (.blk b o :: L) b o := ⟨0, rfl⟩
instance {A : HA} {b : Nat} {o : Obj} {L : List HA} [h : HasB L b o] : HasB (A :: L) b o := ⟨h.has.choose + 1, by simpa using h.has.choose_spec⟩
theorem St.bI {ws w : World} {S : List Nat} {h0 h : FH} {L : List HA} {b : Nat} {o : Obj} (H : St ws S h0 h L w) [hb : HasB L b o] : w.heap[b]? = some o := H.ok _ _ hb.has.choose_spec
class HasA (L : List HA) (A : HA) (i : outParam Nat) : Prop where
  has : L[i]? = some A
instance (priority := high) {A : HA} {L : List HA} : HasA (A :: L) A 0 := ⟨rfl⟩
instance {A B : HA} {i : Nat} {L : List HA} [h : HasA L A i] : HasA (B :: L) A (i + 1) := ⟨by simpa using h.has⟩
theorem ix {L : List HA} {A : HA} {i : Nat} [h : HasA L A i] : L[i]? = some A := h.has
end Go.Tg

