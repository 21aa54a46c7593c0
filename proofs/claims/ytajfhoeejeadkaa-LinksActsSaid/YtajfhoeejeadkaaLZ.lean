/- Contracts of Go functions that the laws reach: what each call answers and leaves in memory, for all arguments within the bounds that each theorem names. -/
import Derived.Test.YtajfhoeejeadkaaInst
import Derived.Test.YtajfhoeejeadkaaAuto
import Derived.Test.YtajfhoeejeadkaaTB
import Derived.Test.YtajfhoeejeadkaaChecked
import Derived.Test.YtajfhoeejeadkaaRows
import Derived.Test.YtajfhoeejeadkaaLift
set_option linter.unusedVariables false
set_option linter.unusedSimpArgs false
set_option maxRecDepth 100000
set_option maxHeartbeats 4000000
namespace Go.Tg
open Go Go.Proofs
abbrev LsM := List (LkT × List UInt8)
def lsF (ls : LsM) (k : LkT) : List (List UInt8) := (ls.filter fun e => decide (e.1 = k)).map (·.2)
theorem lsF_nil (k : LkT) : lsF [] k = [] := rfl
theorem lsF_app (a b : LsM) (k : LkT) : lsF (a ++ b) k = lsF a k ++ lsF b k := by simp [lsF]
theorem lsF_eq {e : LkT × List UInt8} {l : LsM} {k : LkT} (h : e.1 = k) : lsF (e :: l) k = e.2 :: lsF l k := by simp [lsF, h]
theorem lsF_ne {e : LkT × List UInt8} {l : LsM} {k : LkT} (h : e.1 ≠ k) : lsF (e :: l) k = lsF l k := by simp [lsF, h]
theorem lsF_all {l : LsM} {k : LkT} (h : ∀ e ∈ l, e.1 = k) : lsF l k = l.map (·.2) := by
  unfold lsF
  rw [List.filter_eq_self.2 (fun e he => by simp [h e he])]
theorem lsF_other {l : LsM} {k k' : LkT} (h : ∀ e ∈ l, e.1 = k) (hk : k' ≠ k) : lsF l k' = [] := by
  unfold lsF
  rw [List.filter_eq_nil_iff.2 (fun e he => by simp [h e he]; exact fun q => hk q.symm)]; rfl
theorem lsF_len (l : LsM) (k : LkT) : (lsF l k).length ≤ l.length := by
  unfold lsF; rw [List.length_map]; exact List.length_filter_le _ _
theorem lsF_mem {l : LsM} {k : LkT} {x : List UInt8} (h : x ∈ lsF l k) : (k, x) ∈ l := by
  unfold lsF at h
  obtain ⟨e, he, rfl⟩ := List.mem_map.1 h
  obtain ⟨h1, h2⟩ := List.mem_filter.1 he
  have : e.1 = k := by simpa using h2
  rw [← this]; exact h1
theorem Spec.sub {P : Program} {f : Nat} {args : Array Value} {ws : World} {S : List Nat} {h0 : FH} {R R' : Value → FH → List HA → Prop} (h : Spec P f args ws S h0 R) (hr : ∀ v h' L', R v h' L' → ∃ L2, R' v h' L2 ∧ ∀ w', St ws S h0 h' L' w' → St ws S h0 h' L2 w') : Spec P f args ws S h0 R' :=
  Calls.mono h fun _ w' ⟨v, he, h', L', hs, hR⟩ => by
    obtain ⟨L2, h2, h3⟩ := hr _ _ _ hR
    exact ⟨v, he, h', L2, h3 w' hs, h2⟩
def posM (k : LkT) : LsM → Int → Option Nat
  | [], _ => none
  | e :: l, n => if e.1 = k then (if n = 0 then some 0 else (posM k l (n - 1)).map (· + 1)) else (posM k l n).map (· + 1)
theorem posM_cons (k : LkT) (e : LkT × List UInt8) (l : LsM) (n : Int) : posM k (e :: l) n = if e.1 = k then (if n = 0 then some 0 else (posM k l (n - 1)).map (· + 1)) else (posM k l n).map (· + 1) := rfl
def edM (ls : LsM) (i : Nat) (by_ : LsM) : LsM := ls.take i ++ by_ ++ ls.drop (i + 1)
theorem posM_some {k : LkT} {ls : LsM} : ∀ {q : Int} {i : Nat}, posM k ls q = some i → ∃ (j : Nat) (x : List UInt8), q = j ∧ ls[i]? = some (k, x) ∧ (lsF ls k)[j]? = some x ∧ i < ls.length ∧ ∀ by_ : LsM, (∀ e ∈ by_, e.1 = k) → ∀ k', lsF (edM ls i by_) k' = if k' = k then (lsF ls k).take j ++ by_.map (·.2) ++ (lsF ls k).drop (j + 1) else lsF ls k' := by
  induction ls with
  | nil => intro q i h; cases h
  | cons e l ih =>
    intro q i h
    rw [posM_cons] at h
    by_cases he : e.1 = k
    · rw [if_pos he] at h
      by_cases hq : q = 0
      · rw [if_pos hq] at h
        injection h with h
        subst h; subst hq
        refine ⟨0, e.2, rfl, by rw [← he]; rfl, by rw [lsF_eq he]; rfl, by simp, fun by_ hb k' => ?_⟩
        show lsF (by_ ++ l) k' = _
        rw [lsF_app]
        by_cases hk : k' = k
        · subst hk
          rw [if_pos rfl, lsF_all hb, lsF_eq he]; rfl
        · rw [if_neg hk, lsF_other hb hk, lsF_ne (fun h => hk (h.symm.trans he))]; rfl
      · rw [if_neg hq] at h
        obtain ⟨i', h1, rfl⟩ := Option.map_eq_some_iff.1 h
        obtain ⟨j, x, hj, h2, h3, h4, h5⟩ := ih h1
        refine ⟨j + 1, x, by omega, h2, by rw [lsF_eq he]; exact h3, by simpa using h4, fun by_ hb k' => ?_⟩
        show lsF (e :: edM l i' by_) k' = _
        by_cases hk : k' = k
        · subst hk
          rw [lsF_eq he, h5 by_ hb, if_pos rfl, if_pos rfl, lsF_eq he]; rfl
        · rw [lsF_ne (fun h => hk (h.symm.trans he)), h5 by_ hb, if_neg hk, if_neg hk, lsF_ne (fun h => hk (h.symm.trans he))]
    · rw [if_neg he] at h
      obtain ⟨i', h1, rfl⟩ := Option.map_eq_some_iff.1 h
      obtain ⟨j, x, hj, h2, h3, h4, h5⟩ := ih h1
      refine ⟨j, x, hj, h2, by rw [lsF_ne he]; exact h3, by simpa using h4, fun by_ hb k' => ?_⟩
      show lsF (e :: edM l i' by_) k' = _
      by_cases hk : k' = k
      · subst hk
        rw [lsF_ne he, h5 by_ hb, if_pos rfl, if_pos rfl, lsF_ne he]
      · rw [if_neg hk]
        by_cases he2 : e.1 = k'
        · rw [lsF_eq he2, lsF_eq he2, h5 by_ hb, if_neg hk]
        · rw [lsF_ne he2, lsF_ne he2, h5 by_ hb, if_neg hk]
theorem posM_none {k : LkT} {ls : LsM} : ∀ {q : Int}, posM k ls q = none → ¬ (0 ≤ q ∧ q < (lsF ls k).length) := by
  induction ls with
  | nil => intro q h; rw [lsF_nil]; simp only [List.length_nil]; omega
  | cons e l ih =>
    intro q h
    rw [posM_cons] at h
    by_cases he : e.1 = k
    · rw [if_pos he] at h
      by_cases hq : q = 0
      · rw [if_pos hq] at h; cases h
      · rw [if_neg hq] at h
        have := ih (Option.map_eq_none_iff.1 h)
        rw [lsF_eq he, List.length_cons]; omega
    · rw [if_neg he] at h
      have := ih (Option.map_eq_none_iff.1 h)
      rw [lsF_ne he]; exact this
theorem edM_len {ls : LsM} {i : Nat} {by_ : LsM} (h : i < ls.length) : (edM ls i by_).length = ls.length - 1 + by_.length := by
  unfold edM
  simp only [List.length_append, List.length_take, List.length_drop]; omega
theorem edM_mem {ls : LsM} {i : Nat} {by_ : LsM} {e : LkT × List UInt8} (h : e ∈ edM ls i by_) : e ∈ ls ∨ e ∈ by_ := by
  unfold edM at h
  rcases List.mem_append.1 h with h | h
  · rcases List.mem_append.1 h with h | h
    · exact .inl (List.mem_of_mem_take h)
    · exact .inr h
  · exact .inl (List.mem_of_mem_drop h)
def sendM (rp rm : Int) (ls : LsM) (k : LkT) (x : List UInt8) : Int × LsM := if sendC rp rm ls.length k x = 0 then (0, ls ++ [(k, x)]) else (sendC rp rm ls.length k x, ls)
abbrev noLt : LkT × List UInt8 := ((0, 0), [])
def arrM (rp : Int) (ls : LsM) (k : LkT) (q : Int) : (LkT × List UInt8) × Int × LsM :=
  if faultC rp k ≠ 0 then (noLt, faultC rp k, ls) else match posM k ls q with
    | none => (noLt, 7, ls)
    | some i => (ls[i]?.getD noLt, 0, edM ls i [])
def harmM (rp rm : Int) (ls : LsM) (k : LkT) (q kind : Int) (at_ : UInt16) (by_ : UInt8) : Int × LsM :=
  if faultC rp k ≠ 0 then (faultC rp k, ls) else if kind < 1 ∨ 3 < kind then (2, ls) else match posM k ls q with
    | none => (7, ls)
    | some i => if kind = 1 then (0, edM ls i []) else if kind = 2 then (if rm ≤ ls.length then (10, ls) else (0, edM ls i [ls[i]?.getD noLt, ls[i]?.getD noLt])) else (0, edM ls i [((ls[i]?.getD noLt).1, turnB at_ by_ (ls[i]?.getD noLt).2)])
structure PoI (rp rm : Int) (ls : LsM) (es : List EnT) (clk : Nat) : Prop where
  ok : okR rp rm
  inv : InvE es clk
  lt : ∀ k, ltE es k = lsF ls k
  len : (ls.length : Int) ≤ rm
  on : ∀ e ∈ ls, faultC rp e.1 = 0
  sz : ∀ e ∈ ls, e.2.length ≤ 5000
theorem PoI.ed {rp rm : Int} {ls : LsM} {es es' : List EnT} {clk clk' : Nat} {k : LkT} {i : Nat} {by_ : LsM} (h : PoI rp rm ls es clk) (hi : i < ls.length) (hC : faultC rp k = 0) (hb : ∀ e ∈ by_, e.1 = k) (hz : ∀ e ∈ by_, e.2.length ≤ 5000) (hl : (ls.length - 1 + by_.length : Int) ≤ rm) (hI : InvE es' clk') (hlt : ∀ k', ltE es' k' = lsF (edM ls i by_) k') : PoI rp rm (edM ls i by_) es' clk' := by
  refine ⟨h.ok, hI, hlt, by rw [edM_len hi]; omega, fun e he => ?_, fun e he => ?_⟩
  · rcases edM_mem he with h1 | h1
    · exact h.on e h1
    · rw [hb e h1]; exact hC
  · rcases edM_mem he with h1 | h1
    · exact h.sz e h1
    · exact hz e h1
theorem PoI.le {rp rm : Int} {ls : LsM} {es : List EnT} {clk : Nat} (h : PoI rp rm ls es clk) : ls.length ≤ 1024 := by
  have := h.ok; have := h.len; unfold okR at *; omega
theorem PoI.ltl {rp rm : Int} {ls : LsM} {es : List EnT} {clk : Nat} (h : PoI rp rm ls es clk) (k : LkT) : (ltE es k).length ≤ 1024 := by
  rw [h.lt]; exact Nat.le_trans (lsF_len _ _) h.le
theorem PoI.new {rp rm : Int} (h : okR rp rm) : PoI rp rm [] [] 0 := by
  refine ⟨h, ⟨by simp, by simp, fun e he => (List.not_mem_nil he).elim⟩, fun k => rfl, ?_, fun e he => (List.not_mem_nil he).elim, fun e he => (List.not_mem_nil he).elim⟩
  unfold okR at h; simp; omega
theorem po_SendA (pb mb : Nat) (rp rm : Int) (ls : LsM) (es : List EnT) (clk : Nat) (k : LkT) (a : Option Addr) (c : Nat) (x : List UInt8) (hp : PoI rp rm ls es clk) (g : FH) (w : World) (hr : BS g a c x) (HO : St w (poH pb mb rp rm ls.length es clk).fp g g [poH pb mb rp rm ls.length es clk] w) :
    Spec Try.prog 15 #[pt pb, .agg (ltL k (.slice a x.length c)).toArray] w (poH pb mb rp rm ls.length es clk).fp g (fun v' h' L' => h' = g ∧ ∃ es' clk', v' = .int .i64 (sendM rp rm ls k x).1 ∧ L' = [poH pb mb rp rm (sendM rp rm ls k x).2.length es' clk'] ∧ PoI rp rm (sendM rp rm ls k x).2 es' clk') := by
  by_cases hc : sendC rp rm ls.length k x = 0
  · have hle := hp.le
    have hl9 := hp.ltl k
    refine (po_SendOk pb mb rp rm ls.length es clk k a c x hc hp.inv ⟨by omega, by omega⟩ (by omega) g w hr HO).mono ?_
    rintro v h' L' ⟨rfl, es', clk', rfl, rfl, hI, hlt⟩
    obtain ⟨hC, hx5, hrm⟩ : faultC rp k = 0 ∧ ¬ 5000 < x.length ∧ ¬ rm ≤ ls.length := by
      unfold sendC at hc
      by_cases h1 : faultC rp k ≠ 0
      · rw [if_pos h1] at hc; exact absurd hc h1
      · rw [if_neg h1] at hc
        by_cases h2 : 5000 < x.length
        · rw [if_pos h2] at hc; cases hc
        · rw [if_neg h2] at hc
          by_cases h3 : rm ≤ ls.length
          · rw [if_pos h3] at hc; cases hc
          · exact ⟨Classical.not_not.1 h1, h2, h3⟩
    unfold sendM
    rw [if_pos hc]
    refine ⟨rfl, es', clk', rfl, by simp, hp.ok, hI, fun k' => ?_, by simp; omega, fun e he => ?_, fun e he => ?_⟩
    · rw [hlt, lsF_app]
      by_cases hk : k' = k
      · subst hk
        rw [if_pos rfl, hp.lt, lsF_eq rfl]; rfl
      · rw [if_neg hk, hp.lt, lsF_ne (fun h => hk h.symm), lsF_nil, List.append_nil]
    · rcases List.mem_append.1 he with h1 | h1
      · exact hp.on e h1
      · obtain rfl := List.mem_singleton.1 h1; exact hC
    · rcases List.mem_append.1 he with h1 | h1
      · exact hp.sz e h1
      · obtain rfl := List.mem_singleton.1 h1; show x.length ≤ 5000; omega
  · refine (po_SendNo pb mb rp rm ls.length es clk k a c x hc g w HO).mono ?_
    rintro v h' L' ⟨rfl, rfl, rfl⟩
    unfold sendM
    rw [if_neg hc]
    exact ⟨rfl, es, clk, rfl, rfl, hp⟩
theorem po_ArriveA (pb mb : Nat) (rp rm : Int) (ls : LsM) (es : List EnT) (clk : Nat) (k : LkT) (q : Int) (hp : PoI rp rm ls es clk) (g : FH) (w : World) (HO : St w (poH pb mb rp rm ls.length es clk).fp g g [poH pb mb rp rm ls.length es clk] w) :
    Spec Try.prog 10 #[pt pb, .int .u8 k.1.toNat, .int .u8 k.2.toNat, .int .i64 q] w (poH pb mb rp rm ls.length es clk).fp g (fun v' h' L' => h' = g ∧ ∃ a' c' es' clk', v' = .tuple #[.agg (ltL (arrM rp ls k q).1.1 (.slice a' (arrM rp ls k q).1.2.length c')).toArray, .int .i64 (arrM rp ls k q).2.1] ∧ L' = [own8 (.slice a' (arrM rp ls k q).1.2.length c') 5 (arrM rp ls k q).1.2, poH pb mb rp rm (arrM rp ls k q).2.2.length es' clk'] ∧ PoI rp rm (arrM rp ls k q).2.2 es' clk') := by
  have hle := hp.le
  have hl9 := hp.ltl k
  by_cases hf : faultC rp k ≠ 0
  · refine (po_ArriveNo pb mb rp rm ls.length es clk k q (.inl hf) g w HO).sub ?_
    rintro v h' L' ⟨rfl, rfl, rfl⟩
    unfold arrM arrC
    rw [if_pos hf, if_pos hf]
    exact ⟨_, ⟨rfl, none, 0, es, clk, rfl, rfl, hp⟩, fun w' H => H.nilOwn _ 1⟩
  · have hC : faultC rp k = 0 := Classical.not_not.1 hf
    cases hq : posM k ls q with
    | none =>
      refine (po_ArriveNo pb mb rp rm ls.length es clk k q (.inr (by rw [hp.lt]; exact posM_none hq)) g w HO).sub ?_
      rintro v h' L' ⟨rfl, rfl, rfl⟩
      unfold arrM arrC
      rw [if_neg hf, if_neg hf, hq]
      exact ⟨_, ⟨rfl, none, 0, es, clk, rfl, rfl, hp⟩, fun w' H => H.nilOwn _ 1⟩
    | some i =>
      obtain ⟨j, x, rfl, h2, h3, h4, h5⟩ := posM_some hq
      refine (po_ArriveOk pb mb rp rm ls.length es clk k j x hC hp.inv (by rw [hp.lt]; exact h3) ⟨by omega, by omega⟩ (by omega) g w HO).mono ?_
      rintro v h' L' ⟨rfl, a', c', es', rfl, rfl, hI, hlt⟩
      unfold arrM
      rw [if_neg hf, hq]
      simp only [h2, Option.getD_some]
      refine ⟨trivial, a', c', es', clk, rfl, by rw [edM_len h4]; congr 3; simp; omega, ?_⟩
      refine hp.ed h4 hC (fun e he => (List.not_mem_nil he).elim) (fun e he => (List.not_mem_nil he).elim) (by have := hp.len; simp; omega) hI fun k' => ?_
      rw [hlt, h5 [] (fun e he => (List.not_mem_nil he).elim)]
      by_cases hk : k' = k
      · rw [if_pos hk, if_pos hk, hp.lt, List.eraseIdx_eq_take_drop_succ]; simp
      · rw [if_neg hk, if_neg hk, hp.lt]
theorem set_take {α : Type} {l : List α} {j : Nat} {x : α} (h : j < l.length) : l.set j x = l.take j ++ [x] ++ l.drop (j + 1) := by
  rw [List.set_eq_take_append_cons_drop, if_pos h]; simp
theorem twice_take {α : Type} {l : List α} {j : Nat} {x : α} (h : l[j]? = some x) : l.take (j + 1) ++ x :: l.drop (j + 1) = l.take j ++ [x, x] ++ l.drop (j + 1) := by
  have e : l.take (j + 1) = l.take j ++ [x] := by rw [List.take_add_one, h]; rfl
  rw [e, List.append_assoc, List.append_assoc]; rfl
theorem po_HarmA (pb mb : Nat) (rp rm : Int) (ls : LsM) (es : List EnT) (clk : Nat) (k : LkT) (q kind : Int) (at_ : UInt16) (by_ : UInt8) (hp : PoI rp rm ls es clk) (g : FH) (w : World) (HO : St w (poH pb mb rp rm ls.length es clk).fp g g [poH pb mb rp rm ls.length es clk] w) :
    Spec Try.prog 13 #[pt pb, .int .u8 k.1.toNat, .int .u8 k.2.toNat, .int .i64 q, .agg (hmL kind at_ by_).toArray] w (poH pb mb rp rm ls.length es clk).fp g (fun v' h' L' => h' = g ∧ ∃ es' clk', v' = .int .i64 (harmM rp rm ls k q kind at_ by_).1 ∧ L' = [poH pb mb rp rm (harmM rp rm ls k q kind at_ by_).2.length es' clk'] ∧ PoI rp rm (harmM rp rm ls k q kind at_ by_).2 es' clk') := by
  have hle := hp.le
  have hl9 := hp.ltl k
  have hln := hp.len
  have hno : ∀ C : Int, harmC rp rm ls.length (ltE es k).length k q kind = C → C ≠ 0 → harmM rp rm ls k q kind at_ by_ = (C, ls) → Spec Try.prog 13 #[pt pb, .int .u8 k.1.toNat, .int .u8 k.2.toNat, .int .i64 q, .agg (hmL kind at_ by_).toArray] w (poH pb mb rp rm ls.length es clk).fp g (fun v' h' L' => h' = g ∧ ∃ es' clk', v' = .int .i64 (harmM rp rm ls k q kind at_ by_).1 ∧ L' = [poH pb mb rp rm (harmM rp rm ls k q kind at_ by_).2.length es' clk'] ∧ PoI rp rm (harmM rp rm ls k q kind at_ by_).2 es' clk') := fun C h1 h2 h3 => by
    refine (po_HarmNo pb mb rp rm ls.length es clk k q kind at_ by_ (by rw [h1]; exact h2) g w HO).mono ?_
    rintro v h' L' ⟨rfl, rfl, rfl⟩
    rw [h3, h1]
    exact ⟨rfl, es, clk, rfl, rfl, hp⟩
  have hCd : harmC rp rm ls.length (ltE es k).length k q kind = if faultC rp k ≠ 0 then faultC rp k else if kind < 1 ∨ 3 < kind then 2 else if q < 0 ∨ ((ltE es k).length : Int) ≤ q then 7 else if kind = 2 ∧ rm ≤ ls.length then 10 else 0 := rfl
  have hMd : harmM rp rm ls k q kind at_ by_ = if faultC rp k ≠ 0 then (faultC rp k, ls) else if kind < 1 ∨ 3 < kind then (2, ls) else match posM k ls q with
    | none => (7, ls)
    | some i => if kind = 1 then (0, edM ls i []) else if kind = 2 then (if rm ≤ ls.length then (10, ls) else (0, edM ls i [ls[i]?.getD noLt, ls[i]?.getD noLt])) else (0, edM ls i [((ls[i]?.getD noLt).1, turnB at_ by_ (ls[i]?.getD noLt).2)]) := rfl
  by_cases hf : faultC rp k ≠ 0
  · rw [if_pos hf] at hCd hMd
    exact hno _ hCd hf hMd
  rw [if_neg hf] at hCd hMd
  have hC : faultC rp k = 0 := Classical.not_not.1 hf
  by_cases hk : kind < 1 ∨ 3 < kind
  · rw [if_pos hk] at hCd hMd
    exact hno _ hCd (by decide) hMd
  rw [if_neg hk] at hCd hMd
  cases hq : posM k ls q with
  | none =>
    have h9 := posM_none hq
    rw [hq] at hMd
    rw [if_pos (by rw [hp.lt]; omega)] at hCd
    exact hno _ hCd (by decide) hMd
  | some i =>
    obtain ⟨j, x, rfl, h2, h3, h4, h5⟩ := posM_some hq
    have hj : j < (lsF ls k).length := (List.getElem?_eq_some_iff.1 h3).1
    have hx5 : x.length ≤ 5000 := hp.sz _ (List.mem_of_getElem? h2)
    have h3' : (ltE es k)[j]? = some x := by rw [hp.lt]; exact h3
    rw [hq] at hMd
    simp only [h2, Option.getD_some] at hMd
    rw [if_neg (by rw [hp.lt]; omega)] at hCd
    by_cases hk1 : kind = 1
    · rw [if_pos hk1] at hMd
      subst hk1
      refine (po_HarmLost pb mb rp rm ls.length es clk k j x at_ by_ hC hp.inv h3' ⟨by omega, by omega⟩ (by omega) g w HO).mono ?_
      rintro v h' L' ⟨rfl, es', rfl, rfl, hI, hlt⟩
      rw [hMd]
      refine ⟨rfl, es', clk, rfl, by rw [edM_len h4]; congr 3; simp; omega, ?_⟩
      refine hp.ed h4 hC (fun e he => (List.not_mem_nil he).elim) (fun e he => (List.not_mem_nil he).elim) (by simp; omega) hI fun k' => ?_
      rw [hlt, h5 [] (fun e he => (List.not_mem_nil he).elim)]
      by_cases hk : k' = k
      · rw [if_pos hk, if_pos hk, hp.lt, List.eraseIdx_eq_take_drop_succ]; simp
      · rw [if_neg hk, if_neg hk, hp.lt]
    rw [if_neg hk1] at hMd
    by_cases hk2 : kind = 2
    · rw [if_pos hk2] at hMd
      subst hk2
      by_cases hr : rm ≤ ls.length
      · rw [if_pos hr] at hMd
        rw [if_pos ⟨rfl, hr⟩] at hCd
        exact hno _ hCd (by decide) hMd
      rw [if_neg hr] at hMd
      refine (po_HarmTwice pb mb rp rm ls.length es clk k j x at_ by_ hC hr hp.inv h3' (by omega) ⟨by omega, by omega⟩ (by omega) g w HO).mono ?_
      rintro v h' L' ⟨rfl, es', rfl, rfl, hI, hlt⟩
      rw [hMd]
      have hb1 : ∀ e ∈ [(k, x), (k, x)], e.1 = k := by intro e he; simp at he; subst he; rfl
      refine ⟨rfl, es', clk, rfl, by rw [edM_len h4]; congr 3; simp; omega, ?_⟩
      refine hp.ed h4 hC hb1 (by intro e he; simp at he; subst he; exact hx5) (by simp; omega) hI fun k' => ?_
      rw [hlt, h5 _ hb1]
      by_cases hk : k' = k
      · rw [if_pos hk, if_pos hk, hp.lt, twice_take h3]; rfl
      · rw [if_neg hk, if_neg hk, hp.lt]
    rw [if_neg hk2] at hMd
    obtain rfl : kind = 3 := by omega
    refine (po_HarmTurn pb mb rp rm ls.length es clk k j x at_ by_ hC hp.inv h3' (by omega) (by omega) g w HO).mono ?_
    rintro v h' L' ⟨rfl, es', rfl, rfl, hI, hlt⟩
    rw [hMd]
    have hb1 : ∀ e ∈ [(k, turnB at_ by_ x)], e.1 = k := by intro e he; simp at he; subst he; rfl
    refine ⟨rfl, es', clk, rfl, by rw [edM_len h4]; congr 3; simp; omega, ?_⟩
    refine hp.ed h4 hC hb1 (by intro e he; simp at he; subst he; simp [turnB_len]; exact hx5) (by simp; omega) hI fun k' => ?_
    rw [hlt, h5 _ hb1]
    by_cases hk : k' = k
    · rw [if_pos hk, if_pos hk, hp.lt, set_take hj]; rfl
    · rw [if_neg hk, if_neg hk, hp.lt]
theorem po_WaitsA (pb mb : Nat) (rp rm : Int) (ls : LsM) (es : List EnT) (clk : Nat) (k : LkT) (hp : PoI rp rm ls es clk) {ws : World} {S : List Nat} {h0 h : FH} {L : List HA} {i : Nat} (w : World) (H : St ws S h0 h L w) (hi : L[i]? = some (poH pb mb rp rm ls.length es clk)) (w' : World) (hs : Sat (full w) w') :
    Spec Try.prog 18 #[pt pb, .int .u8 k.1.toNat, .int .u8 k.2.toNat] w' [] (full w) (fun v h' L' => ∃ a' c' lv', v = .slice a' lv'.length c' ∧ L' = [vsH v lv', lvH lv'] ∧ lv'.map (·.2) = lsF ls k) := by
  obtain ⟨a, c, lv, h1, h2, h3⟩ := H.poLs hi k
  have hl9 := hp.ltl k
  have h4 : lv.length ≤ 1024 := by rw [← h3, List.length_map] at hl9; exact hl9
  refine (po_Waits pb mb rp rm ls.length es clk k (full w) a c lv w' hs (H.poBlk hi) (H.poMap hi) h1 h2 (by omega) (fun x hx => ?_)).mono ?_
  · have : x.2 ∈ lsF ls k := by rw [← hp.lt, ← h3]; exact List.mem_map.2 ⟨x, hx, rfl⟩
    have := hp.sz _ (lsF_mem this)
    simp only at this; omega
  · rintro v h' L' ⟨a', c', lv', rfl, rfl, e⟩
    exact ⟨a', c', lv', rfl, rfl, by rw [e, h3, hp.lt]⟩
end Go.Tg

set_option linter.unusedVariables false
set_option linter.unusedSimpArgs false
set_option maxRecDepth 100000
set_option maxHeartbeats 4000000
namespace Go.Tg
open Go Go.Proofs
section
variable (pb mb : Nat) (rp rm : Int) (ls : LsM) (es : List EnT) (clk : Nat) (k : LkT) (hp : PoI rp rm ls es clk) (g : FH) (w : World) (HO : St w (poH pb mb rp rm ls.length es clk).fp g g [poH pb mb rp rm ls.length es clk] w)
include hp HO
theorem po_SendE {a : Option Addr} {c : Nat} {x : List UInt8} (C : Int) (ls' : LsM) (he : sendM rp rm ls k x = (C, ls')) (hr : BS g a c x) :
    Spec Try.prog 15 #[pt pb, .agg (ltL k (.slice a x.length c)).toArray] w (poH pb mb rp rm ls.length es clk).fp g (fun v' h' L' => h' = g ∧ ∃ es' clk', v' = .int .i64 C ∧ L' = [poH pb mb rp rm ls'.length es' clk'] ∧ PoI rp rm ls' es' clk') := by
  have := po_SendA pb mb rp rm ls es clk k a c x hp g w hr HO
  rw [he] at this; exact this
theorem po_ArriveE (q : Int) (k' : LkT) (x : List UInt8) (C : Int) (ls' : LsM) (he : arrM rp ls k q = ((k', x), C, ls')) :
    Spec Try.prog 10 #[pt pb, .int .u8 k.1.toNat, .int .u8 k.2.toNat, .int .i64 q] w (poH pb mb rp rm ls.length es clk).fp g (fun v' h' L' => h' = g ∧ ∃ a' c' es' clk', v' = .tuple #[.agg (ltL k' (.slice a' x.length c')).toArray, .int .i64 C] ∧ L' = [own8 (.slice a' x.length c') 5 x, poH pb mb rp rm ls'.length es' clk'] ∧ PoI rp rm ls' es' clk') := by
  have := po_ArriveA pb mb rp rm ls es clk k q hp g w HO
  rw [he] at this; exact this
theorem po_HarmE (q kind : Int) (at_ : UInt16) (by_ : UInt8) (C : Int) (ls' : LsM) (he : harmM rp rm ls k q kind at_ by_ = (C, ls')) :
    Spec Try.prog 13 #[pt pb, .int .u8 k.1.toNat, .int .u8 k.2.toNat, .int .i64 q, .agg (hmL kind at_ by_).toArray] w (poH pb mb rp rm ls.length es clk).fp g (fun v' h' L' => h' = g ∧ ∃ es' clk', v' = .int .i64 C ∧ L' = [poH pb mb rp rm ls'.length es' clk'] ∧ PoI rp rm ls' es' clk') := by
  have := po_HarmA pb mb rp rm ls es clk k q kind at_ by_ hp g w HO
  rw [he] at this; exact this
end
theorem po_NewE (rp rm : Int) (hr : okR rp rm) (h0 : FH) (w : World) (hs : Sat h0 w) :
    Spec Try.prog 8 #[.int .i64 rp, .int .i64 rm] w [] h0 (fun v h' L' => h' = h0 ∧ ∃ pb mb, v = pt pb ∧ L' = [poH pb mb rp rm ([] : LsM).length [] 0]) := po_New rp rm hr h0 w hs
theorem al21_1 : sendM 2 4 [] (0, 1) [97] = (0, [((0, 1), [97])]) := by decide
theorem al21_2 : sendM 2 4 [((0, 1), [97])] (0, 1) [98] = (0, [((0, 1), [97]), ((0, 1), [98])]) := by decide
theorem al21_3 : harmM 2 4 [((0, 1), [97]), ((0, 1), [98])] (0, 1) 0 2 0 0 = (0, [((0, 1), [97]), ((0, 1), [97]), ((0, 1), [98])]) := by decide
theorem al21_4 : arrM 2 [((0, 1), [97]), ((0, 1), [97]), ((0, 1), [98])] (0, 1) 2 = (((0, 1), [98]), 0, [((0, 1), [97]), ((0, 1), [97])]) := by decide
theorem al21_5 : harmM 2 4 [((0, 1), [97]), ((0, 1), [97])] (1, 0) 0 1 0 0 = (7, [((0, 1), [97]), ((0, 1), [97])]) := by decide
theorem St.ownLs' {ws w : World} {S : List Nat} {h0 h : FH} {L : List HA} {a : Option Addr} {n c : Nat} {lv : List (Value × List UInt8)} {i j : Nat} (H : St ws S h0 h L w) (hi : L[i]? = some (vsH (.slice a n c) lv)) (hj : L[j]? = some (lvH lv)) : LsF (full w) a c lv := by
  obtain ⟨a', c', e, h1⟩ := H.ownLs hi hj
  injection e with e1 e2 e3
  subst e1; subst e3; exact h1
theorem St.lit2 {ws w : World} {S : List Nat} {h0 h : FH} {L : List HA} {a : Option Addr} {n c i j1 j2 b1 b2 : Nat} {T1 T2 : TypeId} {f1 f2 : Nat × Nat} (x1 x2 : List UInt8) (hx1 : x1.length ≤ 1000000) (hx2 : x2.length ≤ 1000000) (H : St ws S h0 h L w) (hi : L[i]? = some (ownR (.slice a n c) 31 1 [[.slice (some ⟨b1, 0, none⟩) x1.length x1.length], [.slice (some ⟨b2, 0, none⟩) x2.length x2.length]]))
    (h1 : L[j1]? = some (.blk b1 (.cells (cB x1).toArray T1 f1))) (h2 : L[j2]? = some (.blk b2 (.cells (cB x2).toArray T2 f2))) : LsF (full w) a c [(.slice (some ⟨b1, 0, none⟩) x1.length x1.length, x1), (.slice (some ⟨b2, 0, none⟩) x2.length x2.length, x2)] := by
  obtain ⟨a', c', e, hS⟩ := H.ownSl hi (by intro r hr; simp at hr; rcases hr with rfl | rfl <;> rfl)
  injection e with e1 e2 e3
  subst e1; subst e3
  refine ⟨hS, fun x hx => ?_⟩
  rcases List.mem_cons.1 hx with rfl | hx
  · exact ⟨_, _, rfl, BS.ofBlk (H.ok _ _ h1) hx1⟩
  · obtain rfl := List.mem_singleton.1 hx
    exact ⟨_, _, rfl, BS.ofBlk (H.ok _ _ h2) hx2⟩
theorem same_t (h0 : FH) (w : World) (hs : Sat h0 w) (a : Option Addr) (n c : Nat) (lv : List (Value × List UInt8)) (a' : Option Addr) (n' c' : Nat) (lv' : List (Value × List UInt8)) (hL : LsF h0 a c lv) (hL' : LsF h0 a' c' lv') (hn : n = lv.length) (hn' : n' = lv'.length) (he : lv.map (·.2) = lv'.map (·.2)) :
    SpecV Try.prog 17 #[.slice a n c, .slice a' n' c'] w (.bool true) := by
  subst hn; subst hn'
  have := same_ls h0 w hs a c lv a' c' lv' hL hL'
  rw [decide_eq_true he] at this; exact this
theorem ok24 : okR 2 4 := by unfold okR; omega
theorem alive21 (w : World) : SpecV Try.prog 7 #[] w (.bool true) := by
  have H := St.start (sat_full w)
  generalize hh : full w = h0 at H
  have hN := PoI.new ok24
  unfold SpecV
  refine calls_of Try.func7 rfl Try.ntmps7 (by simp) ?_
  repeat' (first | ((first | refine WL.p rfl ?_ | refine WL.u ?_ | refine WL.g rfl rfl ?_ | refine WL.gu rfl ?_); first | (refine opk 1 rfl ?_; first | (refine ost_C H rfl (po_NewE 2 4 ok24 _ _ (sat_full _)) rfl ?_; clear H; rintro vk wk hfk Lk ⟨-, pb, mb, rfl, rfl⟩ H; simp only [List.cons_append, List.nil_append] at H) | (refine ost_O H rfl idx1 (fun HO => po_SendE pb mb 2 4 _ _ _ (0, 1) hN _ _ HO (a := some ⟨bk, 0, none⟩) (c := 1) (x := [97]) _ _ al21_1 (BS.ofBlk (xs := [97]) (H.lessBlk (i := 1) (j := 0) rfl rfl (by decide)) (by decide))) rfl ?_; clear H; rintro vk wk hfk Lk ⟨-, es1, clk1, rfl, rfl, hN1⟩ H; simp only [List.cons_append, List.nil_append, List.eraseIdx_cons_zero, List.eraseIdx_cons_succ] at H) | (refine ost_O H rfl idx1 (fun HO => po_SendE pb mb 2 4 _ _ _ (0, 1) hN1 _ _ HO (a := some ⟨bk, 0, none⟩) (c := 1) (x := [98]) _ _ al21_2 (BS.ofBlk (xs := [98]) (H.lessBlk (i := 1) (j := 0) rfl rfl (by decide)) (by decide))) rfl ?_; clear H; rintro vk wk hfk Lk ⟨-, es2, clk2, rfl, rfl, hN2⟩ H; simp only [List.cons_append, List.nil_append, List.eraseIdx_cons_zero, List.eraseIdx_cons_succ] at H) | (refine ost_O H rfl idx0 (fun HO => po_HarmE pb mb 2 4 _ _ _ (0, 1) hN2 _ _ HO 0 2 0 0 _ _ al21_3) rfl ?_; clear H; rintro vk wk hfk Lk ⟨-, es3, clk3, rfl, rfl, hN3⟩ H; simp only [List.cons_append, List.nil_append, List.eraseIdx_cons_zero, List.eraseIdx_cons_succ] at H) | (refine ost_O H rfl idx0 (fun HO => po_ArriveE pb mb 2 4 _ _ _ (0, 1) hN3 _ _ HO 2 (0, 1) [98] _ _ al21_4) rfl ?_; clear H; rintro vk wk hfk Lk ⟨-, ax, cx, es4, clk4, rfl, rfl, hN4⟩ H; simp only [List.cons_append, List.nil_append, List.eraseIdx_cons_zero, List.eraseIdx_cons_succ] at H) | (refine ost_C H rfl (po_WaitsA pb mb 2 4 _ _ _ (0, 1) hN4 _ H (i := 2) rfl _ (sat_full _)) rfl ?_; clear H; rintro vk wk hfk Lk ⟨a9, c9, lv9, rfl, rfl, hw9⟩ H; simp only [List.cons_append, List.nil_append] at H) | (refine ost_V H rfl (same_t _ _ (sat_full _) _ _ _ lv9 _ _ _ _ (H.ownLs' (i := 3) (j := 4) rfl rfl) (H.lit2 (i := 0) (j1 := 2) (j2 := 1) [97] [97] (by decide) (by decide) rfl rfl rfl) rfl rfl hw9) rfl ?_; clear H; intro wk H) | (refine ost_V H rfl (po_LenL pb _ _ _ _ _ _ (sat_full _) (H.poBlk (i := 7) rfl)) rfl ?_; clear H; intro wk H) | (refine ost_O H rfl idx7 (fun HO => po_HarmE pb mb 2 4 _ _ _ (1, 0) hN4 _ _ HO 0 1 0 0 _ _ al21_5) rfl ?_; clear H; rintro vk wk hfk Lk ⟨-, es5, clk5, rfl, rfl, hN5⟩ H; simp only [List.cons_append, List.nil_append, List.eraseIdx_cons_zero, List.eraseIdx_cons_succ] at H)) | (refine opk 6 rfl ?_; (refine ost_toStrN (xs := [98]) rfl rfl (by first | rfl | (simp; omega)) (H.own8rd (i := 1) rfl) ?_)) | (refine opk 9 rfl ?_; first | (refine ost_buildR (rows := [[Value.int .u8 97]]) H rfl (by decide) rfl (by rfl) (evP1 vxQ) (.cons rfl .nil) rfl (fun r hr => by rw [List.mem_singleton.1 hr]; rfl) ?_; clear H; intro bk wk H) | (refine ost_buildR (rows := [[Value.int .u8 98]]) H rfl (by decide) rfl (by rfl) (evP1 vxQ) (.cons rfl .nil) rfl (fun r hr => by rw [List.mem_singleton.1 hr]; rfl) ?_; clear H; intro bk wk H) | (refine ost_buildR (rows := [[_], [_]]) H rfl (by decide) rfl (by rfl) (evP_cons vxQ (evP_cons vxQ evP_nil)) (.cons rfl (.cons rfl .nil)) rfl (by intro r hr; simp at hr; rcases hr with rfl | rfl <;> rfl) ?_; clear H; intro bk wk H)) | refine pvQ ?_ | (refine opk 3 rfl ?_; first | (refine ost_cmp rfl rfl rfl rfl (fun hc => ?_) (fun hc => ?_) <;> (simp only [cmpP] at hc; try exact prIQ)) | (refine ost_streqB rfl rfl rfl (fun hc => ?_) (fun hc => ?_) <;> try exact prEQ) | (refine ost_strneB rfl rfl rfl (fun hc => ?_) (fun hc => ?_) <;> try exact prEQ) | (refine ost_streq rfl rfl rfl (fun hc => ?_) (fun hc => ?_) <;> try exact absurd rfl hc) | (refine ost_strne rfl rfl rfl (fun hc => ?_) (fun hc => ?_)) | (refine ost_ptEq rfl rfl rfl (fun hc => ?_) (fun hc => ?_) <;> try (simp at hc; done)) | (refine ost_ptNe rfl rfl rfl (fun hc => ?_) (fun hc => ?_) <;> try (simp at hc; done))) | (refine opk 4 rfl ?_; (refine ost_cmp rfl rfl rfl rfl (fun hc => ?_) (fun hc => ?_) <;> (simp only [cmpP] at hc; try exact prIQ))) | (refine opk 6 rfl ?_; (refine ost_mark H rfl rfl ixQ ?_; clear H; intro wk H; simp only [List.set_cons_zero, List.set_cons_succ, Nat.reduceAdd] at H)) | (refine opk 8 rfl ?_; (refine ost_storeW H rfl rfl rfl rfl lQ ixQ lQ okQ ?_; clear H; intro wk H; simp only [List.set_cons_zero, List.set_cons_succ, Nat.reduceAdd] at H)) | (refine opk 9 rfl ?_; first | (refine ost_allocA H rfl ?_; clear H; intro bk wk H) | (refine ost_build1 H rfl rfl rfl evQ lsQ rfl ?_; clear H; intro bk wk H))) | refine Wc.seq ?_ | refine then_n ?_ | refine WL.nil ?_ | refine Wc.region ?_ | refine Wc.block ?_ | refine then_r ?_ | refine then_e ?_ | refine inb_e rfl ?_ | refine inb_o rfl ?_ | refine inb_n ?_ | refine inb_r ?_ | refine Wc.skip ?_ | refine Wc.exit ?_ | refine Wc.ret ?_ | refine Wc.cond_true rfl ?_ | refine Wc.cond_false rfl ?_ | refine WL.skp rfl rfl ?_ | refine WL.sku rfl ?_)
  all_goals first | (exfalso; exact hc rfl) | ((first | refine fn_ret1 (v := .bool _) rfl rfl ⟨?_, H.fr⟩ | refine fn_ret1 (v := .int _ _) rfl rfl ⟨?_, H.fr⟩ | refine fn_ret1 (v := .string _) rfl rfl ⟨?_, H.fr⟩); rfl)
end Go.Tg

set_option linter.unusedVariables false
set_option maxRecDepth 100000
namespace Go.Tg
open Go Go.Proofs
theorem own_ : ownKnob Try.prog.godebug = none := by kernel_rfl
theorem laid_ : laidOutB Try.prog = true := by kernel_rfl
end Go.Tg

