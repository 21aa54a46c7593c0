/- Proved: the given statement PageRightsCardSaid: the Go law PageRights returns true for every input that it is asked of. No conditions. -/
import Derived.Test.YtajfhoeejeadkaaDoorInst
import Derived.Test.YtajfhoeejeadkaaDoorAuto
import Derived.Test.YtajfhoeejeadkaaDoorQC
import Derived.Test.YtajfhoeejeadkaaDoorL3
import Derived.Test.YtajfhoeejeadkaaDoorCards
import Derived.Test.YtajfhoeejeadkaaDoorTie
import Derived.SevenTiedAt
set_option linter.unusedVariables false
set_option linter.unusedSimpArgs false
set_option maxRecDepth 100000
set_option maxHeartbeats 4000000
namespace Go.Tg
open Go Go.Proofs
def PGv (h : FH) (v : Value) (p : PageT) : Prop := ∃ A, v = .agg (pgV p A).toArray ∧ PgR h p A
theorem PGv.mono {h h' : FH} {v : Value} {p : PageT} (hle : FLe h h') (r : PGv h v p) : PGv h' v p := by
  obtain ⟨A, e, r⟩ := r; exact ⟨A, e, r.mono hle⟩
def GP (l : List (Nat × PageT)) : GF := fun i => match l.lookup i with | some xs => some fun v w => PGv (full w) v xs | none => none
theorem Wc.drawnQ {P : Program} {w0 : World} {n : Nat} {Q : Exit → Env → World → Prop} {s0 : Env} (kb : Nat) (g : List (Nat × PageT)) {id : Nat} {l : List Oper} [hm : Mix P] (hok : drawOk n kb l.toArray = true)
    (h : RGs P l.toArray (GP g) w0 (fun sk => ∀ vs w, Ext w0 w → (∀ p x, g.lookup p = some x → p < kb → (dstOf l.toArray p).isSome = true → PGv (full w) (vs p) x) → WL P n l.toArray Q (l.drop kb) (sk vs) w) 0 (l.take kb) (fun _ => s0)) :
    Wc P n (.region id l.toArray true) Q s0 w0 := by
  refine Wc.draw (G := GP g) kb hok hm.m (fun i q hq v w w' hv hE => ?_) ?_
  · unfold GP at hq
    cases hl : g.lookup i with
    | none => rw [hl] at hq; cases hq
    | some xs => rw [hl] at hq; cases hq; exact hv.mono (full_ext hE)
  · have key : ∀ (i : Nat) (rest : List Oper) (sk : (Nat → Value) → Env), RGs P l.toArray (GP g) w0 (fun sk => ∀ vs w, Ext w0 w → (∀ p x, g.lookup p = some x → p < kb → (dstOf l.toArray p).isSome = true → PGv (full w) (vs p) x) → WL P n l.toArray Q (l.drop kb) (sk vs) w) i rest sk →
        RGs P l.toArray (GP g) w0 (fun sk => ∀ vs w, Ext w0 w → (∀ p q, p < kb → GP g p = some q → (dstOf l.toArray p).isSome = true → q (vs p) w) → WL P n l.toArray Q (l.drop kb) (sk vs) w) i rest sk := by
      intro i rest
      induction rest generalizing i with
      | nil => intro sk h; unfold RGs at h ⊢; exact fun vs w hE hq => h vs w hE fun p x hl hp hs => hq p (fun v w => PGv (full w) v x) hp (by unfold GP; rw [hl]) hs
      | cons o rest ih =>
        intro sk h
        unfold RGs at h ⊢
        cases hg : GP g i with
        | some q => simp only [hg] at h ⊢; exact ⟨h.1, ih _ _ h.2⟩
        | none => simp only [hg] at h ⊢; obtain ⟨X, h1, h2⟩ := h; exact ⟨X, h1, ih _ _ h2⟩
    exact key _ _ _ h
section
variable {P : Program} {o : Oper} {s : Env} {w : World} {K : Value → World → Prop}
theorem ost_P {f : Nat} {args : List Operand} {at_ : Array TypeId} {vs : List Value} {p : PageT} [Fun P f] (ho : o.op = .call { callee := .value (.func f), args := args.toArray, argTypes := at_ })
    (hC : Spec P f vs.toArray w [] (full w) (fun v h' L' => ∃ A', v = .agg (pgV p A').toArray ∧ L' = [] ∧ PgR h' p A')) (hv : mapEv s args = vs) (hk : ∀ v w', Ext w w' → PGv (full w') v p → K v w') : Ost P o s w K :=
  ost_call ho hC hv fun v w' ⟨h', L', hs, hr⟩ => by
    obtain ⟨A', e, hl, hp⟩ := hr
    exact hk v w' hs.fr ⟨A', e, hp.mono hs.sat.le⟩
end
theorem few_le {p : PageT} (h : fewP p = true) : p.keys.length ≤ 1000000 ∧ p.locs.length ≤ 1000000 := by
  unfold fewP at h
  simp only [Bool.and_eq_true, decide_eq_true_eq] at h
  omega
end Go.Tg
namespace Go.Proofs.YtajfhoeejeadkaaDoor
open Go.ChangeShapes Go.WideShapes Go.ChangeAt Go.RowKit Go.Tg
end Go.Proofs.YtajfhoeejeadkaaDoor

