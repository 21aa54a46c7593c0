/- Regions that draw their order with a mover that answers true or false, on which later operations of the same region hang. -/
import Derived.Test.YtbfilhaigbebpaaChn
set_option linter.unusedVariables false
set_option linter.unusedSimpArgs false
namespace Go.Tg
open Go
def bsel : Value → Value → Value → Value
  | .bool true, a, _ => a
  | .bool false, _, b => b
  | _, a, _ => a
section
variable {P : Program} {ops : Array Oper} {M : CV} {ws : World} {S : List Nat} {h0 h : FH} {B : List HA} {Fin : ((Nat → Value) → Env) → Prop} {i : Nat} {rest : List Oper} {sk : (Nat → Value) → Env} {op : Op} {ty : TypeId} {pos : String} {af : Array Edge} {d : Nat} {X : Value} {gd : Option (Nat × Bool)}
theorem Stp.run {o : Oper} {s : Env} {w : World} {K : Value → World → Prop} (hw : Region.wanted o (yld ops s) = true) (h : Ost P o s w K) : Stp P ops o s w K := ⟨fun _ => h, fun hn => (by rw [hw] at hn; cases hn)⟩
theorem Stp.skp {o : Oper} {s : Env} {w : World} {K : Value → World → Prop} (hw : Region.wanted o (yld ops s) = false) (h : K undef w) : Stp P ops o s w K := ⟨fun hn => (by rw [hw] at hn; cases hn), fun _ => h⟩
theorem Stp.mono' {o : Oper} {s : Env} {w : World} {K K' : Value → World → Prop} (h : Stp P ops o s w K) (hk : ∀ v w', K v w' → K' v w') : Stp P ops o s w K' := ⟨fun hw => (h.1 hw).mono hk, fun hn => hk _ _ (h.2 hn)⟩
theorem RGc.pg (hw : ∀ vs, Region.wanted ⟨some d, op, ty, pos, af, gd⟩ (yld ops (sk vs)) = true) (hG : M.at i = none) (hN : M.nx i = none)
    (h' : ∀ vs w T, PFc ops M i vs T → St ws S h0 h (B ++ T) w → Ost P ⟨some d, op, ty, pos, af, gd⟩ (sk vs) w fun v w' => Ext w w' ∧ v = X) (hr : RGc P ops M ws S h0 h B Fin (i + 1) rest (fun vs => upd (sk vs) d X)) : RGc P ops M ws S h0 h B Fin i (⟨some d, op, ty, pos, af, gd⟩ :: rest) sk := by
  unfold RGc
  refine ⟨fun _ => X, fun _ _ _ => rfl, ?_, by simp only [hG]; exact hr⟩
  unfold ObC
  simp only [hG, hN]
  exact fun vs w T hP H => Stp.run (hw vs) ((h' vs w T hP H).mono fun v w' ⟨a, b⟩ => ⟨a, fun _ => b⟩)
theorem RGc.mg {m : Cm} (hw : ∀ vs, Region.wanted ⟨some d, op, ty, pos, af, gd⟩ (yld ops (sk vs)) = true) (hG : M.at i = some m) (h' : ∀ vs w T, PFc ops M i vs T → St ws S h0 h (m.inp ++ (B ++ T)) w → Ost P ⟨some d, op, ty, pos, af, gd⟩ (sk vs) w fun v w' => ∃ L', m.r1 v L' ∧ St ws S h0 h (L' ++ (B ++ T)) w')
    (hr : RGc P ops M ws S h0 h B Fin (i + 1) rest (fun vs => upd (sk vs) d (vs i))) : RGc P ops M ws S h0 h B Fin i (⟨some d, op, ty, pos, af, gd⟩ :: rest) sk := by
  unfold RGc
  refine ⟨fun _ => undef, fun _ _ _ => rfl, ?_, by simp only [hG]; exact hr⟩
  unfold ObC
  simp only [hG]
  exact fun vs w T hP H => ⟨hw vs, h' vs w T hP H⟩
theorem RGc.w {a b : Value} (q : Nat) (l : List Nat) (hq : path ops i l q = true) (hqs : (M.at q).isSome = true) (hG : M.at i = none) (hN : M.nx i = none)
    (hv : ∀ vs T, PFc ops M i vs T → vs q = .bool true ∨ vs q = .bool false)
    (h1 : ∀ vs w T, vs q = .bool true → PFc ops M i vs T → St ws S h0 h (B ++ T) w → Stp P ops ⟨some d, op, ty, pos, af, gd⟩ (sk vs) w fun v w' => Ext w w' ∧ v = a)
    (h2 : ∀ vs w T, vs q = .bool false → PFc ops M i vs T → St ws S h0 h (B ++ T) w → Stp P ops ⟨some d, op, ty, pos, af, gd⟩ (sk vs) w fun v w' => Ext w w' ∧ v = b)
    (hr : RGc P ops M ws S h0 h B Fin (i + 1) rest (fun vs => upd (sk vs) d (bsel (vs q) a b))) : RGc P ops M ws S h0 h B Fin i (⟨some d, op, ty, pos, af, gd⟩ :: rest) sk := by
  unfold RGc
  refine ⟨fun vs => bsel (vs q) a b, fun vs vs' hh => congrArg (fun v => bsel v a b) (hh q ⟨l, hq⟩ hqs), ?_, by simp only [hG]; exact hr⟩
  unfold ObC
  simp only [hG, hN]
  intro vs w T hP H
  rcases hv vs T hP with e | e
  · exact Stp.mono' (h1 vs w T e hP H) fun v w' ⟨x, y⟩ => ⟨x, fun _ => by rw [e]; exact y⟩
  · exact Stp.mono' (h2 vs w T e hP H) fun v w' ⟨x, y⟩ => ⟨x, fun _ => by rw [e]; exact y⟩
end
end Go.Tg

