/- Regions that draw their order: one relation of the values so far, of which movers are done, and of what is owned. -/
import Derived.Test.YtbfilhaigbebpaaMov
set_option linter.unusedVariables false
set_option linter.unusedSimpArgs false
namespace Go.Tg
open Go
abbrev PiX := (Nat → Value) → (Nat → Bool) → List HA → Prop
def ObX (P : Program) (ops : Array Oper) (mv : Nat → Bool) (π : PiX) (ws : World) (S : List Nat) (h0 h : FH) (k : Nat) (o : Oper) (e : (Nat → Value) → Env) (y : Value) : Prop :=
  if mv k = true then ∀ vs w dn L, dn k = false → (∀ j, direct ops k j = true → mv j = true → dn j = true) → π vs dn L → St ws S h0 h L w → Region.wanted o (yld ops (e vs)) = true ∧ Ost P o (e vs) w fun v w' => ∃ L', π (fun q => if q = k then v else vs q) (fun q => q == k || dn q) L' ∧ St ws S h0 h L' w'
  else ∀ vs w dn L, (∀ j, direct ops k j = true → mv j = true → dn j = true) → π vs dn L → St ws S h0 h L w → Stp P ops o (e vs) w fun v w' => Ext w w' ∧ (o.dst.isSome = true → v = y)
def RGx (P : Program) (ops : Array Oper) (mv : Nat → Bool) (π : PiX) (ws : World) (S : List Nat) (h0 h : FH) (Fin : ((Nat → Value) → Env) → Prop) : Nat → List Oper → ((Nat → Value) → Env) → Prop
  | _, [], sk => Fin sk
  | i, o :: rest, sk => ∃ X, ObX P ops mv π ws S h0 h i o sk X ∧ RGx P ops mv π ws S h0 h Fin (i + 1) rest (fun vs => putv (sk vs) o.dst (if mv i = true then vs i else X))
section
variable {P : Program} {n kb : Nat} {ops : Array Oper} {Q : Exit → Env → World → Prop} {s0 : Env} {w0 ws : World} {S : List Nat} {h0 h : FH} {mv : Nat → Bool} {π : PiX}
end
section
variable {P : Program} {ops : Array Oper} {mv : Nat → Bool} {π : PiX} {ws : World} {S : List Nat} {h0 h : FH} {Fin : ((Nat → Value) → Env) → Prop} {i : Nat} {rest : List Oper} {sk : (Nat → Value) → Env} {op : Op} {ty : TypeId} {pos : String} {af : Array Edge} {d : Nat} {X : Value}
theorem RGx.nil (h' : Fin sk) : RGx P ops mv π ws S h0 h Fin i [] sk := by unfold RGx; exact h'
theorem RGx.p (hG : mv i = false)
    (h' : ∀ vs w dn L, (∀ j, direct ops i j = true → mv j = true → dn j = true) → π vs dn L → St ws S h0 h L w → Ost P ⟨some d, op, ty, pos, af, none⟩ (sk vs) w fun v w' => Ext w w' ∧ v = X) (hr : RGx P ops mv π ws S h0 h Fin (i + 1) rest (fun vs => upd (sk vs) d X)) : RGx P ops mv π ws S h0 h Fin i (⟨some d, op, ty, pos, af, none⟩ :: rest) sk := by
  unfold RGx
  refine ⟨X, ?_, by simp only [hG, Bool.false_eq_true, if_false]; exact hr⟩
  unfold ObX
  rw [hG, if_neg (by simp)]
  exact fun vs w dn L hd hP H => ⟨fun _ => (h' vs w dn L hd hP H).mono fun v w' ⟨a, b⟩ => ⟨a, fun _ => b⟩, fun hn => absurd hn (by simp [Region.wanted])⟩
theorem RGx.m (hG : mv i = true)
    (h' : ∀ vs w dn L, dn i = false → (∀ j, direct ops i j = true → mv j = true → dn j = true) → π vs dn L → St ws S h0 h L w → Ost P ⟨some d, op, ty, pos, af, none⟩ (sk vs) w fun v w' => ∃ L', π (fun q => if q = i then v else vs q) (fun q => q == i || dn q) L' ∧ St ws S h0 h L' w') (hr : RGx P ops mv π ws S h0 h Fin (i + 1) rest (fun vs => upd (sk vs) d (vs i))) : RGx P ops mv π ws S h0 h Fin i (⟨some d, op, ty, pos, af, none⟩ :: rest) sk := by
  unfold RGx
  refine ⟨undef, ?_, by simp only [hG, if_true]; exact hr⟩
  unfold ObX
  rw [hG, if_pos rfl]
  exact fun vs w dn L h1 h2 hP H => ⟨rfl, h' vs w dn L h1 h2 hP H⟩
end
attribute [irreducible] RGx
section
variable {i j : Nat} {B A : List HA} {p1 : Value → List HA → Prop} {p2 : Value → Value → List HA → Prop} {vs : Nat → Value} {dn : Nat → Bool} {L : List HA}
end
section
variable {i j k : Nat} {B A : List HA} {p1 : Value → List HA → Prop} {p2 p3 : Value → Value → List HA → Prop} {vs : Nat → Value} {dn : Nat → Bool} {L : List HA}
end
section
variable {ms : List Nat} {B A : List HA} {ps : Nat → (Nat → Value) → List HA → Prop} {vs : Nat → Value} {dn : Nat → Bool} {L : List HA}
end
theorem St.okB {ws w : World} {S : List Nat} {h0 h : FH} {T B : List HA} (H : St ws S h0 h (T ++ B) w) {j b : Nat} {o : Obj} (hj : B[j]? = some (.blk b o)) : w.heap[b]? = some o :=
  H.ok (T.length + j) (.blk b o) (by rw [List.getElem?_append_right (by omega), Nat.add_sub_cancel_left]; exact hj)
end Go.Tg

