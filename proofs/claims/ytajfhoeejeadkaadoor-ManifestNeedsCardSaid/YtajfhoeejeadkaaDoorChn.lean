/- Regions that draw their order, some of whose operations make a thing that a later one of the same region changes: chains of two. -/
import Derived.Test.YtajfhoeejeadkaaDoorMov
set_option linter.unusedVariables false
set_option linter.unusedSimpArgs false
namespace Go.Tg
open Go
structure Cm where
  i : Nat
  j : Nat
  inp : List HA
  r1 : Value → List HA → Prop
  r2 : Value → List HA → Prop
abbrev CV := List Cm
def CV.at (M : CV) (k : Nat) : Option Cm := M.find? fun m => m.i == k
def CV.nx (M : CV) (k : Nat) : Option Cm := M.find? fun m => m.j == k
section mv
variable {P : Program} {n kb : Nat} {ops : Array Oper} {Q : Exit → Env → World → Prop} {s0 : Env} {w0 ws : World} {S : List Nat} {h0 h : FH} {B : List HA} {M : CV}
def PFc (ops : Array Oper) (M : CV) (i : Nat) (vs : Nat → Value) : Prop := ∀ p m, direct ops i p = true → M.at p = some m → ∃ L', m.r1 (vs p) L'
def ObC (P : Program) (ops : Array Oper) (M : CV) (ws : World) (S : List Nat) (h0 h : FH) (B : List HA) (k : Nat) (o : Oper) (e : (Nat → Value) → Env) (y : Value) : Prop :=
  match M.at k with
  | some m => ∀ vs w T, PFc ops M k vs → St ws S h0 h (m.inp ++ (B ++ T)) w → Region.wanted o (yld ops (e vs)) = true ∧ Ost P o (e vs) w fun v w' => ∃ L', m.r1 v L' ∧ St ws S h0 h (L' ++ (B ++ T)) w'
  | none => match M.nx k with
    | some m => ∀ vs w T L1, PFc ops M k vs → m.r1 (vs m.i) L1 → St ws S h0 h (L1 ++ (B ++ T)) w → Region.wanted o (yld ops (e vs)) = true ∧ Ost P o (e vs) w fun _ w' => ∃ L', m.r2 (vs m.i) L' ∧ St ws S h0 h (L' ++ (B ++ T)) w'
    | none => ∀ vs w T, PFc ops M k vs → St ws S h0 h (B ++ T) w → Stp P ops o (e vs) w fun v w' => Ext w w' ∧ (o.dst.isSome = true → v = y)
def RGc (P : Program) (ops : Array Oper) (M : CV) (ws : World) (S : List Nat) (h0 h : FH) (B : List HA) (Fin : ((Nat → Value) → Env) → Prop) : Nat → List Oper → ((Nat → Value) → Env) → Prop
  | _, [], sk => Fin sk
  | i, o :: rest, sk => ∃ X, ObC P ops M ws S h0 h B i o sk X ∧ RGc P ops M ws S h0 h B Fin (i + 1) rest (fun vs => putv (sk vs) o.dst (match M.at i with | some _ => vs i | none => X))
end mv
section
variable {P : Program} {ops : Array Oper} {M : CV} {ws : World} {S : List Nat} {h0 h : FH} {B : List HA} {Fin : ((Nat → Value) → Env) → Prop} {i : Nat} {rest : List Oper} {sk : (Nat → Value) → Env} {op : Op} {ty : TypeId} {pos : String} {af : Array Edge} {d : Nat} {X : Value}
theorem RGc.nil (h' : Fin sk) : RGc P ops M ws S h0 h B Fin i [] sk := by unfold RGc; exact h'
theorem RGc.p (hG : M.at i = none) (hN : M.nx i = none)
    (h' : ∀ vs w T, PFc ops M i vs → St ws S h0 h (B ++ T) w → Ost P ⟨some d, op, ty, pos, af, none⟩ (sk vs) w fun v w' => Ext w w' ∧ v = X) (hr : RGc P ops M ws S h0 h B Fin (i + 1) rest (fun vs => upd (sk vs) d X)) : RGc P ops M ws S h0 h B Fin i (⟨some d, op, ty, pos, af, none⟩ :: rest) sk := by
  unfold RGc
  refine ⟨X, ?_, by simp only [hG]; exact hr⟩
  unfold ObC
  simp only [hG, hN]
  exact fun vs w T hP H => ⟨fun _ => (h' vs w T hP H).mono fun v w' ⟨a, b⟩ => ⟨a, fun _ => b⟩, fun hn => absurd hn (by simp [Region.wanted])⟩
theorem RGc.m {m : Cm} (hG : M.at i = some m) (h' : ∀ vs w T, PFc ops M i vs → St ws S h0 h (m.inp ++ (B ++ T)) w → Ost P ⟨some d, op, ty, pos, af, none⟩ (sk vs) w fun v w' => ∃ L', m.r1 v L' ∧ St ws S h0 h (L' ++ (B ++ T)) w')
    (hr : RGc P ops M ws S h0 h B Fin (i + 1) rest (fun vs => upd (sk vs) d (vs i))) : RGc P ops M ws S h0 h B Fin i (⟨some d, op, ty, pos, af, none⟩ :: rest) sk := by
  unfold RGc
  refine ⟨undef, ?_, by simp only [hG]; exact hr⟩
  unfold ObC
  simp only [hG]
  exact fun vs w T hP H => ⟨rfl, h' vs w T hP H⟩
theorem RGc.s {m : Cm} (hG : M.at i = none) (hN : M.nx i = some m) (h' : ∀ vs w T L1, PFc ops M i vs → m.r1 (vs m.i) L1 → St ws S h0 h (L1 ++ (B ++ T)) w → Ost P ⟨none, op, ty, pos, af, none⟩ (sk vs) w fun _ w' => ∃ L', m.r2 (vs m.i) L' ∧ St ws S h0 h (L' ++ (B ++ T)) w')
    (hr : RGc P ops M ws S h0 h B Fin (i + 1) rest sk) : RGc P ops M ws S h0 h B Fin i (⟨none, op, ty, pos, af, none⟩ :: rest) sk := by
  unfold RGc
  refine ⟨undef, ?_, hr⟩
  unfold ObC
  simp only [hG, hN]
  exact fun vs w T L1 hP h1 H => ⟨rfl, h' vs w T L1 hP h1 H⟩
end
attribute [irreducible] RGc
section
variable {P : Program} {o : Oper} {s : Env} {w : World} {K : Value → World → Prop}
theorem ost_boolNe {t u : TypeId} {x y : Operand} {q : Bool} {sz bytes : Nat} {z : Value} [Ty P t .bool sz bytes z] (ho : o.op = .binOp .neq t x y u) (hx : ev s x = .bool q) (hy : ev s y = .bool !q) (hk : K (.bool true) w) : Ost P o s w K := by
  refine .val ?_ hk
  have h := run_equalIn_bool (P := P) w 9999 t q (!q) Ty.und
  have h : (Op.equal t (.bool q) (.bool !q)).run P w = .ok (q == !q) w := h
  cases q
  all_goals (simp only [Bool.not_false, Bool.not_true] at hy h; simp [execOp, ho, hx, hy, eqGuard, binOp, h])
theorem ost_boolEqN {t u : TypeId} {x y : Operand} {q : Bool} {sz bytes : Nat} {z : Value} [Ty P t .bool sz bytes z] (ho : o.op = .binOp .eql t x y u) (hx : ev s x = .bool q) (hy : ev s y = .bool !q) (hk : K (.bool false) w) : Ost P o s w K := by
  refine .val ?_ hk
  have h := run_equalIn_bool (P := P) w 9999 t q (!q) Ty.und
  have h : (Op.equal t (.bool q) (.bool !q)).run P w = .ok (q == !q) w := h
  cases q
  all_goals (simp only [Bool.not_false, Bool.not_true] at hy h; simp [execOp, ho, hx, hy, eqGuard, binOp, h])
end
end Go.Tg

