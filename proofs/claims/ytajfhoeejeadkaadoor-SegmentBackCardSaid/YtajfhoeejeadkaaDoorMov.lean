/- Regions that draw their order, some of whose operations change what is owned: each such one its own piece. -/
import Derived.Test.YtajfhoeejeadkaaDoorSl
set_option linter.unusedVariables false
set_option linter.unusedSimpArgs false
namespace Go.Tg
open Go
section gen
variable {P : Program} {n kb : Nat} {ops : Array Oper} {Q : Exit → Env → World → Prop} {s0 : Env} {w0 : World}
structure InvJ (n kb : Nat) (ops : Array Oper) (J : (Nat → Prop) → Env → World → Prop) (listed : Array Bool) (a : Act) (w : World) : Prop where
  sz : listed.size = ops.size
  ex : ∃ s, Sim n s a ∧ J (lst listed) s w
  body : ∀ j, lst listed j → j < kb
  down : ∀ i j, lst listed i → direct ops i j = true → lst listed j
end gen
section
variable {P : Program} {ops : Array Oper} {o : Oper} {s : Env} {w : World} {K K' : Value → World → Prop}
theorem Stp.mono (h : Stp P ops o s w K) (hk : ∀ v w', K v w' → K' v w') : Stp P ops o s w K' := ⟨fun hw => (h.1 hw).mono hk, fun hw => hk _ _ (h.2 hw)⟩
end
section perm
variable {ws w : World} {S : List Nat} {h0 h : FH} {L L' : List HA}
theorem St.perm (H : St ws S h0 h L w) (hp : L.Perm L') : St ws S h0 h L' w := by
  have pw : ∀ {l : List HA}, (∀ (i j : Nat) (A B : HA), i ≠ j → l[i]? = some A → l[j]? = some B → ∀ k, k ∈ A.fp → k ∉ B.fp) ↔ l.Pairwise (fun A B => ∀ k, k ∈ A.fp → k ∉ B.fp) := by
    intro l
    rw [List.pairwise_iff_getElem]
    constructor
    · intro hh i j hi hj hij
      exact hh i j l[i] l[j] (by omega) (by simp) (by simp)
    · intro hh i j A B hij hi hj k hA hB
      obtain ⟨hi1, rfl⟩ := List.getElem?_eq_some_iff.1 hi
      obtain ⟨hj1, rfl⟩ := List.getElem?_eq_some_iff.1 hj
      rcases Nat.lt_or_gt_of_ne hij with h | h
      · exact hh i j hi1 hj1 h k hA hB
      · exact hh j i hj1 hi1 h k hB hA
  refine ⟨H.fr, H.sat, fun i A hi => ?_, pw.2 ?_, fun i A hi => ?_, H.gr⟩
  · have : A ∈ L := hp.mem_iff.2 (List.mem_of_getElem? hi)
    obtain ⟨j, hj⟩ := List.getElem?_of_mem this
    exact H.ok j A hj
  · have := pw.1 H.ap
    exact hp.pairwise this (fun {A B} hh k hA hB => hh k hB hA)
  · have : A ∈ L := hp.mem_iff.2 (List.mem_of_getElem? hi)
    obtain ⟨j, hj⟩ := List.getElem?_of_mem this
    exact H.own j A hj
end perm
abbrev MV := List (Nat × List HA × (Value → List HA → Prop))
open Classical in
noncomputable def pcs (D : Nat → Prop) (outs : Nat → List HA) : MV → List HA
  | [] => []
  | m :: M => (if D m.1 then outs m.1 else m.2.1) ++ pcs D outs M
section mv
variable {P : Program} {n kb : Nat} {ops : Array Oper} {Q : Exit → Env → World → Prop} {s0 : Env} {w0 ws : World} {S : List Nat} {h0 h : FH} {B : List HA} {M : MV}
def PFm (ops : Array Oper) (M : MV) (i : Nat) (vs : Nat → Value) : Prop := ∀ p x, direct ops i p = true → M.lookup p = some x → (dstOf ops p).isSome = true → ∃ L', x.2 (vs p) L'
def RGm (P : Program) (ops : Array Oper) (M : MV) (ws : World) (S : List Nat) (h0 h : FH) (B : List HA) (Fin : ((Nat → Value) → Env) → Prop) : Nat → List Oper → ((Nat → Value) → Env) → Prop
  | _, [], sk => Fin sk
  | i, o :: rest, sk => match M.lookup i with
    | some x => (∀ vs w T, PFm ops M i vs → St ws S h0 h (x.1 ++ (B ++ T)) w → Region.wanted o (yld ops (sk vs)) = true ∧ Ost P o (sk vs) w fun v w' => ∃ L', x.2 v L' ∧ St ws S h0 h (L' ++ (B ++ T)) w') ∧
        RGm P ops M ws S h0 h B Fin (i + 1) rest (fun vs => putv (sk vs) o.dst (vs i))
    | none => ∃ X, (∀ vs w T, PFm ops M i vs → St ws S h0 h (B ++ T) w → Stp P ops o (sk vs) w fun v w' => Ext w w' ∧ (o.dst.isSome = true → v = X)) ∧
        RGm P ops M ws S h0 h B Fin (i + 1) rest (fun vs => putv (sk vs) o.dst X)
end mv
section
variable {P : Program} {ops : Array Oper} {M : MV} {ws : World} {S : List Nat} {h0 h : FH} {B : List HA} {Fin : ((Nat → Value) → Env) → Prop} {i : Nat} {rest : List Oper} {sk : (Nat → Value) → Env} {op : Op} {ty : TypeId} {pos : String} {af : Array Edge} {d : Nat} {X : Value}
theorem rgm_val {o : Oper} (hG : M.lookup i = none) (hw : ∀ vs, Region.wanted o (yld ops (sk vs)) = true)
    (h' : ∀ vs w T, PFm ops M i vs → St ws S h0 h (B ++ T) w → Ost P o (sk vs) w fun v w' => Ext w w' ∧ v = X) (hr : RGm P ops M ws S h0 h B Fin (i + 1) rest (fun vs => putv (sk vs) o.dst X)) : RGm P ops M ws S h0 h B Fin i (o :: rest) sk := by
  unfold RGm
  simp only [hG]
  exact ⟨X, fun vs w T hP H => ⟨fun _ => (h' vs w T hP H).mono fun v w' ⟨a, b⟩ => ⟨a, fun _ => b⟩, fun hn => absurd (hw vs) (by simp [hn])⟩, hr⟩
theorem rgm_bool {o : Oper} {q : Bool} (hG : M.lookup i = none) (hw : ∀ vs, Region.wanted o (yld ops (sk vs)) = true)
    (h' : ∀ vs w T, PFm ops M i vs → St ws S h0 h (B ++ T) w → Ost P o (sk vs) w fun v w' => Ext w w' ∧ v = .bool q) (ht : q = true → RGm P ops M ws S h0 h B Fin (i + 1) rest (fun vs => putv (sk vs) o.dst (.bool true)))
    (hf : q = false → RGm P ops M ws S h0 h B Fin (i + 1) rest (fun vs => putv (sk vs) o.dst (.bool false))) : RGm P ops M ws S h0 h B Fin i (o :: rest) sk := by
  cases q
  · exact rgm_val hG hw h' (hf rfl)
  · exact rgm_val hG hw h' (ht rfl)
theorem rgm_skip {o : Oper} (hG : M.lookup i = none) (hw : ∀ vs, Region.wanted o (yld ops (sk vs)) = false) (hr : RGm P ops M ws S h0 h B Fin (i + 1) rest (fun vs => putv (sk vs) o.dst undef)) : RGm P ops M ws S h0 h B Fin i (o :: rest) sk := by
  unfold RGm
  simp only [hG]
  exact ⟨undef, fun vs w T hP H => ⟨fun hn => absurd hn (by simp [hw vs]), fun _ => ⟨Fr.refl _ _, fun _ => rfl⟩⟩, hr⟩
theorem rgm_mov {o : Oper} {x : List HA × (Value → List HA → Prop)} (hG : M.lookup i = some x) (hw : ∀ vs, Region.wanted o (yld ops (sk vs)) = true)
    (h' : ∀ vs w T, PFm ops M i vs → St ws S h0 h (x.1 ++ (B ++ T)) w → Ost P o (sk vs) w fun v w' => ∃ L', x.2 v L' ∧ St ws S h0 h (L' ++ (B ++ T)) w') (hr : RGm P ops M ws S h0 h B Fin (i + 1) rest (fun vs => putv (sk vs) o.dst (vs i))) : RGm P ops M ws S h0 h B Fin i (o :: rest) sk := by
  unfold RGm
  simp only [hG]
  exact ⟨fun vs w T hP H => ⟨hw vs, h' vs w T hP H⟩, hr⟩
theorem RGm.p (hG : M.lookup i = none) (h' : ∀ vs w T, PFm ops M i vs → St ws S h0 h (B ++ T) w → Ost P ⟨some d, op, ty, pos, af, none⟩ (sk vs) w fun v w' => Ext w w' ∧ v = X) (hr : RGm P ops M ws S h0 h B Fin (i + 1) rest (fun vs => upd (sk vs) d X)) : RGm P ops M ws S h0 h B Fin i (⟨some d, op, ty, pos, af, none⟩ :: rest) sk := rgm_val hG (fun _ => rfl) h' hr
theorem RGm.b {q : Bool} (hG : M.lookup i = none) (h' : ∀ vs w T, PFm ops M i vs → St ws S h0 h (B ++ T) w → Ost P ⟨some d, op, ty, pos, af, none⟩ (sk vs) w fun v w' => Ext w w' ∧ v = .bool q)
    (ht : q = true → RGm P ops M ws S h0 h B Fin (i + 1) rest (fun vs => upd (sk vs) d (.bool true))) (hf : q = false → RGm P ops M ws S h0 h B Fin (i + 1) rest (fun vs => upd (sk vs) d (.bool false))) : RGm P ops M ws S h0 h B Fin i (⟨some d, op, ty, pos, af, none⟩ :: rest) sk := rgm_bool hG (fun _ => rfl) h' ht hf
theorem RGm.g {j : Nat} {b : Bool} (hw : ∀ vs, (yld ops (sk vs) j == some b) = true) (hG : M.lookup i = none) (h' : ∀ vs w T, PFm ops M i vs → St ws S h0 h (B ++ T) w → Ost P ⟨some d, op, ty, pos, af, some (j, b)⟩ (sk vs) w fun v w' => Ext w w' ∧ v = X) (hr : RGm P ops M ws S h0 h B Fin (i + 1) rest (fun vs => upd (sk vs) d X)) : RGm P ops M ws S h0 h B Fin i (⟨some d, op, ty, pos, af, some (j, b)⟩ :: rest) sk := rgm_val hG hw h' hr
theorem RGm.skp {j : Nat} {b : Bool} (hw : ∀ vs, (yld ops (sk vs) j == some b) = false) (hG : M.lookup i = none) (hr : RGm P ops M ws S h0 h B Fin (i + 1) rest (fun vs => upd (sk vs) d undef)) : RGm P ops M ws S h0 h B Fin i (⟨some d, op, ty, pos, af, some (j, b)⟩ :: rest) sk := rgm_skip hG hw hr
theorem RGm.m {x : List HA × (Value → List HA → Prop)} (hG : M.lookup i = some x) (h' : ∀ vs w T, PFm ops M i vs → St ws S h0 h (x.1 ++ (B ++ T)) w → Ost P ⟨some d, op, ty, pos, af, none⟩ (sk vs) w fun v w' => ∃ L', x.2 v L' ∧ St ws S h0 h (L' ++ (B ++ T)) w') (hr : RGm P ops M ws S h0 h B Fin (i + 1) rest (fun vs => upd (sk vs) d (vs i))) : RGm P ops M ws S h0 h B Fin i (⟨some d, op, ty, pos, af, none⟩ :: rest) sk := rgm_mov hG (fun _ => rfl) h' hr
theorem RGm.u (hG : M.lookup i = none) (h' : ∀ vs w T, PFm ops M i vs → St ws S h0 h (B ++ T) w → Ost P ⟨none, op, ty, pos, af, none⟩ (sk vs) w fun v w' => Ext w w' ∧ v = X) (hr : RGm P ops M ws S h0 h B Fin (i + 1) rest sk) : RGm P ops M ws S h0 h B Fin i (⟨none, op, ty, pos, af, none⟩ :: rest) sk := rgm_val hG (fun _ => rfl) h' hr
end
attribute [irreducible] RGm
end Go.Tg

