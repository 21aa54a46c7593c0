/- What closes the small goals of a walk: each is a theorem whose last argument is found by a fixed row of attempts where it is used. -/
import Derived.Test.YtbfilhaigbebpaaOps3
set_option linter.unusedVariables false
namespace Go.Tg
open Go
theorem gvQ {p : Prop} (h : p := by first | assumption | rfl | fail) : p := h
theorem lQ {p : Prop} (h : p := by first | assumption | rfl | (simp only [List.length_set]; assumption) | fail) : p := h
theorem bkQ {p : Prop} (h : p := by first | exact H.bI | exact H.sat _ _ ‹_› | fail) : p := h
theorem ixQ {p : Prop} (h : p := by first | exact ix | exact idx0 | exact idx1 | exact idx2 | exact idx3 | exact idx4 | exact idx5 | exact idx6 | exact idx7 | fail) : p := h
theorem tyQ {p : Prop} (h : p := by first | assumption | exact typed_cV _ | rfl | fail) : p := h
theorem vlQ {p : Prop} (h : p := by first | exact iI rfl | exact iP rfl | exact iS rfl | exact iB rfl | exact iT rfl | exact iM rfl | exact iF rfl | rfl | fail) : p := h
theorem vxQ {p : Prop} (h : p := by first | exact iI rfl | exact iB rfl | exact iS rfl | exact iA rfl | exact iP rfl | exact iT rfl | exact iM rfl | exact iF rfl | rfl | fail) : p := h
theorem evQ {p : Prop} (h : p := by first | exact evP_nil | exact evP1 vxQ | exact evP2 vxQ vxQ | exact evP3 vxQ vxQ vxQ | exact evP4 vxQ vxQ vxQ vxQ | exact evP_cons vxQ (evP4 vxQ vxQ vxQ vxQ) | fail) : p := h
theorem lsQ {p : Prop} (h : p := by first | exact (rfl : _ = []) | exact (rfl : _ = [_]) | exact (rfl : _ = [_, _]) | exact (rfl : _ = [_, _, _]) | exact (rfl : _ = [_, _, _, _]) | exact (rfl : _ = [_, _, _, _, _]) | exact (rfl : _ = [_, _, _, _, _, _]) | exact (rfl : _ = [_, _, _, _, _, _, _]) | exact (rfl : _ = [_, _, _, _, _, _, _, _]) | rfl | fail) : p := h
theorem omQ {p : Prop} (h : p := by first | omega | (have hq := (‹BS _ _ _ _› : BS _ _ _ _).le; omega) | (have hq := (‹Sl _ _ _ _ _› : Sl _ _ _ _ _).le; omega) | fail) : p := h
theorem okQ {p : Prop} (h : p := by first | assumption | exact cV_one _ | exact one_set (cV_one _) rfl | exact allOne_of rfl | fail) : p := h
theorem prIQ {p : Prop} (h : p := by first | (exfalso; omega) | exact absurd trivial hc | exact hc.elim | exact (bcon hc ‹_›).elim | exact (bcon ‹_› hc).elim | fail) : p := h
theorem prEQ {p : Prop} (h : p := by first | exact absurd rfl hc | exact absurd hc ‹_› | exact absurd ‹_› hc | fail) : p := h
theorem prDQ {p : Prop} (h : p := by first | exact absurd rfl hc | exact absurd hc ‹_› | exact absurd ‹_› hc | (exfalso; omega) | exact absurd trivial hc | exact hc.elim | exact (bcon hc ‹_›).elim | exact (bcon ‹_› hc).elim | fail) : p := h
theorem cl_agg {v : Value} {l : List Value} (h : v = .agg l.toArray) : v.cells = l.toArray := by subst h; rfl
theorem cl_one {v : Value} (v' : Value) (h : v = v') (h1 : v'.oneCell' = true) : v.cells = [v'].toArray := by subst h; cases v <;> simp_all [Value.cells, Value.oneCell']
theorem clQ {p : Prop} (h : p := by first | exact cl_agg rfl | exact cl_one (.int _ _) rfl rfl | exact cl_one (.pointer _) rfl rfl | exact cl_one (.bool _) rfl rfl | exact cl_one (.slice _ _ _) rfl rfl | exact cl_one (.string _) rfl rfl | exact cl_one (.map _) rfl rfl | exact cl_one (.func _ _ _) rfl rfl | exact cl_one _ rfl rfl | fail) : p := h
section
variable {P : Program} {o : Oper} {s : Env} {w : World} {K : Value → World → Prop} {ws : World} {S : List Nat} {h0 h : FH} {L : List HA}
theorem ost_cpl32 {t : TypeId} {x : Operand} {n : Int} (ho : o.op = .unOp .xor t x) (hx : ev s x = .int .u32 n) (hk : K (.int .u32 (bitv .xor .u32 4294967295 n)) w) : Ost P o s w K :=
  .val (by simp [execOp, ho, hx, Op.unary, Op.intBits, bitv, IntKind.signed, IntKind.max, IntKind.bits]) hk
theorem pvR {v : Value} (h : Ost P o s w (fun v' w' => v' = v ∧ w' = w) := by first
  | (refine opk 0 rfl ?_; (first | refine ost_mvx rfl ?_ | refine ost_asx rfl ?_ | refine ost_pickT rfl rfl ?_ | refine ost_pickF rfl rfl ?_); (first | refine Mv.of (.int _ _) rfl ?_ | refine Mv.of (.pointer _) rfl ?_ | refine Mv.of (.bool _) rfl ?_ | refine Mv.of (.slice _ _ _) rfl ?_ | refine Mv.of (.agg _) rfl ?_ | refine Mv.of (.string _) rfl ?_ | refine Mv.of (.tuple _) rfl ?_ | refine Mv.of (.map _) rfl ?_ | refine Mv.of (.func _ _ _) rfl ?_ | refine Mv.of _ rfl ?_); exact ⟨rfl, rfl⟩)
  | (refine opk 2 rfl ?_; first | exact ost_load1 rfl rfl rfl bkQ gvQ ⟨rfl, rfl⟩ | exact ost_loadW rfl rfl rfl bkQ lQ ⟨rfl, rfl⟩ | exact ost_loadR rfl rfl rfl bkQ (by assumption) lQ ⟨rfl, rfl⟩)
  | (refine opk 7 rfl ?_; first | exact ost_fieldAddr rfl (by decide) rfl ⟨rfl, rfl⟩ | exact ost_idxArr rfl rfl rfl (by omega) (by omega) ⟨rfl, rfl⟩ | exact ost_idxSl rfl rfl rfl (by omega) (by omega) ⟨rfl, rfl⟩ | exact ost_nilCheck rfl rfl ⟨rfl, rfl⟩)
  | (refine opk 5 rfl ?_; first | exact ost_add_in rfl rfl rfl (by simp only [inK]; omega) ⟨rfl, rfl⟩ | exact ost_sub_in rfl rfl rfl (by simp only [inK]; omega) ⟨rfl, rfl⟩ | exact ost_shl rfl rfl rfl (by omega) ⟨rfl, rfl⟩ | exact ost_shr rfl rfl rfl (by omega) ⟨rfl, rfl⟩ | exact ost_bits rfl rfl rfl rfl ⟨rfl, rfl⟩ | exact ost_straddB rfl rfl rfl (by (try simp only [List.length_append]); omega) ⟨rfl, rfl⟩ | exact ost_mul_in rfl rfl rfl (by simp only [inK]; omega) ⟨rfl, rfl⟩ | exact ost_remN rfl rfl rfl (by omega) (by omega) ⟨rfl, rfl⟩ | exact ost_quoN rfl rfl rfl (by omega) (by omega) (by simp only [inK]; omega) ⟨rfl, rfl⟩ | exact ost_rem rfl rfl rfl (by decide) ⟨rfl, rfl⟩ | exact ost_quo rfl rfl rfl (by decide) ⟨rfl, rfl⟩ | exact ost_add rfl rfl rfl ⟨rfl, rfl⟩ | exact ost_sub rfl rfl rfl ⟨rfl, rfl⟩ | exact ost_mul rfl rfl rfl ⟨rfl, rfl⟩)
  | (refine opk 6 rfl ?_; first | exact ost_conv_in rfl rfl (by simp only [inK]; omega) ⟨rfl, rfl⟩ | exact ost_conv rfl rfl ⟨rfl, rfl⟩)
  | (refine opk 11 rfl ?_; first | exact ost_extract rfl rfl rfl ⟨rfl, rfl⟩ | exact ost_field1 rfl rfl rfl rfl ⟨rfl, rfl⟩ | exact ost_idxVal rfl rfl rfl rfl (by omega) (by omega) gvQ ⟨rfl, rfl⟩)
  | (refine opk 12 rfl ?_; first | exact ost_notT rfl rfl ⟨rfl, rfl⟩ | exact ost_notF rfl rfl ⟨rfl, rfl⟩ | exact ost_neg rfl rfl ⟨rfl, rfl⟩ | exact ost_cpl32 rfl rfl ⟨rfl, rfl⟩)
  | (refine opk 1 rfl ?_; first | exact ost_len_sl rfl rfl ⟨rfl, rfl⟩ | exact ost_len_str rfl rfl ⟨rfl, rfl⟩ | exact ost_len_arr rfl ⟨rfl, rfl⟩ | exact ost_cap_sl rfl rfl ⟨rfl, rfl⟩ | exact ost_max rfl rfl rfl ⟨rfl, rfl⟩ | exact ost_min rfl rfl rfl ⟨rfl, rfl⟩)
  | (refine opk 3 rfl ?_; first | exact ost_boolSame rfl rfl rfl ⟨rfl, rfl⟩ | exact ost_boolDiff rfl rfl rfl ⟨rfl, rfl⟩)
  | (refine opk 9 rfl ?_; first | exact ost_buildA0 rfl ⟨rfl, rfl⟩ | exact ost_buildS rfl evQ rfl lsQ ⟨rfl, rfl⟩)
  | (refine opk 10 rfl ?_; first | exact ost_sliceL rfl rfl rfl (by omega) (by omega) ⟨rfl, rfl⟩ | exact ost_sliceH rfl rfl rfl (by omega) omQ ⟨rfl, rfl⟩ | exact ost_sliceAH rfl rfl rfl (by omega) (by omega) ⟨rfl, rfl⟩ | exact ost_sliceLH rfl rfl rfl rfl (by omega) (by omega) omQ ⟨rfl, rfl⟩ | exact ost_sliceA0 rfl rfl ⟨rfl, rfl⟩)
  | (refine opk 13 rfl ?_; first | exact ost_makeFuncL rfl ⟨rfl, rfl⟩ | exact ost_s2a rfl rfl (by first | omega | (simp only [List.length_drop, List.length_take]; omega)) ⟨rfl, rfl⟩)
  | fail) :
  Ost P o s w (fun v' w' => v' = v ∧ w' = w) := h
theorem pvQ {v : Value} (hk : K v w) (h : Ost P o s w (fun v' w' => v' = v ∧ w' = w) := by first | exact pvR | fail) : Ost P o s w K :=
  h.mono fun _ _ ⟨a, b⟩ => by subst a; subst b; exact hk
theorem dvQ {X : Value} (h : Ost P o s w (fun v' w' => v' = X ∧ w' = w) := by first | exact pvR | exact ost_eqAS rfl (by decide) rfl rfl tyQ ⟨rfl, rfl⟩ | exact ost_neAS rfl (by decide) rfl rfl tyQ ⟨rfl, rfl⟩ | fail) : Ost P o s w (fun v w' => Ext w w' ∧ v = X) :=
  h.mono fun _ _ ⟨a, b⟩ => by subst b; exact ⟨Fr.refl _ _, a⟩
theorem dbQ {X : Value} (h : Ost P o s w (fun v' w' => v' = X ∧ w' = w) := by first
  | (refine opk 4 rfl ?_; exact ost_cmpD (q := dcd _) rfl rfl rfl rfl dcd_iff ⟨rfl, rfl⟩)
  | (refine opk 3 rfl ?_; first | exact ost_eqAD (q := dcd _) rfl (by decide) rfl rfl tyQ tyQ dcd_iff ⟨rfl, rfl⟩ | exact ost_neAD (q := dcd _) rfl (by decide) rfl rfl tyQ tyQ dcd_iff ⟨rfl, rfl⟩ | exact ost_cmpD (q := dcd _) rfl rfl rfl rfl dcd_iff ⟨rfl, rfl⟩ | exact ost_streqD (q := dcd _) rfl rfl rfl dcd_iff ⟨rfl, rfl⟩ | exact ost_strneD (q := dcd _) rfl rfl rfl dcd_iff ⟨rfl, rfl⟩)
  | fail) : Ost P o s w (fun v w' => Ext w w' ∧ v = X) :=
  h.mono fun _ _ ⟨a, b⟩ => by subst b; exact ⟨Fr.refl _ _, a⟩
theorem ost_boxq {t : TypeId} {x : Operand} {l : List Value} (H : St ws S h0 h L w) (ho : o.op = .box t x)
    (hk : ∀ b w', St ws S h0 h (.blk b (.cells l.toArray t (0, 0)) :: L) w' → K (.pointer (some ⟨b, 0, none⟩)) w') (hl : (ev s x).cells = l.toArray := by first | exact clQ | fail) : Ost P o s w K := ost_boxH H ho hl hk
theorem ost_V0d {f : Nat} {args : List Operand} {at_ : Array TypeId} {vs : List Value} {X : Value} [Fun P f] (ho : o.op = .call { callee := .value (.func f), args := args.toArray, argTypes := at_ })
    (hC : SpecV P f vs.toArray w X) (hv : mapEv s args = vs) : Ost P o s w (fun v w' => Ext w w' ∧ v = X) := ost_V0 ho hC hv fun _ hX => ⟨hX, rfl⟩
end
section
variable {P : Program} {ops : Array Oper} {G : GF} {w0 : World} {Fin : ((Nat → Value) → Env) → Prop} {i : Nat} {rest : List Oper} {sk : (Nat → Value) → Env} {op : Op} {ty : TypeId} {pos : String} {af : Array Edge} {d : Nat} {X : Value} {gd : Option (Nat × Bool)}
theorem RGs.pq (hw : ∀ vs, Region.wanted ⟨some d, op, ty, pos, af, gd⟩ (yld ops (sk vs)) = true) (hG : G i = none) (h : ∀ vs w, Ext w0 w → PFs ops G i vs w → Ost P ⟨some d, op, ty, pos, af, gd⟩ (sk vs) w fun v w' => Ext w w' ∧ v = X) (hr : RGs P ops G w0 Fin (i + 1) rest (fun vs => upd (sk vs) d X)) : RGs P ops G w0 Fin i (⟨some d, op, ty, pos, af, gd⟩ :: rest) sk := rgs_val hG hw h hr
theorem RGs.bq {q : Bool} (hw : ∀ vs, Region.wanted ⟨some d, op, ty, pos, af, gd⟩ (yld ops (sk vs)) = true) (hG : G i = none) (h : ∀ vs w, Ext w0 w → PFs ops G i vs w → Ost P ⟨some d, op, ty, pos, af, gd⟩ (sk vs) w fun v w' => Ext w w' ∧ v = .bool q)
    (ht : q = true → RGs P ops G w0 Fin (i + 1) rest (fun vs => upd (sk vs) d (.bool true))) (hf : q = false → RGs P ops G w0 Fin (i + 1) rest (fun vs => upd (sk vs) d (.bool false))) : RGs P ops G w0 Fin i (⟨some d, op, ty, pos, af, gd⟩ :: rest) sk := rgs_bool hG hw h ht hf
end
section
variable {P : Program} {ops : Array Oper} {M : MV} {ws : World} {S : List Nat} {h0 h : FH} {B : List HA} {Fin : ((Nat → Value) → Env) → Prop} {i : Nat} {rest : List Oper} {sk : (Nat → Value) → Env} {op : Op} {ty : TypeId} {pos : String} {af : Array Edge} {d : Nat} {X : Value} {gd : Option (Nat × Bool)}
theorem RGm.pq (hw : ∀ vs, Region.wanted ⟨some d, op, ty, pos, af, gd⟩ (yld ops (sk vs)) = true) (hG : M.lookup i = none) (h' : ∀ vs w T, PFm ops M i vs T → St ws S h0 h (B ++ T) w → Ost P ⟨some d, op, ty, pos, af, gd⟩ (sk vs) w fun v w' => Ext w w' ∧ v = X) (hr : RGm P ops M ws S h0 h B Fin (i + 1) rest (fun vs => upd (sk vs) d X)) : RGm P ops M ws S h0 h B Fin i (⟨some d, op, ty, pos, af, gd⟩ :: rest) sk := rgm_val hG hw h' hr
theorem RGm.bq {q : Bool} (hw : ∀ vs, Region.wanted ⟨some d, op, ty, pos, af, gd⟩ (yld ops (sk vs)) = true) (hG : M.lookup i = none) (h' : ∀ vs w T, PFm ops M i vs T → St ws S h0 h (B ++ T) w → Ost P ⟨some d, op, ty, pos, af, gd⟩ (sk vs) w fun v w' => Ext w w' ∧ v = .bool q)
    (ht : q = true → RGm P ops M ws S h0 h B Fin (i + 1) rest (fun vs => upd (sk vs) d (.bool true))) (hf : q = false → RGm P ops M ws S h0 h B Fin (i + 1) rest (fun vs => upd (sk vs) d (.bool false))) : RGm P ops M ws S h0 h B Fin i (⟨some d, op, ty, pos, af, gd⟩ :: rest) sk := rgm_bool hG hw h' ht hf
theorem RGm.mq {x : List HA × (Value → List HA → Prop)} (hw : ∀ vs, Region.wanted ⟨some d, op, ty, pos, af, gd⟩ (yld ops (sk vs)) = true) (hG : M.lookup i = some x) (h' : ∀ vs w T, PFm ops M i vs T → St ws S h0 h (x.1 ++ (B ++ T)) w → Ost P ⟨some d, op, ty, pos, af, gd⟩ (sk vs) w fun v w' => ∃ L', x.2 v L' ∧ St ws S h0 h (L' ++ (B ++ T)) w') (hr : RGm P ops M ws S h0 h B Fin (i + 1) rest (fun vs => upd (sk vs) d (vs i))) : RGm P ops M ws S h0 h B Fin i (⟨some d, op, ty, pos, af, gd⟩ :: rest) sk := rgm_mov hG hw h' hr
end
end Go.Tg

