/- More rules: equality of structs and arrays, contracts at a call, results, and the steps of a region that draws its order. -/
import Derived.Test.YtbfilhaigbebpaaOps
set_option linter.unusedVariables false
namespace Go.Tg
open Go

def opK : Op → Nat
  | .move _ | .assign _ | .pick .. => 0
  | .call _ => 1
  | .load .. => 2
  | .binOp .eql .. | .binOp .neq .. => 3
  | .binOp .lss .. | .binOp .leq .. | .binOp .gtr .. | .binOp .geq .. => 4
  | .binOp .. => 5
  | .convert .. => 6
  | .fieldAddr .. | .indexAddr .. | .nilCheck _ => 7
  | .store .. => 8
  | .alloc _ | .box .. | .build .. | .buildSlice .. => 9
  | .slice .. => 10
  | .extract .. | .field .. | .index .. => 11
  | .unOp .. => 12
  | _ => 13
section
variable {P : Program} {o : Oper} {s : Env} {w : World} {K : Value → World → Prop}
theorem opk (k : Nat) (hk : Nat.beq (opK o.op) k = true) (h : Ost P o s w K) : Ost P o s w K := h
def Mv (v : Value) (K : Value → World → Prop) (w : World) : Prop := K v w
theorem Mv.of {v : Value} (v' : Value) (h : v = v') (hk : K v' w) : Mv v K w := by subst h; exact hk
theorem ost_mvx {x : Operand} (ho : o.op = .move x) (hk : Mv (ev s x) K w) : Ost P o s w K := ost_move ho hk
theorem ost_asx {x : Operand} (ho : o.op = .assign x) (hk : Mv (ev s x) K w) : Ost P o s w K := ost_assign ho hk
theorem ost_pickT {c a b : Operand} (ho : o.op = .pick c a b) (hc : ev s c = .bool true) (hk : Mv (ev s a) K w) : Ost P o s w K := ost_pick ho hc hk
theorem ost_pickF {c a b : Operand} (ho : o.op = .pick c a b) (hc : ev s c = .bool false) (hk : Mv (ev s b) K w) : Ost P o s w K := ost_pick ho hc hk
theorem ost_notT {t : TypeId} {x : Operand} (ho : o.op = .unOp .not t x) (hx : ev s x = .bool true) (hk : K (.bool false) w) : Ost P o s w K := ost_not ho hx hk
theorem ost_notF {t : TypeId} {x : Operand} (ho : o.op = .unOp .not t x) (hx : ev s x = .bool false) (hk : K (.bool true) w) : Ost P o s w K := ost_not ho hx hk
end
class EqG (P : Program) (t : TypeId) : Prop where
  g : P.eqGuardType P.depth t = false
class Mix (P : Program) : Prop where
  m : P.follows .mixedOrders = true

section
variable {P : Program} {o : Oper} {s : Env} {w : World} {K : Value → World → Prop}
theorem run_eqA {op : BinOp} {t u : TypeId} {x y : Operand} {dep : Nat} {ks : List CK} {xs ys : List Value} [he : EqT P t true dep ks] [hg : EqG P t] (ho : o.op = .binOp op t x y u) (hd : dep ≤ 10000)
    (hx : ev s x = .agg xs.toArray) (hy : ev s y = .agg ys.toArray) (tx : Typed ks xs) (ty : Typed ks ys) :
    ∃ r : Bool, (r = true ↔ xs = ys) ∧ (op = .eql → (execOp (ev s) o).run P w = .ok (.value (.bool r)) w) ∧ (op = .neq → (execOp (ev s) o).run P w = .ok (.value (.bool !r)) w) := by
  obtain ⟨r, hr, hre⟩ := he.eq 10000 xs ys w hd tx ty
  have hr' : (Op.equalIn 10000 t (.agg xs.toArray) (.agg ys.toArray)).run P w = .ok r w := hr
  refine ⟨r, hre, fun e => ?_, fun e => ?_⟩ <;> subst e
  · refine run_binop ho (by rw [hx, hy]; exact run_eqGuard_agg w .eql t x y _ _ hg.g) ?_
    rw [hx, hy, run_eql_struct, hr']; rfl
  · refine run_binop ho (by rw [hx, hy]; exact run_eqGuard_agg w .neq t x y _ _ hg.g) ?_
    rw [hx, hy, run_neq_struct, hr']; rfl
theorem ost_eqA {t u : TypeId} {x y : Operand} {dep : Nat} {ks : List CK} {xs ys : List Value} [he : EqT P t true dep ks] [hg : EqG P t] (ho : o.op = .binOp .eql t x y u) (hd : dep ≤ 10000)
    (hx : ev s x = .agg xs.toArray) (hy : ev s y = .agg ys.toArray) (tx : Typed ks xs) (ty : Typed ks ys) (ht : xs = ys → K (.bool true) w) (hf : xs ≠ ys → K (.bool false) w) : Ost P o s w K := by
  obtain ⟨r, hre, h1, _⟩ := run_eqA (P := P) (s := s) (w := w) ho hd hx hy tx ty
  cases r
  · exact .val (h1 rfl) (hf fun e => by simpa using hre.2 e)
  · exact .val (h1 rfl) (ht (hre.1 rfl))
theorem ost_neA {t u : TypeId} {x y : Operand} {dep : Nat} {ks : List CK} {xs ys : List Value} [he : EqT P t true dep ks] [hg : EqG P t] (ho : o.op = .binOp .neq t x y u) (hd : dep ≤ 10000)
    (hx : ev s x = .agg xs.toArray) (hy : ev s y = .agg ys.toArray) (tx : Typed ks xs) (ty : Typed ks ys) (ht : xs ≠ ys → K (.bool true) w) (hf : xs = ys → K (.bool false) w) : Ost P o s w K := by
  obtain ⟨r, hre, _, h1⟩ := run_eqA (P := P) (s := s) (w := w) ho hd hx hy tx ty
  cases r
  · exact .val (h1 rfl) (ht fun e => by simpa using hre.2 e)
  · exact .val (h1 rfl) (hf (hre.1 rfl))

theorem ost_eqAS {t u : TypeId} {x y : Operand} {dep : Nat} {ks : List CK} {xs : List Value} [he : EqT P t true dep ks] [hg : EqG P t] (ho : o.op = .binOp .eql t x y u) (hd : dep ≤ 10000)
    (hx : ev s x = .agg xs.toArray) (hy : ev s y = .agg xs.toArray) (tx : Typed ks xs) (hk : K (.bool true) w) : Ost P o s w K :=
  ost_eqA ho hd hx hy tx tx (fun _ => hk) (fun h => absurd rfl h)
theorem ost_neAS {t u : TypeId} {x y : Operand} {dep : Nat} {ks : List CK} {xs : List Value} [he : EqT P t true dep ks] [hg : EqG P t] (ho : o.op = .binOp .neq t x y u) (hd : dep ≤ 10000)
    (hx : ev s x = .agg xs.toArray) (hy : ev s y = .agg xs.toArray) (tx : Typed ks xs) (hk : K (.bool false) w) : Ost P o s w K :=
  ost_neA ho hd hx hy tx tx (fun h => absurd rfl h) (fun _ => hk)
theorem ost_eqAD {t u : TypeId} {x y : Operand} {dep : Nat} {ks : List CK} {xs ys : List Value} {q : Bool} [he : EqT P t true dep ks] [hg : EqG P t] (ho : o.op = .binOp .eql t x y u) (hd : dep ≤ 10000)
    (hx : ev s x = .agg xs.toArray) (hy : ev s y = .agg ys.toArray) (tx : Typed ks xs) (ty : Typed ks ys) (hq : q = true ↔ xs = ys) (hk : K (.bool q) w) : Ost P o s w K :=
  ost_eqA ho hd hx hy tx ty (fun h => by rw [hq.2 h] at hk; exact hk) (fun h => by
    have : q = false := by cases q with | false => rfl | true => exact absurd (hq.1 rfl) h
    rw [this] at hk; exact hk)
theorem ost_neAD {t u : TypeId} {x y : Operand} {dep : Nat} {ks : List CK} {xs ys : List Value} {q : Bool} [he : EqT P t true dep ks] [hg : EqG P t] (ho : o.op = .binOp .neq t x y u) (hd : dep ≤ 10000)
    (hx : ev s x = .agg xs.toArray) (hy : ev s y = .agg ys.toArray) (tx : Typed ks xs) (ty : Typed ks ys) (hq : q = true ↔ xs ≠ ys) (hk : K (.bool q) w) : Ost P o s w K :=
  ost_neA ho hd hx hy tx ty (fun h => by rw [hq.2 h] at hk; exact hk) (fun h => by
    have : q = false := by cases q with | false => rfl | true => exact absurd h (hq.1 rfl)
    rw [this] at hk; exact hk)
noncomputable def dcd (p : Prop) : Bool := @decide p (Classical.propDecidable p)
theorem dcd_iff {p : Prop} : dcd p = true ↔ p := by simp [dcd]
theorem dcd_no {p : Prop} : dcd p = false ↔ ¬ p := by simp [dcd]
end
section
variable {P : Program} {o : Oper} {s : Env} {w : World} {K : Value → World → Prop}
def SpecV (P : Program) (f : Nat) (args : Array Value) (ws : World) (X : Value) : Prop := Calls P f args ws (Ret fun v w' => v = X ∧ Ext ws w')
section
variable {ws : World} {S : List Nat} {h0 h : FH} {L : List HA}
theorem ost_boxH {t : TypeId} {x : Operand} {l : List Value} (H : St ws S h0 h L w) (ho : o.op = .box t x) (hl : (ev s x).cells = l.toArray)
    (hk : ∀ b w', St ws S h0 h (.blk b (.cells l.toArray t (0, 0)) :: L) w' → K (.pointer (some ⟨b, 0, none⟩)) w') : Ost P o s w K :=
  ost_box ho (hk _ _ (by rw [hl]; exact H.alloc _))
theorem ost_allocH {t : TypeId} {d : TypeDesc} {sz bytes : Nat} {z : Value} {l : List Value} [Ty P t d sz bytes z] (H : St ws S h0 h L w) (ho : o.op = .alloc t) (hl : z.cells = l.toArray)
    (hk : ∀ b w', St ws S h0 h (.blk b (.cells l.toArray t (0, 0)) :: L) w' → K (.pointer (some ⟨b, 0, none⟩)) w') : Ost P o s w K :=
  ost_alloc ho (hk _ _ (by rw [hl]; exact H.alloc _))
theorem ost_allocA {t : TypeId} {d : TypeDesc} {sz bytes : Nat} {l : List Value} [Ty P t d sz bytes (.agg l.toArray)] (H : St ws S h0 h L w) (ho : o.op = .alloc t)
    (hk : ∀ b w', St ws S h0 h (.blk b (.cells l.toArray t (0, 0)) :: L) w' → K (.pointer (some ⟨b, 0, none⟩)) w') : Ost P o s w K :=
  ost_allocH (l := l) H ho rfl hk
theorem ost_alloc1 {t : TypeId} {d : TypeDesc} {sz bytes : Nat} {z : Value} [Ty P t d sz bytes z] (H : St ws S h0 h L w) (ho : o.op = .alloc t) (h1 : z.oneCell' = true)
    (hk : ∀ b w', St ws S h0 h (.blk b (.cells [z].toArray t (0, 0)) :: L) w' → K (.pointer (some ⟨b, 0, none⟩)) w') : Ost P o s w K :=
  ost_allocH H ho (by cases z <;> simp_all [Value.cells, Value.oneCell']) hk
theorem ost_storeW {t : TypeId} {x y : Operand} {d : TypeDesc} {sz bytes : Nat} {z : Value} {b : Nat} {l vs : List Value} {T : TypeId} {i : Nat} [Ty P t d sz bytes z] (H : St ws S h0 h L w) (ho : o.op = .store t x y) (hd : isAggD d = true)
    (ha : ev s x = .pointer (some ⟨b, 0, none⟩)) (hv : ev s y = .agg vs.toArray) (hsz : vs.length = sz) (hi : L[i]? = some (.blk b (.cells l.toArray T (0, 0)))) (hl : l.length = sz) (h1 : ∀ v ∈ vs, v.oneCell' = true)
    (hk : ∀ w', St ws S h0 h (L.set i (.blk b (.cells vs.toArray T (0, 0)))) w' → K undef w') : Ost P o s w K :=
  ost_storeA H ho ha hv h1 hsz hi (by omega) (by
    have : l.take 0 ++ vs ++ l.drop (0 + vs.length) = vs := by simp; omega
    rw [this]; exact hk)
theorem ost_build0 {t : TypeId} {d : TypeDesc} {sz bytes : Nat} {l : List Value} [hT : Ty P t d sz bytes (.agg l.toArray)] (hd : (match d with | .array _ _ => true | _ => false) = true) (hs : ∀ n e, d = .array n e → ∃ k, ∀ w : World, (sizeOf e).run P w = .ok k w) (ho : o.op = .build t #[]) (hk : K (.agg l.toArray) w) : Ost P o s w K := by
  refine ost_build ho (fun w => ?_) hk
  unfold Instr.build
  simp only [Sem.run_bind, Ty.run_zero, Result.andThen_ok, Ty.run_und]
  cases d <;> simp at hd
  obtain ⟨k, hk⟩ := hs _ _ rfl
  simp [hk, Instr.fill, Value.cells]
theorem ost_buildA0 {t e : TypeId} {n sz bytes sz' bytes' : Nat} {d' : TypeDesc} {z' : Value} {l : List Value} [hT : Ty P t (.array n e) sz bytes (.agg l.toArray)] [Ty P e d' sz' bytes' z'] (ho : o.op = .build t #[]) (hk : K (.agg l.toArray) w) : Ost P o s w K :=
  ost_build0 (d := .array n e) rfl (fun n' e' h => by cases h; exact ⟨sz', Ty.run_size⟩) ho hk
theorem allOne_of {l : List Value} (h : l.all Value.oneCell' = true) : ∀ v ∈ l, v.oneCell' = true := by simpa using h
theorem one_set {l : List Value} {k : Nat} {x : Value} (h : ∀ v ∈ l, v.oneCell' = true) (hx : x.oneCell' = true) : ∀ v ∈ l.set k x, v.oneCell' = true := fun v hv => by
  rcases List.mem_or_eq_of_mem_set hv with h' | rfl
  · exact h v h'
  · exact hx
def Bx (ws : World) (S : List Nat) (h0 h : FH) (L : List HA) (v : Value) (t : TypeId) (K : Value → World → Prop) : Prop := ∀ b w', St ws S h0 h (.blk b (.cells v.cells t (0, 0)) :: L) w' → K (.pointer (some ⟨b, 0, none⟩)) w'
theorem Bx.one {v : Value} {t : TypeId} (v' : Value) (hv : v = v') (h1 : v'.oneCell' = true) (hk : ∀ b w', St ws S h0 h (.blk b (.cells [v'].toArray t (0, 0)) :: L) w' → K (.pointer (some ⟨b, 0, none⟩)) w') : Bx ws S h0 h L v t K := by
  subst hv; unfold Bx
  have : v.cells = [v].toArray := by cases v <;> simp_all [Value.cells, Value.oneCell']
  rw [this]; exact hk
theorem Bx.agg {v : Value} {t : TypeId} (l : List Value) (hv : v = .agg l.toArray) (hk : ∀ b w', St ws S h0 h (.blk b (.cells l.toArray t (0, 0)) :: L) w' → K (.pointer (some ⟨b, 0, none⟩)) w') : Bx ws S h0 h L v t K := by
  subst hv; exact hk
theorem ost_makeMapH {t : TypeId} (H : St ws S h0 h L w) (ho : o.op = .makeMap t none)
    (hk : ∀ b w', St ws S h0 h (.blk b (.map #[] 0) :: L) w' → K (.map (some b)) w') : Ost P o s w K :=
  ost_makeMap ho (hk _ _ (H.alloc _))
theorem ost_V0 {f : Nat} {args : List Operand} {at_ : Array TypeId} {vs : List Value} {X : Value} [Fun P f] (ho : o.op = .call { callee := .value (.func f), args := args.toArray, argTypes := at_ })
    (hC : SpecV P f vs.toArray w X) (hv : mapEv s args = vs) (hk : ∀ w', Ext w w' → K X w') : Ost P o s w K :=
  ost_call ho hC hv fun v w' ⟨e, hE⟩ => by subst e; exact hk w' hE
theorem ost_V {f : Nat} {args : List Operand} {at_ : Array TypeId} {vs : List Value} {X : Value} [Fun P f] (H : St ws S h0 h L w) (ho : o.op = .call { callee := .value (.func f), args := args.toArray, argTypes := at_ })
    (hC : SpecV P f vs.toArray w X) (hv : mapEv s args = vs) (hk : ∀ w', St ws S h0 h L w' → K X w') : Ost P o s w K :=
  ost_V0 ho hC hv fun w' hE => hk w' (H.ext hE)
theorem ost_S {f : Nat} {args : List Operand} {at_ : Array TypeId} {vs : List Value} {R : Value → FH → List HA → Prop} [Fun P f] (H : St ws S h0 h L w) (ho : o.op = .call { callee := .value (.func f), args := args.toArray, argTypes := at_ })
    (hC : Spec P f vs.toArray w [] h R) (hv : mapEv s args = vs) (hk : ∀ v w' h' L', R v h' L' → St ws S h0 h' (L' ++ L) w' → FLe h h' → K v w') : Ost P o s w K :=
  ost_call ho hC hv fun v w' ⟨h', L', hs, hR⟩ => hk v w' h' L' hR (H.callh hs) (hs.le H.sat)
theorem ost_SF {f : Nat} {args : List Operand} {at_ : Array TypeId} {vs : List Value} {R : Value → FH → List HA → Prop} [Fun P f] (H : St ws S h0 h L w) (ho : o.op = .call { callee := .value (.func f), args := args.toArray, argTypes := at_ })
    (hC : Spec P f vs.toArray w [] (full w) R) (hv : mapEv s args = vs) (hk : ∀ v w' h' L', R v h' L' → St w [] (full w) h' L' w' → St ws S h0 (fun k => if k < w.heap.size then h k else h' k) (L' ++ L) w' → K v w') : Ost P o s w K :=
  ost_call ho hC hv fun v w' ⟨h', L', hs, hR⟩ => hk v w' h' L' hR hs (H.call H.sat.le hs)
theorem ost_S1 {f : Nat} {args : List Operand} {at_ : Array TypeId} {vs : List Value} {R : Value → FH → List HA → Prop} {i : Nat} {A : HA} {g : FH} [Fun P f] (H : St ws S h0 h L w) (ho : o.op = .call { callee := .value (.func f), args := args.toArray, argTypes := at_ })
    (hi : L[i]? = some A) (hg : FLe h g) (hC : Spec P f vs.toArray w A.fp g R) (hv : mapEv s args = vs) (hk : ∀ v w' h' L', R v h' L' → St w A.fp g h' L' w' → St ws S h0 (fun k => if k < w.heap.size then h k else h' k) (L' ++ L.eraseIdx i) w' → K v w') : Ost P o s w K :=
  ost_call ho hC hv fun v w' ⟨h', L', hs, hR⟩ => hk v w' h' L' hR hs (H.call1 hi hg hs)
theorem ost_C {f : Nat} {args : List Operand} {at_ : Array TypeId} {vs : List Value} {R : Value → FH → List HA → Prop} [Fun P f] (H : St ws S h0 h L w) (ho : o.op = .call { callee := .value (.func f), args := args.toArray, argTypes := at_ })
    (hC : Spec P f vs.toArray w [] (full w) R) (hv : mapEv s args = vs) (hk : ∀ v w' h' L', R v h' L' → St ws S h0 h (L' ++ L) w' → K v w') : Ost P o s w K :=
  ost_SF H ho hC hv fun v w' h' L' hR _ H' => hk v w' h' L' hR (H.forget' H')
theorem ost_O {f : Nat} {args : List Operand} {at_ : Array TypeId} {vs : List Value} {R : Value → FH → List HA → Prop} {i : Nat} {A : HA} [Fun P f] (H : St ws S h0 h L w) (ho : o.op = .call { callee := .value (.func f), args := args.toArray, argTypes := at_ })
    (hi : L[i]? = some A) (hC : St w A.fp (less w A.fp) (less w A.fp) [A] w → Spec P f vs.toArray w A.fp (less w A.fp) R) (hv : mapEv s args = vs) (hk : ∀ v w' h' L', R v h' L' → St ws S h0 h (L' ++ L.eraseIdx i) w' → K v w') : Ost P o s w K :=
  ost_S1 H ho hi (H.less hi) (hC (H.give hi (sat_less _ _) fun k hk => less_none hk)) hv fun v w' h' L' hR _ H' => hk v w' h' L' hR (H.forget' H')
end

-- results
def RV (P : Program) (s : Env) (w : World) : ResultVar → Value → Prop
  | .tmp t, v => v = s t
  | .cell a t, v => ∃ ad, s a = .pointer (some ad) ∧ (loadVar t ad).run P w = .ok v w
theorem rv_cellA {t : TypeId} {d : TypeDesc} {sz bytes : Nat} {z : Value} {a b : Nat} {l : List Value} {T : TypeId} {fr : Nat × Nat} [Ty P t d sz bytes z] (hd : isAggD d = true)
    (ha : s a = .pointer (some ⟨b, 0, none⟩)) (hb : w.heap[b]? = some (.cells l.toArray T fr)) (hl : l.length = sz) : RV P s w (.cell a t) (.agg l.toArray) := by
  refine ⟨_, ha, ?_⟩
  have := run_loadCells_row (P := P) (vs := l) (off := 0) hb (by simp)
  rw [hl] at this
  simp [loadVar, Ty.run_agg, hd, Ty.run_size, this]
def rvSem (tmps : Array Value) : ResultVar → Sem Value
  | .tmp t => pure (tmps.getD t undef)
  | .cell a t => do loadVar t (← asAddr (tmps.getD a undef))
theorem results_rv (fn : Func) (tmps : Array Value) : results fn tmps = (do let vs ← fn.results.mapM (rvSem tmps); pure (if h : vs.size = 1 then vs[0] else .tuple vs)) := by
  unfold results
  rfl
theorem run_rv {rv : ResultVar} {v : Value} (h : RV P s w rv v) {tmps : Array Value} (ht : ∀ i, tmps.getD i undef = s i) : (rvSem tmps rv).run P w = .ok v w := by
  cases rv with
  | tmp t => simp only [RV] at h; subst h; simp only [rvSem, ht]; rfl
  | cell a t =>
    obtain ⟨ad, h1, h2⟩ := h
    simp only [rvSem, ht, h1, Sem.run_bind, asAddr, Sem.run_pure, Result.andThen_ok, h2]
theorem fn_end0 {fn : Func} {R : Value → World → Prop} (h : fn.results = #[]) (hR : R (.tuple #[]) w) : fnPost P fn R .normal s w := by
  unfold fnPost; exact ⟨_, fun tmps ht => by simp [results, h], hR⟩
theorem fn_ret1 {fn : Func} {R : Value → World → Prop} {r : ResultVar} {v : Value} (h : fn.results = #[r]) (h1 : RV P s w r v) (hR : R v w) : fnPost P fn R .ret s w := by
  unfold fnPost; exact ⟨v, fun tmps ht => by
    have := run_rv h1 ht
    rw [results_rv, h, show (#[r] : Array ResultVar) = [r].toArray from rfl, List.mapM_toArray]
    simp only [List.mapM_cons, List.mapM_nil, Sem.run_bind, Sem.run_map, this, Result.andThen_ok, Sem.run_pure]
    rfl, hR⟩
theorem fn_ret2 {fn : Func} {R : Value → World → Prop} {r1 r2 : ResultVar} {v1 v2 : Value} (h : fn.results = #[r1, r2]) (h1 : RV P s w r1 v1) (h2 : RV P s w r2 v2) (hR : R (.tuple #[v1, v2]) w) : fnPost P fn R .ret s w := by
  unfold fnPost; exact ⟨_, fun tmps ht => by
    have e1 := run_rv h1 ht
    have e2 := run_rv h2 ht
    rw [results_rv, h, show (#[r1, r2] : Array ResultVar) = [r1, r2].toArray from rfl, List.mapM_toArray]
    simp only [List.mapM_cons, List.mapM_nil, Sem.run_bind, Sem.run_map, e1, e2, Result.andThen_ok, Sem.run_pure]
    rfl, hR⟩
theorem specV_of {f : Nat} {args : Array Value} {X : Value} (h : ∀ h0 : FH, Sat h0 w → St w [] h0 h0 [] w → Calls P f args w (Ret fun v w' => v = X ∧ Ext w w')) : SpecV P f args w X :=
  h (full w) (sat_full w) (St.start (sat_full w))

-- a region that draws its order
section
variable {ops : Array Oper} {G : GF} {w0 : World} {Fin : ((Nat → Value) → Env) → Prop} {i : Nat} {rest : List Oper} {sk : (Nat → Value) → Env}
theorem rgs_nil (h : Fin sk) : RGs P ops G w0 Fin i [] sk := by unfold RGs; exact h
theorem rgs_val {X : Value} (hG : G i = none) (hw : ∀ vs, Region.wanted o (yld ops (sk vs)) = true)
    (h : ∀ vs w, Ext w0 w → PFs ops G i vs w → Ost P o (sk vs) w fun v w' => Ext w w' ∧ v = X) (hr : RGs P ops G w0 Fin (i + 1) rest (fun vs => putv (sk vs) o.dst X)) : RGs P ops G w0 Fin i (o :: rest) sk := by
  unfold RGs
  simp only [hG]
  exact ⟨X, fun vs w hE hP => ⟨fun _ => (h vs w hE hP).mono fun v w' ⟨a, b⟩ => ⟨a, fun _ => b⟩, fun hn => absurd (hw vs) (by simp [hn])⟩, hr⟩
theorem rgs_bool {q : Bool} (hG : G i = none) (hw : ∀ vs, Region.wanted o (yld ops (sk vs)) = true)
    (h : ∀ vs w, Ext w0 w → PFs ops G i vs w → Ost P o (sk vs) w fun v w' => Ext w w' ∧ v = .bool q) (ht : q = true → RGs P ops G w0 Fin (i + 1) rest (fun vs => putv (sk vs) o.dst (.bool true)))
    (hf : q = false → RGs P ops G w0 Fin (i + 1) rest (fun vs => putv (sk vs) o.dst (.bool false))) : RGs P ops G w0 Fin i (o :: rest) sk := by
  cases q
  · exact rgs_val hG hw h (hf rfl)
  · exact rgs_val hG hw h (ht rfl)
theorem rgs_skip (hG : G i = none) (hw : ∀ vs, Region.wanted o (yld ops (sk vs)) = false) (hr : RGs P ops G w0 Fin (i + 1) rest (fun vs => putv (sk vs) o.dst undef)) : RGs P ops G w0 Fin i (o :: rest) sk := by
  unfold RGs
  simp only [hG]
  exact ⟨undef, fun vs w hE hP => ⟨fun hn => absurd hn (by simp [hw vs]), fun _ => ⟨Fr.refl _ _, fun _ => rfl⟩⟩, hr⟩
theorem rgs_spec {g : Value → World → Prop} (hG : G i = some g) (hw : ∀ vs, Region.wanted o (yld ops (sk vs)) = true)
    (h : ∀ vs w, Ext w0 w → PFs ops G i vs w → Ost P o (sk vs) w fun v w' => Ext w w' ∧ g v w') (hr : RGs P ops G w0 Fin (i + 1) rest (fun vs => putv (sk vs) o.dst (vs i))) : RGs P ops G w0 Fin i (o :: rest) sk := by
  unfold RGs
  simp only [hG]
  exact ⟨fun vs w hE hP => ⟨fun _ => h vs w hE hP, fun hn => absurd (hw vs) (by simp [hn])⟩, hr⟩
theorem Wc.drawn {n : Nat} {Q : Exit → Env → World → Prop} {s0 : Env} (kb : Nat) {id : Nat} {l : List Oper} [hm : Mix P] (hok : drawOk n kb l.toArray = true)
    (h : RGs P l.toArray (fun _ => none) w0 (fun sk => ∀ vs w, Ext w0 w → WL P n l.toArray Q (l.drop kb) (sk vs) w) 0 (l.take kb) (fun _ => s0)) :
    Wc P n (.region id l.toArray true) Q s0 w0 := by
  refine Wc.draw (G := fun _ => none) kb hok hm.m (fun _ _ h => by cases h) ?_
  have e : (fun sk : (Nat → Value) → Env => ∀ vs w, Ext w0 w → (∀ p (g : Value → World → Prop), p < kb → (fun _ => none : GF) p = some g → (dstOf l.toArray p).isSome = true → g (vs p) w) → WL P n l.toArray Q (l.drop kb) (sk vs) w) =
      fun sk => ∀ vs w, Ext w0 w → WL P n l.toArray Q (l.drop kb) (sk vs) w := by
    funext sk; apply propext
    exact ⟨fun H vs w hE => H vs w hE (fun p g _ hg => by cases hg), fun H vs w hE _ => H vs w hE⟩
  rw [e]; exact h
theorem ost_cmpD {op : BinOp} {t u : TypeId} {x y : Operand} {k : IntKind} {a b : Int} {q : Bool} (ho : o.op = .binOp op t x y u) (hop : isCmp op = true) (hx : ev s x = .int k a) (hy : ev s y = .int k b) (hq : q = true ↔ cmpP op a b)
    (hk : K (.bool q) w) : Ost P o s w K := by
  refine ost_cmp ho hop hx hy (fun h => ?_) (fun h => ?_)
  · rw [hq.2 h] at hk; exact hk
  · have : q = false := by cases q with | false => rfl | true => exact absurd (hq.1 rfl) h
    rw [this] at hk; exact hk
instance {op : BinOp} {a b : Int} : Decidable (cmpP op a b) := by unfold cmpP; split <;> infer_instance
end
end

theorem bcon {q : Bool} (h1 : q = true) (h2 : q = false) : False := by rw [h1] at h2; cases h2
theorem idx0 {x : HA} {L : List HA} : (x :: L)[0]? = some x := rfl
theorem idx1 {a x : HA} {L : List HA} : (a :: x :: L)[1]? = some x := rfl
theorem idx2 {a b x : HA} {L : List HA} : (a :: b :: x :: L)[2]? = some x := rfl
theorem idx3 {a b c x : HA} {L : List HA} : (a :: b :: c :: x :: L)[3]? = some x := rfl
theorem idx4 {a b c d x : HA} {L : List HA} : (a :: b :: c :: d :: x :: L)[4]? = some x := rfl
theorem idx5 {a b c d e x : HA} {L : List HA} : (a :: b :: c :: d :: e :: x :: L)[5]? = some x := rfl
theorem idx6 {a b c d e f x : HA} {L : List HA} : (a :: b :: c :: d :: e :: f :: x :: L)[6]? = some x := rfl
theorem idx7 {a b c d e f g x : HA} {L : List HA} : (a :: b :: c :: d :: e :: f :: g :: x :: L)[7]? = some x := rfl

-- the head of a loop: the slots that its rounds write are whatever they are, but those that are told
def havoc (M : List Nat) (j s0 : Env) : Env := fun i => bif M.elem i then j i else s0 i
def Agree (M : List Nat) (s s0 : Env) : Prop := ∀ i, M.elem i = false → s i = s0 i
theorem Agree.refl (M : List Nat) (s : Env) : Agree M s s := fun _ _ => rfl
theorem Agree.upd {M : List Nat} {s s0 : Env} {d : Nat} {v : Value} (hd : M.elem d = true) (h : Agree M s s0) : Agree M (Go.Tg.upd s d v) s0 := fun i hi => by
  have : i ≠ d := fun e => by subst e; rw [hd] at hi; cases hi
  rw [upd_ne this]; exact h i hi
theorem Agree.putv {M : List Nat} {s s0 : Env} {d : Nat} {v : Value} (hd : M.elem d = true) (h : Agree M s s0) : Agree M (Go.Tg.putv s (some d) v) s0 := h.upd hd
theorem Agree.havoc {M : List Nat} {j s0 : Env} : Agree M (Go.Tg.havoc M j s0) s0 := fun i hi => by
  show (bif M.elem i then j i else s0 i) = s0 i
  rw [hi]; rfl
theorem Agree.hav2 {M M1 : List Nat} {j s s0 : Env} (hM : (M1.all fun d => M.elem d) = true) (h : Agree M s s0) : Agree M (Go.Tg.havoc M1 j s) s0 := fun i hi => by
  show (bif M1.elem i then j i else s i) = s0 i
  have : M1.elem i = false := by
    cases h1 : M1.elem i with
    | false => rfl
    | true =>
      have := List.all_eq_true.1 hM i (List.elem_iff.1 h1)
      rw [hi] at this; cases this
  rw [this]; exact h i hi
theorem Agree.eq {M : List Nat} {s s0 : Env} (h : Agree M s s0) : s = Go.Tg.havoc M s s0 := by
  funext i
  unfold Go.Tg.havoc
  cases hi : M.elem i with
  | true => rfl
  | false => exact h i hi
theorem Agree.env1 {M : List Nat} {s s0 : Env} {a : Nat} {x : Value} (h : Agree M s s0) (ha : s a = x) : ∃ j, s = Go.Tg.upd (Go.Tg.havoc M j s0) a x :=
  ⟨s, by rw [← h.eq, ← ha, upd_eta]⟩
theorem Agree.env2 {M : List Nat} {s s0 : Env} {a b : Nat} {x y : Value} (h : Agree M s s0) (ha : s a = x) (hb : s b = y) : ∃ j, s = Go.Tg.upd (Go.Tg.upd (Go.Tg.havoc M j s0) a x) b y :=
  ⟨s, by rw [← h.eq, ← ha, upd_eta, ← hb, upd_eta]⟩
theorem Agree.env3 {M : List Nat} {s s0 : Env} {a b c : Nat} {x y z : Value} (h : Agree M s s0) (ha : s a = x) (hb : s b = y) (hc : s c = z) : ∃ j, s = Go.Tg.upd (Go.Tg.upd (Go.Tg.upd (Go.Tg.havoc M j s0) a x) b y) c z :=
  ⟨s, by rw [← h.eq, ← ha, upd_eta, ← hb, upd_eta, ← hc, upd_eta]⟩
end Go.Tg
namespace Go.Tg
open Go
section
variable {P : Program} {n : Nat} {ops : Array Oper} {Q : Exit → Env → World → Prop} {s : Env} {w : World} {rest : List Oper} {op : Op} {ty : TypeId} {pos : String} {af : Array Edge} {d : Nat}
theorem WL.p (hd : Nat.blt d n = true) (h : Ost P ⟨some d, op, ty, pos, af, none⟩ s w fun v w' => WL P n ops Q rest (upd s d v) w') : WL P n ops Q (⟨some d, op, ty, pos, af, none⟩ :: rest) s w := WL.cons rfl hd h
theorem WL.u (h : Ost P ⟨none, op, ty, pos, af, none⟩ s w fun v w' => WL P n ops Q rest s w') : WL P n ops Q (⟨none, op, ty, pos, af, none⟩ :: rest) s w := WL.cons rfl rfl h
theorem WL.g {j : Nat} {b : Bool} (hw : (yld ops s j == some b) = true) (hd : Nat.blt d n = true) (h : Ost P ⟨some d, op, ty, pos, af, some (j, b)⟩ s w fun v w' => WL P n ops Q rest (upd s d v) w') : WL P n ops Q (⟨some d, op, ty, pos, af, some (j, b)⟩ :: rest) s w := WL.cons hw hd h
theorem WL.gu {j : Nat} {b : Bool} (hw : (yld ops s j == some b) = true) (h : Ost P ⟨none, op, ty, pos, af, some (j, b)⟩ s w fun v w' => WL P n ops Q rest s w') : WL P n ops Q (⟨none, op, ty, pos, af, some (j, b)⟩ :: rest) s w := WL.cons hw rfl h
theorem WL.skp {j : Nat} {b : Bool} (hw : (yld ops s j == some b) = false) (hd : Nat.blt d n = true) (h : WL P n ops Q rest (upd s d undef) w) : WL P n ops Q (⟨some d, op, ty, pos, af, some (j, b)⟩ :: rest) s w := WL.skip hw hd h
theorem WL.sku {j : Nat} {b : Bool} (hw : (yld ops s j == some b) = false) (h : WL P n ops Q rest s w) : WL P n ops Q (⟨none, op, ty, pos, af, some (j, b)⟩ :: rest) s w := WL.skip hw rfl h
end
section
variable {P : Program} {ops : Array Oper} {G : GF} {w0 : World} {Fin : ((Nat → Value) → Env) → Prop} {i : Nat} {rest : List Oper} {sk : (Nat → Value) → Env} {op : Op} {ty : TypeId} {pos : String} {af : Array Edge} {d : Nat} {X : Value}
theorem RGs.p (hG : G i = none) (h : ∀ vs w, Ext w0 w → PFs ops G i vs w → Ost P ⟨some d, op, ty, pos, af, none⟩ (sk vs) w fun v w' => Ext w w' ∧ v = X) (hr : RGs P ops G w0 Fin (i + 1) rest (fun vs => upd (sk vs) d X)) : RGs P ops G w0 Fin i (⟨some d, op, ty, pos, af, none⟩ :: rest) sk := rgs_val hG (fun _ => rfl) h hr
theorem RGs.b {q : Bool} (hG : G i = none) (h : ∀ vs w, Ext w0 w → PFs ops G i vs w → Ost P ⟨some d, op, ty, pos, af, none⟩ (sk vs) w fun v w' => Ext w w' ∧ v = .bool q)
    (ht : q = true → RGs P ops G w0 Fin (i + 1) rest (fun vs => upd (sk vs) d (.bool true))) (hf : q = false → RGs P ops G w0 Fin (i + 1) rest (fun vs => upd (sk vs) d (.bool false))) : RGs P ops G w0 Fin i (⟨some d, op, ty, pos, af, none⟩ :: rest) sk := rgs_bool hG (fun _ => rfl) h ht hf
theorem RGs.g {j : Nat} {b : Bool} (hw : ∀ vs, (yld ops (sk vs) j == some b) = true) (hG : G i = none) (h : ∀ vs w, Ext w0 w → PFs ops G i vs w → Ost P ⟨some d, op, ty, pos, af, some (j, b)⟩ (sk vs) w fun v w' => Ext w w' ∧ v = X) (hr : RGs P ops G w0 Fin (i + 1) rest (fun vs => upd (sk vs) d X)) : RGs P ops G w0 Fin i (⟨some d, op, ty, pos, af, some (j, b)⟩ :: rest) sk := rgs_val hG hw h hr
theorem RGs.skp {j : Nat} {b : Bool} (hw : ∀ vs, (yld ops (sk vs) j == some b) = false) (hG : G i = none) (hr : RGs P ops G w0 Fin (i + 1) rest (fun vs => upd (sk vs) d undef)) : RGs P ops G w0 Fin i (⟨some d, op, ty, pos, af, some (j, b)⟩ :: rest) sk := rgs_skip hG hw hr
theorem RGs.s {g : Value → World → Prop} (hG : G i = some g) (h : ∀ vs w, Ext w0 w → PFs ops G i vs w → Ost P ⟨some d, op, ty, pos, af, none⟩ (sk vs) w fun v w' => Ext w w' ∧ g v w') (hr : RGs P ops G w0 Fin (i + 1) rest (fun vs => upd (sk vs) d (vs i))) : RGs P ops G w0 Fin i (⟨some d, op, ty, pos, af, none⟩ :: rest) sk := rgs_spec hG (fun _ => rfl) h hr
theorem RGs.gs {g : Value → World → Prop} {j : Nat} {b : Bool} (hw : ∀ vs, (yld ops (sk vs) j == some b) = true) (hG : G i = some g) (h : ∀ vs w, Ext w0 w → PFs ops G i vs w → Ost P ⟨some d, op, ty, pos, af, some (j, b)⟩ (sk vs) w fun v w' => Ext w w' ∧ g v w') (hr : RGs P ops G w0 Fin (i + 1) rest (fun vs => upd (sk vs) d (vs i))) : RGs P ops G w0 Fin i (⟨some d, op, ty, pos, af, some (j, b)⟩ :: rest) sk := rgs_spec hG hw h hr
end
end Go.Tg
namespace Go.Tg
open Go
theorem Wc.loopE {P : Program} {n : Nat} {Q : Exit → Env → World → Prop} {s : Env} {w : World} {c : Code} (I : Env → Nat → Env → World → Prop) (m0 : Nat) (h0 : I s m0 s w)
    (hr : ∀ m s' w', I s m s' w' → Wc P n c (Then (fun s'' w'' => ∃ m', m' < m ∧ I s m' s'' w'') Q) s' w') : Wc P n (.loop c) Q s w := Wc.loop (I s) m0 h0 hr
end Go.Tg

