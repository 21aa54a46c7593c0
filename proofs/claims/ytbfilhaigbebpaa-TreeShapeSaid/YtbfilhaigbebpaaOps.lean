/- One rule for each operation of a walk. -/
import Derived.Test.YtbfilhaigbebpaaHeap
import Derived.IntWalk
import Derived.Laws.StructEq
set_option linter.unusedVariables false
set_option linter.unusedSimpArgs false
namespace Go.Tg
open Go

class Ty (P : Program) (t : TypeId) (d : outParam TypeDesc) (sz bytes : outParam Nat) (z : outParam Value) : Prop where
  und : P.underlying t = some d
  inf : ∃ i, P.info? t = some i ∧ i.size = sz ∧ i.bytes = bytes ∧ i.zero = some z
class Fun (P : Program) (f : Nat) : Prop where
  call : ∀ (args : Array Value) (w : World), (callFunc f args).run P w = .ok (.enter f args) w

def isAggD : TypeDesc → Bool | .struct _ | .array _ _ => true | _ => false

section
variable {P : Program} {t : TypeId} {d : TypeDesc} {sz bytes : Nat} {z : Value}
theorem Ty.run_und [Ty P t d sz bytes z] (w : World) : (underlying t).run P w = .ok d w := by
  simp [underlying, (Ty.und : P.underlying t = some d)]
theorem Ty.run_info [h : Ty P t d sz bytes z] : ∃ i : TypeInfo, (∀ w, (typeInfo t).run P w = .ok i w) ∧ i.size = sz ∧ i.bytes = bytes ∧ i.zero = some z := by
  obtain ⟨i, h1, h2⟩ := h.inf
  exact ⟨i, fun w => by simp [typeInfo, h1], h2⟩
theorem Ty.run_size [h : Ty P t d sz bytes z] (w : World) : (sizeOf t).run P w = .ok sz w := by
  obtain ⟨i, h1, h2, _⟩ := h.run_info
  simp [sizeOf, h1, h2]
theorem Ty.run_zero [h : Ty P t d sz bytes z] (w : World) : (zeroValue t).run P w = .ok z w := by
  obtain ⟨i, h1, h2, h3, h4⟩ := h.run_info
  simp [zeroValue, h1, h4]
theorem Ty.run_agg [h : Ty P t d sz bytes z] (w : World) : (isAgg t).run P w = .ok (isAggD d) w := by
  unfold isAgg
  rw [Sem.run_bind, h.run_und w]
  cases d <;> rfl
end

section
variable {P : Program} {o : Oper} {s : Env} {w : World} {K : Value → World → Prop}

theorem Ost.val {v : Value} {w' : World} (h : (execOp (ev s) o).run P w = .ok (.value v) w') (hk : K v w') : Ost P o s w K := by
  unfold Ost; rw [h]; exact hk
theorem Ost.skp {w' : World} (h : (execOp (ev s) o).run P w = .ok .skip w') (hk : K undef w') : Ost P o s w K := by
  unfold Ost; rw [h]; exact hk

theorem ost_move {x : Operand} (ho : o.op = .move x) (hk : K (ev s x) w) : Ost P o s w K := .val (by simp [execOp, ho]) hk
theorem ost_assign {x : Operand} (ho : o.op = .assign x) (hk : K (ev s x) w) : Ost P o s w K := .val (by simp [execOp, ho]) hk
theorem ost_pick {c a b : Operand} {q : Bool} (ho : o.op = .pick c a b) (hc : ev s c = .bool q) (hk : K (if q then ev s a else ev s b) w) : Ost P o s w K :=
  .val (by simp [execOp, ho, hc, asBool]) hk

-- new memory
theorem ost_alloc {t : TypeId} {d : TypeDesc} {sz bytes : Nat} {z : Value} [Ty P t d sz bytes z] (ho : o.op = .alloc t)
    (hk : K (.pointer (some ⟨w.heap.size, 0, none⟩)) (w.alloc (.cells z.cells t))) : Ost P o s w K :=
  .val (by simp [execOp, ho, Instr.alloc, Ty.run_zero, newVar, newRow]) hk
theorem ost_box {t : TypeId} {x : Operand} (ho : o.op = .box t x) (hk : K (.pointer (some ⟨w.heap.size, 0, none⟩)) (w.alloc (.cells (ev s x).cells t))) : Ost P o s w K :=
  .val (by simp [execOp, ho, Instr.box, newVar, newRow]) hk
theorem ost_makeMap {t : TypeId} (ho : o.op = .makeMap t none) (hk : K (.map (some w.heap.size)) (w.alloc (.map #[] 0))) : Ost P o s w K :=
  .val (by simp [execOp, ho, Instr.makeMap]) hk
theorem ost_makeFunc {fn : Fn} {first captured : Array Operand} (ho : o.op = .makeFunc fn first captured) (hk : K (.func fn (first.map (ev s)) (captured.map (ev s))) w) : Ost P o s w K :=
  .val (by simp [execOp, ho, Instr.makeFunc]) hk
theorem ost_extract {x : Operand} {i : Nat} {vs : Array Value} {v : Value} (ho : o.op = .extract x i) (hx : ev s x = .tuple vs) (hv : vs[i]? = some v) (hk : K v w) : Ost P o s w K :=
  .val (by simp [execOp, ho, hx, Instr.extract, hv]) hk
theorem ost_nilCheck {x : Operand} {a : Addr} (ho : o.op = .nilCheck x) (hx : ev s x = .pointer (some a)) (hk : K (.pointer (some a)) w) : Ost P o s w K :=
  .val (by simp [execOp, ho, hx]) hk
theorem ost_build {t : TypeId} {parts : Array (Nat × Operand)} {cells : Array Value} (ho : o.op = .build t parts)
    (hb : ∀ w, (Instr.build t (parts.map fun (i, x) => (i, ev s x))).run P w = .ok (.agg cells) w) (hk : K (.agg cells) w) : Ost P o s w K :=
  .val (by simp only [execOp, ho, Sem.run_bind, hb]; rfl) hk

-- loads
theorem cell_add (b off j : Nat) : (⟨b, off, none⟩ : Addr).add j = ⟨b, off + j, none⟩ := by
  unfold Addr.add; split <;> simp_all
theorem ost_load1 {t : TypeId} {x : Operand} {d : TypeDesc} {sz bytes : Nat} {z v : Value} {b off : Nat} {l : List Value} {T : TypeId} {fr : Nat × Nat} [Ty P t d sz bytes z] (ho : o.op = .load t x) (hd : isAggD d = false)
    (ha : ev s x = .pointer (some ⟨b, off, none⟩)) (hb : w.heap[b]? = some (.cells l.toArray T fr)) (hv : l[off]? = some v) (hk : K v w) : Ost P o s w K := by
  refine .val ?_ hk
  have hc : w.cell? ⟨b, off, none⟩ = some v := by rw [cell_of_row w b off l.toArray T fr hb]; simpa using hv
  simp [execOp, ho, ha, Instr.loadAt, Instr.sureAddr, loadVar, Ty.run_agg, hd, hc]
theorem run_loadCells_row {b off : Nat} {l vs : List Value} {T : TypeId} {fr : Nat × Nat} (hb : w.heap[b]? = some (.cells l.toArray T fr)) (hv : (l.drop off).take vs.length = vs) :
    (loadCells ⟨b, off, none⟩ vs.length).run P w = .ok vs.toArray w := by
  refine run_loadCells_list (P := P) w ⟨b, off, none⟩ vs fun j u hu => ?_
  rw [cell_add, cell_of_row w b _ l.toArray T fr hb]
  have hj : j < vs.length := (List.getElem?_eq_some_iff.1 hu).1
  rw [← hv, List.getElem?_take, if_pos hj, List.getElem?_drop] at hu
  simpa using hu
theorem ost_loadA {t : TypeId} {x : Operand} {d : TypeDesc} {sz bytes : Nat} {z : Value} {b off : Nat} {l vs : List Value} {T : TypeId} {fr : Nat × Nat} [Ty P t d sz bytes z] (ho : o.op = .load t x) (hd : isAggD d = true)
    (ha : ev s x = .pointer (some ⟨b, off, none⟩)) (hb : w.heap[b]? = some (.cells l.toArray T fr)) (hl : vs.length = sz) (hv : (l.drop off).take vs.length = vs) (hk : K (.agg vs.toArray) w) : Ost P o s w K := by
  refine .val ?_ hk
  have := run_loadCells_row (P := P) hb hv
  rw [hl] at this
  simp [execOp, ho, ha, Instr.loadAt, Instr.sureAddr, loadVar, Ty.run_agg, hd, Ty.run_size, this]
theorem ost_loadR {t : TypeId} {x : Operand} {d : TypeDesc} {sz bytes : Nat} {z : Value} {b off : Nat} {l vs : List Value} {T : TypeId} {fr : Nat × Nat} [Ty P t d sz bytes z] (ho : o.op = .load t x) (hd : isAggD d = true)
    (ha : ev s x = .pointer (some ⟨b, off, none⟩)) (hb : w.heap[b]? = some (.cells l.toArray T fr)) (hv : (l.drop off).take sz = vs) (hl : vs.length = sz) (hk : K (.agg vs.toArray) w) : Ost P o s w K :=
  ost_loadA ho hd ha hb hl (by rw [hl]; exact hv) hk
theorem ost_loadW {t : TypeId} {x : Operand} {d : TypeDesc} {sz bytes : Nat} {z : Value} {b : Nat} {l : List Value} {T : TypeId} {fr : Nat × Nat} [Ty P t d sz bytes z] (ho : o.op = .load t x) (hd : isAggD d = true)
    (ha : ev s x = .pointer (some ⟨b, 0, none⟩)) (hb : w.heap[b]? = some (.cells l.toArray T fr)) (hl : l.length = sz) (hk : K (.agg l.toArray) w) : Ost P o s w K :=
  ost_loadA ho hd ha hb hl (by simp) hk

-- stores
section
variable {ws : World} {S : List Nat} {h0 h : FH} {L : List HA}
theorem St.blk (H : St ws S h0 h L w) {i b : Nat} {ob : Obj} (hi : L[i]? = some (.blk b ob)) : w.heap[b]? = some ob := H.ok i _ hi
theorem fr_setCell {b off : Nat} {u : Value} : Fr [b] w (w.setCell ⟨b, off, none⟩ u) :=
  ⟨rfl, rfl, rfl, by simp, fun k _ hS => heap_setCell_other w ⟨b, off, none⟩ k u (by simpa using hS)⟩
theorem ost_store1 {t : TypeId} {x y : Operand} {d : TypeDesc} {bytes : Nat} {z v : Value} {b off : Nat} {l : List Value} {T : TypeId} {i : Nat} [Ty P t d 1 bytes z] (H : St ws S h0 h L w) (ho : o.op = .store t x y)
    (ha : ev s x = .pointer (some ⟨b, off, none⟩)) (hv : ev s y = v) (h1 : v.oneCell' = true) (hi : L[i]? = some (.blk b (.cells l.toArray T (0, 0)))) (hlt : off < l.length)
    (hk : ∀ w', St ws S h0 h (L.set i (.blk b (.cells (l.set off v).toArray T (0, 0)))) w' → K undef w') : Ost P o s w K := by
  have hb := H.blk hi
  have hcell : w.cell? ⟨b, off, none⟩ = some l[off] := by rw [cell_of_row w b off l.toArray T _ hb]; simp [hlt]
  have hfz := frozen_of_row w b off l.toArray T hb
  have hcs : v.cells = #[v] := by cases v <;> simp_all [Value.cells, Value.oneCell']
  have hadd : (⟨b, off, none⟩ : Addr).add 0 = ⟨b, off, none⟩ := rfl
  refine .skp (w' := w.setCell ⟨b, off, none⟩ v) ?_ (hk _ ?_)
  · simp [execOp, ho, ha, hv, Instr.storeAt, Instr.sureAddr, storeVar, Ty.run_size, hcs, storeCells, hadd, run_store P w _ v .plain h1, hcell, hfz]
  · refine H.repl hi fr_setCell ?_ (by simp [HA.fp])
    show (w.setCell ⟨b, off, none⟩ v).heap[b]? = _
    rw [heap_setCell_same w b off l.toArray T v hb]
    simp
theorem ost_storeA {t : TypeId} {x y : Operand} {d : TypeDesc} {sz bytes : Nat} {z : Value} {b off : Nat} {l vs : List Value} {T : TypeId} {i : Nat} [Ty P t d sz bytes z] (H : St ws S h0 h L w) (ho : o.op = .store t x y)
    (ha : ev s x = .pointer (some ⟨b, off, none⟩)) (hv : ev s y = .agg vs.toArray) (h1 : ∀ v ∈ vs, v.oneCell' = true) (hsz : vs.length = sz) (hi : L[i]? = some (.blk b (.cells l.toArray T (0, 0)))) (hlt : off + vs.length ≤ l.length)
    (hk : ∀ w', St ws S h0 h (L.set i (.blk b (.cells (l.take off ++ vs ++ l.drop (off + vs.length)).toArray T (0, 0)))) w' → K undef w') : Ost P o s w K := by
  have hb := H.blk hi
  have hst := run_storeCells_at P b off T vs 0 l.toArray w hb (by simpa using hlt) h1
  simp only [Nat.add_zero] at hst
  refine .skp (w' := w.setRow b (l.take off ++ vs ++ l.drop (off + vs.length)).toArray) ?_ (hk _ ?_)
  · simp [execOp, ho, ha, hv, Instr.storeAt, Instr.sureAddr, storeVar, Ty.run_size, Value.cells, hsz]
    simp only [hsz, List.append_assoc] at hst
    rw [hst]; rfl
  · refine H.repl hi ⟨rfl, rfl, rfl, by simp, fun k _ hS => setRow_other w b k _ (by simpa [HA.fp] using hS)⟩ ?_ (by simp [HA.fp])
    exact setRow_heap w b _ _ T _ hb
end

-- arithmetic
theorem ost_arith {op : BinOp} {t u : TypeId} {x y : Operand} {k : IntKind} {a b : Int} (ho : o.op = .binOp op t x y u) (hx : ev s x = .int k a) (hy : ev s y = .int k b) :
    (op = .add → K (.int k (k.wrap (a + b))) w → Ost P o s w K) ∧ (op = .sub → K (.int k (k.wrap (a - b))) w → Ost P o s w K) ∧ (op = .mul → K (.int k (k.wrap (a * b))) w → Ost P o s w K) := by
  refine ⟨fun e hk => ?_, fun e hk => ?_, fun e hk => ?_⟩ <;> subst e <;> exact .val (by simp [execOp, ho, hx, hy, binOp, eqGuard, Op.intArith]) hk
theorem ost_add {t u : TypeId} {x y : Operand} {k : IntKind} {a b : Int} (ho : o.op = .binOp .add t x y u) (hx : ev s x = .int k a) (hy : ev s y = .int k b) (hk : K (.int k (k.wrap (a + b))) w) : Ost P o s w K := (ost_arith ho hx hy).1 rfl hk
theorem ost_sub {t u : TypeId} {x y : Operand} {k : IntKind} {a b : Int} (ho : o.op = .binOp .sub t x y u) (hx : ev s x = .int k a) (hy : ev s y = .int k b) (hk : K (.int k (k.wrap (a - b))) w) : Ost P o s w K := (ost_arith ho hx hy).2.1 rfl hk
theorem ost_mul {t u : TypeId} {x y : Operand} {k : IntKind} {a b : Int} (ho : o.op = .binOp .mul t x y u) (hx : ev s x = .int k a) (hy : ev s y = .int k b) (hk : K (.int k (k.wrap (a * b))) w) : Ost P o s w K := (ost_arith ho hx hy).2.2 rfl hk
@[reducible] def inK : IntKind → Int → Prop
  | .i8, n => -128 ≤ n ∧ n ≤ 127
  | .i16, n => -32768 ≤ n ∧ n ≤ 32767
  | .i32, n => -2147483648 ≤ n ∧ n ≤ 2147483647
  | .i64, n => -9223372036854775808 ≤ n ∧ n ≤ 9223372036854775807
  | .u8, n => 0 ≤ n ∧ n ≤ 255
  | .u16, n => 0 ≤ n ∧ n ≤ 65535
  | .u32, n => 0 ≤ n ∧ n ≤ 4294967295
  | .u64, n => 0 ≤ n ∧ n ≤ 18446744073709551615
theorem wrap_in {k : IntKind} {n : Int} (h : inK k n) : k.wrap n = n := by
  cases k <;> simp only [inK] at h <;> simp [IntKind.wrap, IntKind.bits, IntKind.signed] <;> omega
theorem ost_add_in {t u : TypeId} {x y : Operand} {k : IntKind} {a b : Int} (ho : o.op = .binOp .add t x y u) (hx : ev s x = .int k a) (hy : ev s y = .int k b) (hr : inK k (a + b)) (hk : K (.int k (a + b)) w) : Ost P o s w K := ost_add ho hx hy (by rw [wrap_in hr]; exact hk)
theorem ost_sub_in {t u : TypeId} {x y : Operand} {k : IntKind} {a b : Int} (ho : o.op = .binOp .sub t x y u) (hx : ev s x = .int k a) (hy : ev s y = .int k b) (hr : inK k (a - b)) (hk : K (.int k (a - b)) w) : Ost P o s w K := ost_sub ho hx hy (by rw [wrap_in hr]; exact hk)
theorem ost_mul_in {t u : TypeId} {x y : Operand} {k : IntKind} {a b : Int} (ho : o.op = .binOp .mul t x y u) (hx : ev s x = .int k a) (hy : ev s y = .int k b) (hr : inK k (a * b)) (hk : K (.int k (a * b)) w) : Ost P o s w K := ost_mul ho hx hy (by rw [wrap_in hr]; exact hk)
theorem ost_quo {t u : TypeId} {x y : Operand} {k : IntKind} {a b : Int} (ho : o.op = .binOp .quo t x y u) (hx : ev s x = .int k a) (hy : ev s y = .int k b) (h0 : b ≠ 0) (hk : K (.int k (k.wrap (a.tdiv b))) w) : Ost P o s w K :=
  .val (by simp [execOp, ho, hx, hy, binOp, eqGuard, Op.intDiv, h0]) hk
theorem ost_rem {t u : TypeId} {x y : Operand} {k : IntKind} {a b : Int} (ho : o.op = .binOp .rem t x y u) (hx : ev s x = .int k a) (hy : ev s y = .int k b) (h0 : b ≠ 0) (hk : K (.int k (a.tmod b)) w) : Ost P o s w K :=
  .val (by simp [execOp, ho, hx, hy, binOp, eqGuard, Op.intDiv, h0]) hk
theorem ost_quoN {t u : TypeId} {x y : Operand} {k : IntKind} {a b : Int} (ho : o.op = .binOp .quo t x y u) (hx : ev s x = .int k a) (hy : ev s y = .int k b) (ha : 0 ≤ a) (h0 : 0 < b) (hr : inK k (a / b)) (hk : K (.int k (a / b)) w) : Ost P o s w K :=
  ost_quo ho hx hy (by omega) (by rw [Int.tdiv_eq_ediv_of_nonneg ha, wrap_in hr]; exact hk)
theorem ost_remN {t u : TypeId} {x y : Operand} {k : IntKind} {a b : Int} (ho : o.op = .binOp .rem t x y u) (hx : ev s x = .int k a) (hy : ev s y = .int k b) (ha : 0 ≤ a) (h0 : 0 < b) (hk : K (.int k (a % b)) w) : Ost P o s w K :=
  ost_rem ho hx hy (by omega) (by rw [Int.tmod_eq_emod_of_nonneg ha]; exact hk)
def bitv (op : BinOp) (k : IntKind) (a b : Int) : Int :=
  match op with
  | .and => k.wrap ((BitVec.ofInt k.bits a &&& BitVec.ofInt k.bits b).toNat : Int)
  | .or => k.wrap ((BitVec.ofInt k.bits a ||| BitVec.ofInt k.bits b).toNat : Int)
  | .xor => k.wrap ((BitVec.ofInt k.bits a ^^^ BitVec.ofInt k.bits b).toNat : Int)
  | _ => k.wrap ((BitVec.ofInt k.bits a &&& ~~~ BitVec.ofInt k.bits b).toNat : Int)
def isBit : BinOp → Bool | .and | .or | .xor | .andNot => true | _ => false
theorem ost_bits {op : BinOp} {t u : TypeId} {x y : Operand} {k : IntKind} {a b : Int} (ho : o.op = .binOp op t x y u) (hop : isBit op = true) (hx : ev s x = .int k a) (hy : ev s y = .int k b) (hk : K (.int k (bitv op k a b)) w) : Ost P o s w K := by
  cases op <;> simp [isBit] at hop <;> exact .val (by simp [execOp, ho, hx, hy, binOp, eqGuard, Op.intBits, bitv]) hk
theorem ost_shl {t u : TypeId} {x y : Operand} {k k' : IntKind} {a b : Int} (ho : o.op = .binOp .shl t x y u) (hx : ev s x = .int k a) (hy : ev s y = .int k' b) (h0 : 0 ≤ b) (hk : K (.int k (k.wrap (a * 2 ^ min b.toNat k.bits))) w) : Ost P o s w K :=
  .val (by simp [execOp, ho, hx, hy, binOp, eqGuard, Op.shift, show ¬ b < 0 by omega]) hk
theorem ost_shr {t u : TypeId} {x y : Operand} {k k' : IntKind} {a b : Int} (ho : o.op = .binOp .shr t x y u) (hx : ev s x = .int k a) (hy : ev s y = .int k' b) (h0 : 0 ≤ b) (hk : K (.int k (a.fdiv (2 ^ min b.toNat k.bits))) w) : Ost P o s w K :=
  .val (by simp [execOp, ho, hx, hy, binOp, eqGuard, Op.shift, show ¬ b < 0 by omega]) hk
theorem ost_conv {a b : TypeId} {x : Operand} {k k' : IntKind} {n : Int} {d : TypeDesc} {sz bytes sz' bytes' : Nat} {z z' : Value} [Ty P a d sz bytes z] [Ty P b (.int k') sz' bytes' z'] (ho : o.op = .convert a b x) (hx : ev s x = .int k n) (hk : K (.int k' (k'.wrap n)) w) : Ost P o s w K :=
  .val (by simp [execOp, ho, hx, convert, Ty.run_und, Conv.intToInt]) hk
theorem ost_conv_in {a b : TypeId} {x : Operand} {k k' : IntKind} {n : Int} {d : TypeDesc} {sz bytes sz' bytes' : Nat} {z z' : Value} [Ty P a d sz bytes z] [Ty P b (.int k') sz' bytes' z'] (ho : o.op = .convert a b x) (hx : ev s x = .int k n) (hr : inK k' n) (hk : K (.int k' n) w) : Ost P o s w K :=
  ost_conv ho hx (by rw [wrap_in hr]; exact hk)

-- tests: each parts the walk
def cmpP : BinOp → Int → Int → Prop
  | .eql, a, b => a = b
  | .neq, a, b => a ≠ b
  | .lss, a, b => a < b
  | .leq, a, b => a ≤ b
  | .gtr, a, b => b < a
  | _, a, b => b ≤ a
def isCmp : BinOp → Bool | .eql | .neq | .lss | .leq | .gtr | .geq => true | _ => false
theorem ost_cmp {op : BinOp} {t u : TypeId} {x y : Operand} {k : IntKind} {a b : Int} (ho : o.op = .binOp op t x y u) (hop : isCmp op = true) (hx : ev s x = .int k a) (hy : ev s y = .int k b)
    (ht : cmpP op a b → K (.bool true) w) (hf : ¬ cmpP op a b → K (.bool false) w) : Ost P o s w K := by
  have key : ∀ q : Bool, (execOp (ev s) o).run P w = .ok (.value (.bool q)) w → (q = true ↔ cmpP op a b) → Ost P o s w K := fun q h1 h2 => by
    cases q
    · exact .val h1 (hf fun hc => by simpa using h2.2 hc)
    · exact .val h1 (ht (h2.1 rfl))
  cases op <;> simp [isCmp] at hop
  · exact key (a == b) (by simp [execOp, ho, hx, hy, binOp, eqGuard, Op.intCmp]) (by simp [cmpP])
  · exact key (a != b) (by simp [execOp, ho, hx, hy, binOp, eqGuard, Op.intCmp]) (by simp [cmpP])
  · exact key (decide (a < b)) (by simp [execOp, ho, hx, hy, binOp, eqGuard, Op.intCmp]) (by simp [cmpP])
  · exact key (decide (a ≤ b)) (by simp [execOp, ho, hx, hy, binOp, eqGuard, Op.intCmp]) (by simp [cmpP])
  · exact key (decide (a > b)) (by simp [execOp, ho, hx, hy, binOp, eqGuard, Op.intCmp]) (by simp [cmpP])
  · exact key (decide (a ≥ b)) (by simp [execOp, ho, hx, hy, binOp, eqGuard, Op.intCmp]) (by simp [cmpP])
theorem ost_not {t : TypeId} {x : Operand} {q : Bool} (ho : o.op = .unOp .not t x) (hx : ev s x = .bool q) (hk : K (.bool !q) w) : Ost P o s w K :=
  .val (by simp [execOp, ho, hx, Op.unary]) hk
theorem ost_neg {t : TypeId} {x : Operand} {k : IntKind} {n : Int} (ho : o.op = .unOp .neg t x) (hx : ev s x = .int k n) (hk : K (.int k (k.wrap (0 - n))) w) : Ost P o s w K :=
  .val (by simp [execOp, ho, hx, Op.unary, Op.intArith]) hk
theorem ba_eq {x y : ByteArray} : (x.toList == y.toList) = decide (x = y) := by
  by_cases h : x = y
  · subst h; simp
  · simp only [h, decide_false, beq_eq_false_iff_ne]
    intro e
    rw [ByteArray.toList_eq, ByteArray.toList_eq] at e
    apply h
    cases x; cases y
    simp only [ByteArray.mk.injEq]
    exact Array.toList_inj.1 e
theorem ost_streq {t u : TypeId} {x y : Operand} {a b : ByteArray} (ho : o.op = .binOp .eql t x y u) (hx : ev s x = .string a) (hy : ev s y = .string b)
    (ht : a = b → K (.bool true) w) (hf : a ≠ b → K (.bool false) w) : Ost P o s w K := by
  have h1 : (execOp (ev s) o).run P w = .ok (.value (.bool (a.toList == b.toList))) w := by simp [execOp, ho, hx, hy, eqGuard, binOp, Op.stringOp]
  rw [ba_eq] at h1
  by_cases h : a = b
  · simp only [h, decide_true] at h1; exact .val h1 (ht h)
  · simp only [h, decide_false] at h1; exact .val h1 (hf h)
theorem ost_strne {t u : TypeId} {x y : Operand} {a b : ByteArray} (ho : o.op = .binOp .neq t x y u) (hx : ev s x = .string a) (hy : ev s y = .string b)
    (ht : a ≠ b → K (.bool true) w) (hf : a = b → K (.bool false) w) : Ost P o s w K := by
  have h1 : (execOp (ev s) o).run P w = .ok (.value (.bool !(a.toList == b.toList))) w := by simp [execOp, ho, hx, hy, eqGuard, binOp, Op.stringOp]
  rw [ba_eq] at h1
  by_cases h : a = b
  · simp only [h, decide_true] at h1; exact .val h1 (hf h)
  · simp only [h, decide_false] at h1; exact .val h1 (ht h)
theorem ost_stradd {t u : TypeId} {x y : Operand} {a b : ByteArray} (ho : o.op = .binOp .add t x y u) (hx : ev s x = .string a) (hy : ev s y = .string b) (hn : a.size + b.size ≤ 9223372036854775807)
    (hk : K (.string (a ++ b)) w) : Ost P o s w K := by
  refine .val ?_ hk
  have : ¬ ((a.size + b.size : Nat) : Int) > IntKind.i64.max := by simp [IntKind.max, IntKind.signed, IntKind.bits]; omega
  have h2 : (Op.stringOp .add a b).run P w = .ok (.string (a ++ b)) w := by
    unfold Op.stringOp
    simp only [if_neg this]
    rfl
  have hg : (eqGuard .add t x y (.string a) (.string b)).run P w = .ok () w := rfl
  have hb : (binOp .add t (.string a) (.string b)).run P w = .ok (.string (a ++ b)) w := h2
  simp only [execOp, ho, hx, hy, Sem.run_bind, hg, hb, Result.andThen_ok, Sem.run_pure]
theorem run_binop {op : BinOp} {t u : TypeId} {x y : Operand} {v : Value} (ho : o.op = .binOp op t x y u) (hg : (eqGuard op t x y (ev s x) (ev s y)).run P w = .ok () w) (hv : (binOp op t (ev s x) (ev s y)).run P w = .ok v w) :
    (execOp (ev s) o).run P w = .ok (.value v) w := by
  simp only [execOp, ho, Sem.run_bind, hg, hv, Result.andThen_ok, Sem.run_pure]
theorem eqIn_slnil {t e : TypeId} {sz bytes : Nat} {z : Value} {a : Option Addr} {n c : Nat} [Ty P t (.slice e) sz bytes z] (d : Nat) : (Op.equalIn (d + 1) t (.slice a n c) (.slice none 0 0)).run P w = .ok a.isNone w := by
  unfold Op.equalIn
  rw [Sem.run_bind, Ty.run_und]
  cases a <;> rfl
theorem eqIn_ptrnil {t e : TypeId} {sz bytes : Nat} {z : Value} {a : Option Addr} [Ty P t (.pointer e) sz bytes z] (d : Nat) : (Op.equalIn (d + 1) t (.pointer a) (.pointer none)).run P w = .ok a.isNone w := by
  unfold Op.equalIn
  rw [Sem.run_bind, Ty.run_und]
  cases a <;> rfl
theorem eqIn_mapnil {t k e : TypeId} {sz bytes : Nat} {z : Value} {a : Option Nat} [Ty P t (.map k e) sz bytes z] (d : Nat) : (Op.equalIn (d + 1) t (.map a) (.map none)).run P w = .ok a.isNone w := by
  unfold Op.equalIn
  rw [Sem.run_bind, Ty.run_und]
  cases a <;> rfl
inductive NilSh : Value → Value → Prop
  | sl {a n c a' n' c'} : NilSh (.slice a n c) (.slice a' n' c')
  | pt {a} : NilSh (.pointer a) (.pointer none)
  | mp {a b} : NilSh (.map a) (.map b)
theorem NilSh.guard {a b : Value} (h : NilSh a b) (op : BinOp) (t : TypeId) (x y : Operand) (w : World) : (eqGuard op t x y a b).run P w = .ok () w := by
  cases h <;> cases op <;> rfl
theorem NilSh.eql {a b : Value} (h : NilSh a b) {t : TypeId} {q : Bool} (he : (Op.equal t a b).run P w = .ok q w) : (binOp .eql t a b).run P w = .ok (.bool q) w := by
  cases h <;> (show (Op.equal t _ _ >>= fun r => pure (Value.bool r)).run P w = _) <;> rw [Sem.run_bind, he] <;> rfl
theorem NilSh.neq {a b : Value} (h : NilSh a b) {t : TypeId} {q : Bool} (he : (Op.equal t a b).run P w = .ok q w) : (binOp .neq t a b).run P w = .ok (.bool !q) w := by
  cases h <;> (show (Op.equal t _ _ >>= fun r => pure (Value.bool !r)).run P w = _) <;> rw [Sem.run_bind, he] <;> rfl
theorem ost_nilE {t u : TypeId} {x y : Operand} {a b : Value} {q : Bool} (ho : o.op = .binOp .eql t x y u) (hx : ev s x = a) (hy : ev s y = b)
    (hs : NilSh a b) (he : (Op.equalIn 10000 t a b).run P w = .ok q w) (ht : q = true → K (.bool true) w) (hf : q = false → K (.bool false) w) : Ost P o s w K := by
  have := run_binop (P := P) (s := s) (w := w) ho (by rw [hx, hy]; exact hs.guard ..) (by rw [hx, hy]; exact hs.eql he)
  cases q
  · exact .val this (hf rfl)
  · exact .val this (ht rfl)
theorem ost_nilN {t u : TypeId} {x y : Operand} {a b : Value} {q : Bool} (ho : o.op = .binOp .neq t x y u) (hx : ev s x = a) (hy : ev s y = b)
    (hs : NilSh a b) (he : (Op.equalIn 10000 t a b).run P w = .ok q w) (ht : q = false → K (.bool true) w) (hf : q = true → K (.bool false) w) : Ost P o s w K := by
  have := run_binop (P := P) (s := s) (w := w) ho (by rw [hx, hy]; exact hs.guard ..) (by rw [hx, hy]; exact hs.neq he)
  cases q
  · exact .val this (ht rfl)
  · exact .val this (hf rfl)
theorem ost_slEq {t u e : TypeId} {x y : Operand} {sz bytes : Nat} {z : Value} {a : Option Addr} {n c : Nat} [Ty P t (.slice e) sz bytes z] (ho : o.op = .binOp .eql t x y u) (hx : ev s x = .slice a n c) (hy : ev s y = .slice none 0 0)
    (ht : a.isNone = true → K (.bool true) w) (hf : a.isNone = false → K (.bool false) w) : Ost P o s w K := ost_nilE ho hx hy .sl (eqIn_slnil _) ht hf
theorem ost_slNe {t u e : TypeId} {x y : Operand} {sz bytes : Nat} {z : Value} {a : Option Addr} {n c : Nat} [Ty P t (.slice e) sz bytes z] (ho : o.op = .binOp .neq t x y u) (hx : ev s x = .slice a n c) (hy : ev s y = .slice none 0 0)
    (ht : a.isNone = false → K (.bool true) w) (hf : a.isNone = true → K (.bool false) w) : Ost P o s w K := ost_nilN ho hx hy .sl (eqIn_slnil _) ht hf
theorem ost_ptEq {t u e : TypeId} {x y : Operand} {sz bytes : Nat} {z : Value} {a : Option Addr} [Ty P t (.pointer e) sz bytes z] (ho : o.op = .binOp .eql t x y u) (hx : ev s x = .pointer a) (hy : ev s y = .pointer none)
    (ht : a.isNone = true → K (.bool true) w) (hf : a.isNone = false → K (.bool false) w) : Ost P o s w K := ost_nilE ho hx hy .pt (eqIn_ptrnil _) ht hf
theorem ost_ptNe {t u e : TypeId} {x y : Operand} {sz bytes : Nat} {z : Value} {a : Option Addr} [Ty P t (.pointer e) sz bytes z] (ho : o.op = .binOp .neq t x y u) (hx : ev s x = .pointer a) (hy : ev s y = .pointer none)
    (ht : a.isNone = false → K (.bool true) w) (hf : a.isNone = true → K (.bool false) w) : Ost P o s w K := ost_nilN ho hx hy .pt (eqIn_ptrnil _) ht hf
theorem ost_mpEq {t u k e : TypeId} {x y : Operand} {sz bytes : Nat} {z : Value} {a : Option Nat} [Ty P t (.map k e) sz bytes z] (ho : o.op = .binOp .eql t x y u) (hx : ev s x = .map a) (hy : ev s y = .map none)
    (ht : a.isNone = true → K (.bool true) w) (hf : a.isNone = false → K (.bool false) w) : Ost P o s w K := ost_nilE ho hx hy .mp (eqIn_mapnil _) ht hf
theorem ost_mpNe {t u k e : TypeId} {x y : Operand} {sz bytes : Nat} {z : Value} {a : Option Nat} [Ty P t (.map k e) sz bytes z] (ho : o.op = .binOp .neq t x y u) (hx : ev s x = .map a) (hy : ev s y = .map none)
    (ht : a.isNone = false → K (.bool true) w) (hf : a.isNone = true → K (.bool false) w) : Ost P o s w K := ost_nilN ho hx hy .mp (eqIn_mapnil _) ht hf

-- addresses
class Fld (P : Program) (t : TypeId) (f : Nat) (off : outParam Nat) (ft : outParam TypeId) : Prop where
  fld : ∃ fs fd, P.underlying t = some (.struct fs) ∧ fs[f]? = some fd ∧ fd.offset = off ∧ fd.type = ft
theorem iI {x : Value} {k : IntKind} {n : Int} (h : x = Value.int k n) : x = Value.int k n := h
theorem iP {x : Value} {a : Option Addr} (h : x = Value.pointer a) : x = Value.pointer a := h
theorem iS {x : Value} {a : Option Addr} {n c : Nat} (h : x = Value.slice a n c) : x = Value.slice a n c := h
theorem iB {x : Value} {b : Bool} (h : x = Value.bool b) : x = Value.bool b := h
theorem iT {x : Value} {b : ByteArray} (h : x = Value.string b) : x = Value.string b := h
theorem iM {x : Value} {b : Option Nat} (h : x = Value.map b) : x = Value.map b := h
theorem iF {x : Value} {f : Fn} {a b : Array Value} (h : x = Value.func f a b) : x = Value.func f a b := h
theorem iA {x : Value} {a : Array Value} (h : x = Value.agg a) : x = Value.agg a := h
inductive PlcL (P : Program) : List Field → List (Nat × Nat) → Prop where
  | nil : PlcL P [] []
  | cons {f : Field} {fs : List Field} {pl : List (Nat × Nat)} (sz : Nat) (hs : ∀ w : World, (sizeOf f.type).run P w = .ok sz w) (h : PlcL P fs pl) : PlcL P (f :: fs) ((f.offset, sz) :: pl)
theorem PlcL.mk {P : Program} {f : Field} {fs : List Field} {pl : List (Nat × Nat)} (t off sz : Nat) {d : TypeDesc} {bytes : Nat} {z : Value} [Ty P t d sz bytes z] (h1 : f.type = t) (h2 : f.offset = off) (h : PlcL P fs pl) : PlcL P (f :: fs) ((off, sz) :: pl) := by
  subst h2; exact .cons sz (fun w => by rw [h1]; exact Ty.run_size (P := P) (t := t) w) h
theorem PlcL.run {P : Program} {fs : List Field} {pl : List (Nat × Nat)} (h : PlcL P fs pl) (w : World) : (fs.mapM fun f => Prod.mk f.offset <$> sizeOf f.type : Sem (List (Nat × Nat))).run P w = .ok pl w := by
  induction h with
  | nil => rfl
  | cons sz hs _ ih => simp only [List.mapM_cons, Sem.run_bind, Sem.run_map, hs, Result.andThen_ok, ih, Sem.run_pure]
class Plc (P : Program) (t : TypeId) (pl : outParam (List (Nat × Nat))) : Prop where
  plc : ∃ fs : List Field, P.underlying t = some (.struct fs.toArray) ∧ PlcL P fs pl
def setMany (l : List Value) (off : Nat) : List Value → List Value
  | [] => l
  | c :: cs => setMany (l.set off c) (off + 1) cs
def fillL (pl : List (Nat × Nat)) (l : List Value) : List (Nat × Value) → List Value
  | [] => l
  | (i, v) :: r => fillL pl (setMany l (pl.getD i (0, 0)).1 v.cells.toList) r
def fillOk (pl : List (Nat × Nat)) (n : Nat) : List (Nat × Value) → Bool
  | [] => true
  | (i, v) :: r => Nat.blt i pl.length && (Nat.beq v.cells.toList.length (pl.getD i (0, 0)).2 && (Nat.ble ((pl.getD i (0, 0)).1 + (pl.getD i (0, 0)).2) n && fillOk pl n r))
theorem setMany_len : ∀ (cs l : List Value) (off : Nat), (setMany l off cs).length = l.length
  | [], _, _ => rfl
  | c :: cs, l, off => by rw [setMany, setMany_len cs]; simp
theorem setMany_eq : ∀ (cs l : List Value) (off k : Nat), ((cs.zipIdx k).foldl (fun (a : Array Value) x => a.setIfInBounds (off + x.2) x.1) l.toArray) = (setMany l (off + k) cs).toArray
  | [], _, _, _ => rfl
  | c :: cs, l, off, k => by
    simp only [List.zipIdx_cons, List.foldl_cons, setMany]
    rw [show l.toArray.setIfInBounds (off + k) c = (l.set (off + k) c).toArray by simp, setMany_eq cs _ off (k + 1)]
    rfl
theorem fill_eq (pl : List (Nat × Nat)) (place : Nat → Option (Nat × Nat)) (hp : ∀ i, place i = pl[i]?) : ∀ (vs : List (Nat × Value)) (l : List Value), fillOk pl l.length vs = true → Instr.fill place l.toArray vs = some (fillL pl l vs).toArray
  | [], l, _ => rfl
  | (i, v) :: r, l, h => by
    simp only [fillOk, Bool.and_eq_true] at h
    obtain ⟨h1, h2, h3, h4⟩ := h
    have h1 : i < pl.length := by simpa [Nat.blt_eq] using h1
    have h2 := Nat.eq_of_beq_eq_true h2
    have h3 := Nat.le_of_ble_eq_true h3
    have e : pl[i]? = some (pl.getD i (0, 0)) := by simp [List.getD, h1]
    unfold Instr.fill
    rw [hp, e]
    have h2' : v.cells.size = (pl.getD i (0, 0)).2 := by simpa using h2
    simp only
    rw [if_neg (by rw [← h2'] at h3; simp only [List.size_toArray, ne_eq, h2', not_true, decide_false, Bool.false_or, decide_eq_true_eq, gt_iff_lt, Bool.or_eq_true, false_or]; omega)]
    have : v.cells.zipIdx.foldl (fun cs (x : Value × Nat) => cs.setIfInBounds ((pl.getD i (0, 0)).1 + x.2) x.1) l.toArray = (setMany l (pl.getD i (0, 0)).1 v.cells.toList).toArray := by
      have := setMany_eq v.cells.toList l (pl.getD i (0, 0)).1 0
      rw [Nat.add_zero] at this
      rw [← this, ← Array.foldl_toList]
      simp
    show Instr.fill place (v.cells.zipIdx.foldl (fun cs (x : Value × Nat) => cs.setIfInBounds ((pl.getD i (0, 0)).1 + x.2) x.1) l.toArray) r = _
    rw [this]
    exact fill_eq pl place hp r _ (by rw [setMany_len]; exact h4)
def evP (s : Env) : List (Nat × Operand) → List (Nat × Value)
  | [] => []
  | (i, x) :: r => (i, ev s x) :: evP s r
theorem evP_nil {s : Env} : evP s [] = [] := rfl
theorem evP_cons {s : Env} {i : Nat} {x : Operand} {v : Value} {r : List (Nat × Operand)} {vs : List (Nat × Value)} (hv : ev s x = v) (h : evP s r = vs) : evP s ((i, x) :: r) = (i, v) :: vs := by rw [evP, hv, h]
theorem evP1 {s : Env} {i0 : Nat} {x0 : Operand} {v0 : Value} (h0 : ev s x0 = v0) : evP s [(i0, x0)] = [(i0, v0)] := (evP_cons h0 evP_nil)
theorem evP2 {s : Env} {i0 i1 : Nat} {x0 x1 : Operand} {v0 v1 : Value} (h0 : ev s x0 = v0) (h1 : ev s x1 = v1) : evP s [(i0, x0), (i1, x1)] = [(i0, v0), (i1, v1)] := (evP_cons h0 (evP_cons h1 evP_nil))
theorem evP3 {s : Env} {i0 i1 i2 : Nat} {x0 x1 x2 : Operand} {v0 v1 v2 : Value} (h0 : ev s x0 = v0) (h1 : ev s x1 = v1) (h2 : ev s x2 = v2) : evP s [(i0, x0), (i1, x1), (i2, x2)] = [(i0, v0), (i1, v1), (i2, v2)] := (evP_cons h0 (evP_cons h1 (evP_cons h2 evP_nil)))
theorem evP4 {s : Env} {i0 i1 i2 i3 : Nat} {x0 x1 x2 x3 : Operand} {v0 v1 v2 v3 : Value} (h0 : ev s x0 = v0) (h1 : ev s x1 = v1) (h2 : ev s x2 = v2) (h3 : ev s x3 = v3) : evP s [(i0, x0), (i1, x1), (i2, x2), (i3, x3)] = [(i0, v0), (i1, v1), (i2, v2), (i3, v3)] := (evP_cons h0 (evP_cons h1 (evP_cons h2 (evP_cons h3 evP_nil))))
theorem evP_eq (s : Env) (l : List (Nat × Operand)) : (l.toArray.map fun (p : Nat × Operand) => (p.1, ev s p.2)) = (evP s l).toArray := by
  have : ∀ l : List (Nat × Operand), evP s l = l.map fun p => (p.1, ev s p.2) := fun l => by induction l with | nil => rfl | cons x l ih => simp only [evP, ih, List.map_cons]
  rw [this]; simp
theorem ost_buildS {t : TypeId} {d : TypeDesc} {sz bytes : Nat} {l0 l : List Value} {pl : List (Nat × Nat)} {parts : List (Nat × Operand)} {vs : List (Nat × Value)} [hT : Ty P t d sz bytes (.agg l0.toArray)] [hP : Plc P t pl]
    (ho : o.op = .build t parts.toArray) (hv : evP s parts = vs) (hc : fillOk pl l0.length vs = true) (hf : fillL pl l0 vs = l) (hk : K (.agg l.toArray) w) : Ost P o s w K := by
  refine ost_build ho (fun w => ?_) hk
  obtain ⟨fs, h1, h2⟩ := hP.plc
  have hm := h2.run
  unfold Instr.build
  rw [evP_eq, hv]
  subst hf
  simp [Sem.run_bind, Ty.run_zero, Result.andThen_ok, underlying, h1, Value.cells]
  rw [hm]
  simp
  rw [fill_eq pl _ (fun i => by simp) vs l0 hc]
  rfl
theorem ost_fieldAddr {t : TypeId} {x : Operand} {f b off fo : Nat} {ft : TypeId} {d : TypeDesc} {sz bytes : Nat} {z : Value} [hf : Fld P t f fo ft] [Ty P ft d sz bytes z] (ho : o.op = .fieldAddr t x f) (hsz : sz ≠ 0)
    (ha : ev s x = .pointer (some ⟨b, off, none⟩)) (hk : K (.pointer (some ⟨b, off + fo, none⟩)) w) : Ost P o s w K := by
  obtain ⟨fs, fd, h1, h2, h3, h4⟩ := hf.fld
  subst h3; subst h4
  refine .val ?_ hk
  simp [execOp, ho, ha, Instr.fieldAt, Instr.sureAddr, underlying, h1, h2, fieldPlace, Ty.run_size, hsz, cell_add]
theorem run_part {t : TypeId} {d : TypeDesc} {sz bytes : Nat} {z : Value} [Ty P t d sz bytes z] (cs : Array Value) (off : Nat) (w : World) :
    (isAggD d = true → (part t cs off).run P w = .ok (.agg (cs.extract off (off + sz))) w) ∧ (isAggD d = false → ∀ v, cs[off]? = some v → (part t cs off).run P w = .ok v w) := by
  refine ⟨fun hd => ?_, fun hd v hv => ?_⟩
  · simp [part, Ty.run_agg, hd, Ty.run_size]
  · simp [part, Ty.run_agg, hd, hv]
theorem ost_field1 {t : TypeId} {x : Operand} {f fo : Nat} {ft : TypeId} {d : TypeDesc} {sz bytes : Nat} {z v : Value} {cs : Array Value} [hf : Fld P t f fo ft] [Ty P ft d sz bytes z] (ho : o.op = .field t x f) (hd : isAggD d = false)
    (ha : ev s x = .agg cs) (hv : cs[fo]? = some v) (hk : K v w) : Ost P o s w K := by
  obtain ⟨fs, fd, h1, h2, h3, h4⟩ := hf.fld
  subst h3; subst h4
  refine .val ?_ hk
  simp [execOp, ho, ha, Instr.field, underlying, h1, h2, asAgg, (run_part (P := P) (t := fd.type) cs fd.offset w).2 hd v hv]
theorem ost_idxArr {t : TypeId} {x y : Operand} {k : IntKind} {i : Int} {b off n : Nat} {e : TypeId} {d : TypeDesc} {sz bytes sz' bytes' : Nat} {z z' : Value} [Ty P t (.array n e) sz bytes z] [Ty P e d sz' bytes' z'] (ho : o.op = .indexAddr t x y)
    (ha : ev s x = .pointer (some ⟨b, off, none⟩)) (hi : ev s y = .int k i) (h0 : 0 ≤ i) (h1 : i < (n : Int)) (hk : K (.pointer (some ⟨b, off + i.toNat * sz', none⟩)) w) : Ost P o s w K := by
  refine .val ?_ hk
  simp [execOp, ho, ha, hi, Instr.indexAt, Instr.sureAddr, asIntOf, Ty.run_und, h0, h1, Ty.run_size, cell_add]
theorem ost_idxSl {t : TypeId} {x y : Operand} {k : IntKind} {i : Int} {b off n c : Nat} {e : TypeId} {d : TypeDesc} {sz bytes sz' bytes' : Nat} {z z' : Value} [Ty P t (.slice e) sz bytes z] [Ty P e d sz' bytes' z'] (ho : o.op = .indexAddr t x y)
    (ha : ev s x = .slice (some ⟨b, off, none⟩) n c) (hi : ev s y = .int k i) (h0 : 0 ≤ i) (h1 : i < (n : Int)) (hk : K (.pointer (some ⟨b, off + i.toNat * sz', none⟩)) w) : Ost P o s w K := by
  refine .val ?_ hk
  simp [execOp, ho, ha, hi, Instr.indexAt, asIntOf, Ty.run_und, h0, h1, Ty.run_size, cell_add]
theorem ost_idxVal {t : TypeId} {x y : Operand} {k : IntKind} {i : Int} {n : Nat} {e : TypeId} {d : TypeDesc} {sz bytes bytes' : Nat} {z z' v : Value} {l : List Value} [Ty P t (.array n e) sz bytes z] [Ty P e d 1 bytes' z'] (ho : o.op = .index t x y) (hd : isAggD d = false)
    (ha : ev s x = .agg l.toArray) (hi : ev s y = .int k i) (h0 : 0 ≤ i) (h1 : i < (n : Int)) (hv : l[i.toNat]? = some v) (hk : K v w) : Ost P o s w K := by
  refine .val ?_ hk
  have hp := (run_part (P := P) (t := e) l.toArray i.toNat w).2 hd v (by simpa using hv)
  simp [execOp, ho, ha, hi, Instr.index, asIntOf, Ty.run_und, h0, h1, Ty.run_size, hp]

-- calls
def mapEv (s : Env) : List Operand → List Value
  | [] => []
  | x :: l => ev s x :: mapEv s l
theorem mapEv_eq (s : Env) (l : List Operand) : l.toArray.map (ev s) = (mapEv s l).toArray := by
  have : ∀ l : List Operand, mapEv s l = l.map (ev s) := fun l => by induction l with | nil => rfl | cons x l ih => simp only [mapEv, ih, List.map_cons]
  rw [this]; simp
theorem ost_call {f : Nat} {args : List Operand} {at_ : Array TypeId} {vs : List Value} {R : Value → World → Prop} [hf : Fun P f] (ho : o.op = .call { callee := .value (.func f), args := args.toArray, argTypes := at_ })
    (hC : Calls P f vs.toArray w (Ret R)) (hv : mapEv s args = vs) (hk : ∀ v w', R v w' → K v w') : Ost P o s w K := by
  unfold Ost
  have : (execOp (ev s) o).run P w = .ok (.enter f vs.toArray) w := by
    simp only [execOp, ho, resolve, Sem.run_bind, Deferred.ofValue, Sem.run_pure, Result.andThen_ok, invoke, mapEv_eq, hv]
    simpa using hf.call vs.toArray w
  rw [this]
  exact Calls.mono hC fun e w' ⟨v, he, hR⟩ => ⟨v, he, hk v w' hR⟩
theorem ost_len_sl {x : Operand} {t : TypeId} {e : TypeId} {sz bytes : Nat} {z : Value} {a : Option Addr} {n c : Nat} [Ty P t (.slice e) sz bytes z] (ho : o.op = .call { callee := .builtin .len, args := #[x], argTypes := #[t] }) (hx : ev s x = .slice a n c) (hk : K (.int .i64 n) w) : Ost P o s w K :=
  .val (by simp [execOp, ho, resolve, invoke, builtin, Builtin.len_, hx, Ty.run_und, goInt]) hk
theorem ost_len_str {x : Operand} {t : TypeId} {sz bytes : Nat} {z : Value} {a : ByteArray} [Ty P t .string sz bytes z] (ho : o.op = .call { callee := .builtin .len, args := #[x], argTypes := #[t] }) (hx : ev s x = .string a) (hk : K (.int .i64 a.size) w) : Ost P o s w K :=
  .val (by simp [execOp, ho, resolve, invoke, builtin, Builtin.len_, hx, Ty.run_und, goInt]) hk
theorem ost_len_arr {x : Operand} {t : TypeId} {e : TypeId} {n sz bytes : Nat} {z : Value} [Ty P t (.array n e) sz bytes z] (ho : o.op = .call { callee := .builtin .len, args := #[x], argTypes := #[t] }) (hk : K (.int .i64 n) w) : Ost P o s w K :=
  .val (by simp [execOp, ho, resolve, invoke, builtin, Builtin.len_, Ty.run_und, goInt]) hk
theorem ost_max {x y : Operand} {t u : TypeId} {k : IntKind} {a b : Int} (ho : o.op = .call { callee := .builtin .max, args := #[x, y], argTypes := #[t, u] }) (hx : ev s x = .int k a) (hy : ev s y = .int k b) (hk : K (.int k (max a b)) w) : Ost P o s w K := by
  refine .val ?_ hk
  have : (if b > a then b else a) = max a b := by split <;> omega
  simp [execOp, ho, resolve, invoke, builtin, Builtin.max_, hx, hy, Builtin.max2, this]
theorem ost_min {x y : Operand} {t u : TypeId} {k : IntKind} {a b : Int} (ho : o.op = .call { callee := .builtin .min, args := #[x, y], argTypes := #[t, u] }) (hx : ev s x = .int k a) (hy : ev s y = .int k b) (hk : K (.int k (min a b)) w) : Ost P o s w K := by
  refine .val ?_ hk
  have : (if b < a then b else a) = min a b := by split <;> omega
  simp [execOp, ho, resolve, invoke, builtin, Builtin.min_, hx, hy, Builtin.min2, this]
end

-- equality of values that are rows of plain cells
inductive CK where | i (k : IntKind) | b | s
def shp : Value → Option CK | .int k _ => some (.i k) | .bool _ => some .b | .string _ => some .s | _ => none
def Typed (ks : List CK) (xs : List Value) : Prop := xs.map shp = ks.map some
def mkv (ag : Bool) (xs : List Value) : Value := if ag then .agg xs.toArray else xs.headD undef
class EqT (P : Program) (t : TypeId) (ag : outParam Bool) (dep : outParam Nat) (ks : outParam (List CK)) : Prop where
  eq : ∀ (d : Nat) (xs ys : List Value) (w : World), dep ≤ d → Typed ks xs → Typed ks ys → ∃ r, (Op.equalIn d t (mkv ag xs) (mkv ag ys)).run P w = .ok r w ∧ (r = true ↔ xs = ys)
  one : ag = false → ks.length = 1
theorem Typed.length {ks : List CK} {xs : List Value} (h : Typed ks xs) : xs.length = ks.length := by simpa using congrArg List.length h
theorem Typed.split {a b : List CK} {xs : List Value} (h : Typed (a ++ b) xs) : Typed a (xs.take a.length) ∧ Typed b (xs.drop a.length) := by
  unfold Typed at *
  rw [List.map_append] at h
  constructor
  · rw [List.map_take, h, List.take_left' (by simp)]
  · rw [List.map_drop, h, List.drop_left' (by simp)]
section
variable {P : Program}
theorem eqt_int {t : TypeId} {k : IntKind} (h : P.underlying t = some (.int k)) : EqT P t false 1 [.i k] where
  eq d xs ys w hd hx hy := by
    obtain ⟨d, rfl⟩ : ∃ m, d = m + 1 := ⟨d - 1, by omega⟩
    match xs, ys, hx, hy with
    | [.int a x], [.int b y], hx, hy =>
      simp [Typed, shp] at hx hy
      subst hx; subst hy
      refine ⟨x == y, run_equalIn_int w d t _ _ x y h, by simp⟩
    | [], _, hx, _ => simp [Typed] at hx
    | _ :: _ :: _, _, hx, _ => simp [Typed] at hx
    | [_], [], _, hy => simp [Typed] at hy
    | [_], _ :: _ :: _, _, hy => simp [Typed] at hy
    | [.bool _], [_], hx, _ | [.float ..], [_], hx, _ | [.complex ..], [_], hx, _ | [.string _], [_], hx, _ | [.pointer _], [_], hx, _ | [.slice ..], [_], hx, _ | [.map _], [_], hx, _ | [.chan _], [_], hx, _ | [.func ..], [_], hx, _ | [.nilFunc], [_], hx, _ | [.iface ..], [_], hx, _ | [.nilIface], [_], hx, _ | [.agg _], [_], hx, _ | [.tuple _], [_], hx, _ => simp [Typed, shp] at hx
    | [_], [.bool _], _, hx | [_], [.float ..], _, hx | [_], [.complex ..], _, hx | [_], [.string _], _, hx | [_], [.pointer _], _, hx | [_], [.slice ..], _, hx | [_], [.map _], _, hx | [_], [.chan _], _, hx | [_], [.func ..], _, hx | [_], [.nilFunc], _, hx | [_], [.iface ..], _, hx | [_], [.nilIface], _, hx | [_], [.agg _], _, hx | [_], [.tuple _], _, hx => simp [Typed, shp] at hx
  one _ := rfl
section
variable {P : Program} {o : Oper} {s : Env} {w : World} {K : Value → World → Prop}
theorem ost_boolSame {t u : TypeId} {x y : Operand} {q : Bool} {sz bytes : Nat} {z : Value} [Ty P t .bool sz bytes z] (ho : o.op = .binOp .eql t x y u) (hx : ev s x = .bool q) (hy : ev s y = .bool q) (hk : K (.bool true) w) : Ost P o s w K := by
  refine .val ?_ hk
  have h := run_equalIn_bool (P := P) w 9999 t q q Ty.und
  have h : (Op.equal t (.bool q) (.bool q)).run P w = .ok (q == q) w := h
  simp [execOp, ho, hx, hy, eqGuard, binOp, h]
theorem ost_boolDiff {t u : TypeId} {x y : Operand} {q : Bool} {sz bytes : Nat} {z : Value} [Ty P t .bool sz bytes z] (ho : o.op = .binOp .neq t x y u) (hx : ev s x = .bool q) (hy : ev s y = .bool q) (hk : K (.bool false) w) : Ost P o s w K := by
  refine .val ?_ hk
  have h := run_equalIn_bool (P := P) w 9999 t q q Ty.und
  have h : (Op.equal t (.bool q) (.bool q)).run P w = .ok (q == q) w := h
  simp [execOp, ho, hx, hy, eqGuard, binOp, h]
end
theorem eqt_bool {t : TypeId} (h : P.underlying t = some .bool) : EqT P t false 1 [.b] where
  eq d xs ys w hd hx hy := by
    obtain ⟨d, rfl⟩ : ∃ m, d = m + 1 := ⟨d - 1, by omega⟩
    match xs, ys, hx, hy with
    | [.bool x], [.bool y], hx, hy => exact ⟨x == y, run_equalIn_bool w d t x y h, by simp⟩
    | [], _, hx, _ => simp [Typed] at hx
    | _ :: _ :: _, _, hx, _ => simp [Typed] at hx
    | [_], [], _, hy => simp [Typed] at hy
    | [_], _ :: _ :: _, _, hy => simp [Typed] at hy
    | [.int ..], [_], hx, _ | [.float ..], [_], hx, _ | [.complex ..], [_], hx, _ | [.string _], [_], hx, _ | [.pointer _], [_], hx, _ | [.slice ..], [_], hx, _ | [.map _], [_], hx, _ | [.chan _], [_], hx, _ | [.func ..], [_], hx, _ | [.nilFunc], [_], hx, _ | [.iface ..], [_], hx, _ | [.nilIface], [_], hx, _ | [.agg _], [_], hx, _ | [.tuple _], [_], hx, _ => simp [Typed, shp] at hx
    | [_], [.int ..], _, hx | [_], [.float ..], _, hx | [_], [.complex ..], _, hx | [_], [.string _], _, hx | [_], [.pointer _], _, hx | [_], [.slice ..], _, hx | [_], [.map _], _, hx | [_], [.chan _], _, hx | [_], [.func ..], _, hx | [_], [.nilFunc], _, hx | [_], [.iface ..], _, hx | [_], [.nilIface], _, hx | [_], [.agg _], _, hx | [_], [.tuple _], _, hx => simp [Typed, shp] at hx
  one _ := rfl
theorem run_part_mkv {t : TypeId} {d : TypeDesc} {sz bytes : Nat} {z : Value} [Ty P t d sz bytes z] {xs : List Value} {off : Nat} (h1 : isAggD d = false → sz = 1) (hl : off + sz ≤ xs.length) (w : World) :
    (part t xs.toArray off).run P w = .ok (mkv (isAggD d) ((xs.drop off).take sz)) w := by
  cases hd : isAggD d with
  | true =>
    rw [(run_part (P := P) (t := t) xs.toArray off w).1 hd]
    simp [mkv, List.take_drop]
  | false =>
    have := h1 hd; subst this
    obtain ⟨v, hv⟩ : ∃ v, xs[off]? = some v := ⟨xs[off], by simp⟩
    rw [(run_part (P := P) (t := t) xs.toArray off w).2 hd v (by simpa using hv)]
    have : (xs.drop off).take 1 = [v] := by
      rw [List.drop_eq_getElem_cons (by omega)]
      have := (List.getElem?_eq_some_iff.1 hv).2
      simp [this]
    simp [mkv, this]
inductive FOk (P : Program) (dd : Nat) : List Field → Nat → List CK → Prop
  | nil (off : Nat) : FOk P dd [] off []
  | cons {f : Field} {fs : List Field} {off : Nat} {ks ks' : List CK} {ag : Bool} {dep bytes : Nat} {d : TypeDesc} {z : Value} (hE : EqT P f.type ag dep ks) (hT : Ty P f.type d ks.length bytes z) (ha : isAggD d = ag) (ho : f.offset = off) (hn : f.name ≠ "_") (hd : dep ≤ dd) (h : FOk P dd fs (off + ks.length) ks') : FOk P dd (f :: fs) off (ks ++ ks')
theorem FOk.mk2 {P : Program} {dd : Nat} (ft : TypeId) {f : Field} {fs : List Field} {off sz : Nat} {ks ks' : List CK} {ag : Bool} {dep bytes : Nat} {d : TypeDesc} {z : Value} [hE : EqT P ft ag dep ks] [hT : Ty P ft d sz bytes z] (hf : f.type = ft) (hs : sz = ks.length) (ha : isAggD d = ag) (ho : f.offset = off) (hn : f.name ≠ "_") (hd : dep ≤ dd)
    (h : FOk P dd fs (off + ks.length) ks') : FOk P dd (f :: fs) off (ks ++ ks') := by
  subst hf; subst hs
  exact .cons hE hT ha ho hn hd h
theorem eq_fields {dd d : Nat} (hdd : dd ≤ d) {fs : List Field} {off : Nat} {ks : List CK} (h : FOk P dd fs off ks) : ∀ (xs ys : List Value) (w : World), off ≤ xs.length → off ≤ ys.length → Typed ks (xs.drop off) → Typed ks (ys.drop off) →
    ∃ r, (Op.eqFields d xs.toArray ys.toArray fs).run P w = .ok r w ∧ (r = true ↔ xs.drop off = ys.drop off) := by
  induction h with
  | nil off =>
    intro xs ys w _ _ hx hy
    have hx' := hx.length; have hy' := hy.length
    exact ⟨true, rfl, by simp only [true_iff]; rw [List.eq_nil_of_length_eq_zero hx', List.eq_nil_of_length_eq_zero hy']⟩
  | @cons f fs off ks ks' ag dep bytes dsc z hE hT ha ho hn hd _ ih =>
    intro xs ys w hlx hly hx hy
    obtain ⟨hx1, hx2⟩ := hx.split
    obtain ⟨hy1, hy2⟩ := hy.split
    rw [List.drop_drop] at hx2 hy2
    have lx := hx.length; have ly := hy.length
    simp at lx ly
    have h1 : isAggD dsc = false → ks.length = 1 := fun h => hE.one (ha ▸ h)
    obtain ⟨r, hr, hre⟩ := hE.eq d _ _ w (by omega) hx1 hy1
    have px := run_part_mkv (P := P) (t := f.type) (xs := xs) (off := off) h1 (by omega) w
    have py := run_part_mkv (P := P) (t := f.type) (xs := ys) (off := off) h1 (by omega) w
    rw [ha] at px py
    have key : xs.drop off = ys.drop off ↔ (xs.drop off).take ks.length = (ys.drop off).take ks.length ∧ xs.drop (off + ks.length) = ys.drop (off + ks.length) := by
      constructor
      · intro e; exact ⟨by rw [e], by rw [← List.drop_drop, ← List.drop_drop, e]⟩
      · rintro ⟨e1, e2⟩
        rw [← List.take_append_drop ks.length (xs.drop off), ← List.take_append_drop ks.length (ys.drop off), e1, List.drop_drop, List.drop_drop, e2]
    unfold Op.eqFields
    rw [if_pos hn]
    simp only [Sem.run_bind, ho, px, py, hr, Result.andThen_ok]
    cases r with
    | false => exact ⟨false, rfl, by rw [key]; simp only [Bool.false_eq_true, false_iff]; intro ⟨e, _⟩; simpa using hre.2 e⟩
    | true =>
      obtain ⟨r', hr', hre'⟩ := ih xs ys w (by omega) (by omega) hx2 hy2
      exact ⟨r', hr', by rw [key, hre']; exact ⟨fun e => ⟨hre.1 rfl, e⟩, fun e => e.2⟩⟩
theorem eqt_struct {t : TypeId} {fs : Array Field} {dd : Nat} {ks : List CK} (hu : P.underlying t = some (.struct fs)) (hp : P.stoodInHeld t = false) (h : FOk P dd fs.toList 0 ks) : EqT P t true (dd + 1) ks where
  eq d xs ys w hd hx hy := by
    obtain ⟨d, rfl⟩ : ∃ m, d = m + 1 := ⟨d - 1, by omega⟩
    have hf : P.fieldsOf t = fs := by simp [Program.fieldsOf, hu]
    have := run_equalIn_struct (P := P) w d t xs.toArray ys.toArray (by rw [hf]; exact hu) hp
    obtain ⟨r, hr, he⟩ := eq_fields (P := P) (d := d) (by omega) h xs ys w (by omega) (by omega) (by simpa using hx) (by simpa using hy)
    refine ⟨r, ?_, by simpa using he⟩
    show (Op.equalIn (d + 1) t (.agg xs.toArray) (.agg ys.toArray)).run P w = _
    rw [this, hf]; exact hr
  one h := by cases h
end
end Go.Tg

