/- The walk's own words: values in a function of slots, one rule for each form of code, and one theorem for a region that draws its order. -/
import Derived.Tactics
import Derived.KernelRfl
import Derived.Orders
import Derived.OrdersIn
import Derived.TacticsIn
import Derived.Laws.AppendOwn
import Derived.Laws.OwnMore
import Derived.Laws.Slices
import Derived.Laws.BytesString
import Derived.Laws.Rows
namespace Go.Tg
open Go

abbrev Env := Nat → Value
def upd (s : Env) (d : Nat) (v : Value) : Env := fun i => bif Nat.beq i d then v else s i
def putv (s : Env) (d : Option Nat) (v : Value) : Env := match d with | some d => upd s d v | none => s
@[reducible] def ev (s : Env) : Operand → Value
  | .tmp t => s t
  | .const v => v
  | .global g => .pointer (some ⟨g, 0, none⟩)
  | .func f => .func (.func f) #[] #[]
def yld (ops : Array Oper) (s : Env) (j : Nat) : Option Bool :=
  match (ops[j]?).bind (·.dst) with
  | some d => (match s d with | .bool b => some b | _ => none)
  | none => none
def dstOk (n : Nat) : Option Nat → Bool | none => true | some d => Nat.blt d n

theorem nbeq {i d : Nat} (h : i ≠ d) : Nat.beq i d = false := Bool.eq_false_iff.2 fun h' => h (Nat.eq_of_beq_eq_true h')
theorem upd_same (s : Env) (d : Nat) (v : Value) : upd s d v d = v := by simp [upd]
theorem upd_ne {s : Env} {d : Nat} {v : Value} {i : Nat} (h : i ≠ d) : upd s d v i = s i := by
  have : Nat.beq i d = false := nbeq h
  simp [upd, this]
theorem upd_eta (s : Env) (d : Nat) : upd s d (s d) = s := by
  funext i; by_cases h : i = d
  · subst h; exact upd_same _ _ _
  · exact upd_ne h

def Rnd (r : Option Nat) : Fence := { Fence.wide with round := r }
structure Sim (n : Nat) (D : List Deferred) (s : Env) (a : Act) : Prop where
  df : a.defers = D
  sz : a.tmps.size = n
  eq : ∀ i, a.tmps.getD i undef = s i

theorem Sim.eval {n : Nat} {D : List Deferred} {s : Env} {a : Act} (h : Sim n D s a) : a.eval = ev s := by
  funext x; cases x <;> simp [Act.eval, ev]
  simpa using h.eq _
theorem Sim.yielded {n : Nat} {D : List Deferred} {s : Env} {a : Act} (h : Sim n D s a) (ops : Array Oper) : yielded ops a.tmps = yld ops s := by
  funext j
  unfold Go.yielded yld
  cases hd : (ops[j]?).bind (·.dst) with
  | none => simp
  | some d =>
    have he := h.eq d
    simp only [Option.bind_some]
    cases ht : a.tmps[d]? with
    | none =>
      simp [ht] at he
      rw [← he]; rfl
    | some x =>
      simp [ht] at he
      rw [← he]
      cases x <;> rfl
theorem Sim.put {n : Nat} {D : List Deferred} {s : Env} {a : Act} (h : Sim n D s a) {d : Option Nat} (hd : dstOk n d = true) (v : Value) : Sim n D (putv s d v) (a.put d v) := by
  cases d with
  | none => exact h
  | some d =>
    refine ⟨h.df, by simpa [Act.put] using h.sz, fun i => ?_⟩
    have hlt : d < n := by simpa [dstOk, Nat.blt_eq] using hd
    by_cases hi : i = d
    · subst hi
      have : i < a.tmps.size := h.sz ▸ hlt
      simp [Act.put, putv, upd_same, this]
    · have := h.eq i
      simp [Act.put, putv, upd_ne hi, Array.getElem?_setIfInBounds_ne (Ne.symm hi)]
      simpa using this

def lift (n : Nat) (D : List Deferred) (Q : Exit → Env → World → Prop) : Exit → Act → World → Prop := fun e a w => ∃ s, Sim n D s a ∧ Q e s w
def WL (P : Program) (n : Nat) (ops : Array Oper) (Q : Exit → Env → World → Prop) (l : List Oper) (s : Env) (w : World) : Prop :=
  ∀ (r : Option Nat) (D : List Deferred) a, Sim n D s a → wpListIn (Rnd r) 0 P ops (lift n D Q) l a w
def Wc (P : Program) (n : Nat) (c : Code) (Q : Exit → Env → World → Prop) (s : Env) (w : World) : Prop :=
  ∀ (r : Option Nat) (D : List Deferred) a, Sim n D s a → c.wpIn (Rnd r) 0 P (lift n D Q) a w

def Ret (R : Value → World → Prop) : Ending → World → Prop := fun e w => ∃ v, e = .returned v ∧ R v w
def Ost (P : Program) (o : Oper) (s : Env) (w : World) (K : Value → World → Prop) : Prop :=
  match (execOp (ev s) o).run P w with
  | .ok (.value v) w' => K v w'
  | .ok .skip w' => K undef w'
  | .ok (.enter f args) w' => Calls P f args w' (Ret K)
  | .ok (.round l f tmps assign body) w' => RoundIn Fence.wide 0 P l f tmps assign body w' (Ret K)
  | _ => False

section
variable {P : Program} {n : Nat} {ops : Array Oper} {Q : Exit → Env → World → Prop} {s : Env} {w : World} {o : Oper} {rest : List Oper} {K K' : Value → World → Prop}

theorem Ost.mono (h : Ost P o s w K) (hk : ∀ v w', K v w' → K' v w') : Ost P o s w K' := by
  unfold Ost at *
  split at h
  · exact hk _ _ h
  · exact hk _ _ h
  · exact Calls.mono h fun e w' ⟨v, he, hv⟩ => ⟨v, he, hk _ _ hv⟩
  · exact RoundIn.mono h fun e w' ⟨v, he, hv⟩ => ⟨v, he, hk _ _ hv⟩
  · exact h.elim

theorem Ost.nodefer (h : Ost P o s w K) : ∀ c, o.op ≠ .defer c := by
  intro c hc
  unfold Ost at h
  have he : execOp (ev s) o = (do pure (.defer (← resolve (ev s) c o.type)) : Sem Next) := by
    obtain ⟨dst, op, type, pos, after, guard⟩ := o
    cases hc
    rfl
  rw [he, Sem.run_bind] at h
  generalize (resolve (ev s) c o.type).run P w = r at h
  cases r with
  | ok d w' => simp [Result.andThen, Sem.run_pure] at h
  | halt x w' => simp [Result.andThen] at h
theorem Ost.wp {a : Act} {D : List Deferred} {r : Option Nat} (hs : Sim n D s a) (h : Ost P o s w K) {next : Act → World → Prop} {Q' : Exit → Act → World → Prop}
    (hk : ∀ v w', K v w' → next (a.put o.dst v) w') : o.wpIn (Rnd r) 0 P a w next Q' := by
  unfold Oper.wpIn
  refine ⟨fun _ _ => trivial, ?_⟩
  rw [Oper.semAt_eq _ _ _ h.nodefer, hs.eval]
  unfold Ost at h
  split at h
  · rename_i v w' heq; rw [heq]; exact hk _ _ h
  · rename_i w' heq; rw [heq]; exact hk _ _ h
  · rename_i f args w' heq; rw [heq]
    exact ⟨fun h => (by cases h), (callsIn_wide (n := 0 - 1)).2 (Calls.mono h fun e w'' ⟨v, he, hv⟩ => by subst he; exact hk _ _ hv)⟩
  · rename_i l f tmps assign body w' heq; rw [heq]
    exact ⟨fun h => (by cases h), (RoundIn.mono h fun e w'' ⟨v, he, hv⟩ => by subst he; exact hk _ _ hv : RoundIn Fence.wide 0 P l f tmps assign body w' _)⟩
  · exact h.elim

theorem WL.nil (h : Q .normal s w) : WL P n ops Q [] s w := fun _ _ _ hs => wpListIn_nil ⟨s, hs, h⟩
theorem WL.cons (hw : Region.wanted o (yld ops s) = true) (hd : dstOk n o.dst = true)
    (h : Ost P o s w fun v w' => WL P n ops Q rest (putv s o.dst v) w') : WL P n ops Q (o :: rest) s w := by
  intro r D a hs
  unfold wpListIn
  rw [hs.yielded, if_pos hw]
  exact h.wp hs fun v w' hv => hv _ _ _ (hs.put hd v)
theorem WL.skip (hw : Region.wanted o (yld ops s) = false) (hd : dstOk n o.dst = true)
    (h : WL P n ops Q rest (putv s o.dst undef) w) : WL P n ops Q (o :: rest) s w := by
  intro r D a hs
  unfold wpListIn
  rw [hs.yielded, if_neg (by simp [hw])]
  exact ⟨fun _ _ => trivial, h _ _ _ (hs.put hd undef)⟩
def Then (K : Env → World → Prop) (Q : Exit → Env → World → Prop) : Exit → Env → World → Prop
  | .normal, s, w => K s w
  | e, s, w => Q e s w
def InBlock (id : Nat) (Q : Exit → Env → World → Prop) : Exit → Env → World → Prop
  | .exit id', s, w => bif Nat.beq id' id then Q .normal s w else Q (.exit id') s w
  | e, s, w => Q e s w

theorem lift_then {D : List Deferred} {K : Env → World → Prop} : ∀ e a w, lift n D (Then K Q) e a w → Exit.then (fun a w => ∃ s, Sim n D s a ∧ K s w) (lift n D Q) e a w := by
  rintro e a w ⟨s, hs, h⟩
  cases e <;> exact ⟨s, hs, h⟩

theorem Wc.mono {c : Code} {Q' : Exit → Env → World → Prop} (h : Wc P n c Q s w) (hq : ∀ e s w, Q e s w → Q' e s w) : Wc P n c Q' s w :=
  fun r D a hs => wpIn_mono (h r D a hs) fun _ _ _ ⟨s, h1, h2⟩ => ⟨s, h1, hq _ _ _ h2⟩
theorem Wc.seq {x y : Code} (h : Wc P n x (Then (Wc P n y Q) Q) s w) : Wc P n (.seq x y) Q s w := fun r D a hs =>
  wpIn_seq (wpIn_mono (h r D a hs) fun e a' w' hq => by
    have := lift_then e a' w' hq
    cases e <;> first | exact this | (obtain ⟨s', h1, h2⟩ := this; exact h2 _ _ _ h1))
theorem Wc.skip (h : Q .normal s w) : Wc P n .skip Q s w := fun _ _ _ hs => wpIn_skip ⟨s, hs, h⟩
theorem Wc.exit {id : Nat} (h : Q (.exit id) s w) : Wc P n (.exit id) Q s w := fun _ _ _ hs => wpIn_exit ⟨s, hs, h⟩
theorem Wc.ret (h : Q .ret s w) : Wc P n .ret Q s w := fun _ _ _ hs => wpIn_ret ⟨s, hs, h⟩
theorem Wc.block {id : Nat} {c : Code} (h : Wc P n c (InBlock id Q) s w) : Wc P n (.block id c) Q s w := fun r D a hs =>
  wpIn_block (wpIn_mono (h r D a hs) fun e a' w' ⟨s', h1, h2⟩ => by
    cases e with
    | exit id' =>
      simp only [Exit.inBlock]
      simp only [InBlock] at h2
      by_cases hid : id' = id
      · subst hid; simp at h2; simp; exact ⟨s', h1, h2⟩
      · have : Nat.beq id' id = false := nbeq hid
        simp [this] at h2; simp [hid]; exact ⟨s', h1, h2⟩
    | _ => exact ⟨s', h1, h2⟩)
theorem Wc.cond_true {c : Operand} {x y : Code} (hc : ev s c = .bool true) (h : Wc P n x Q s w) : Wc P n (.cond c x y) Q s w := fun r D a hs =>
  wpIn_cond_true (by rw [hs.eval]; exact hc) (h r D a hs)
theorem Wc.cond_false {c : Operand} {x y : Code} (hc : ev s c = .bool false) (h : Wc P n y Q s w) : Wc P n (.cond c x y) Q s w := fun r D a hs =>
  wpIn_cond_false (by rw [hs.eval]; exact hc) (h r D a hs)
theorem Wc.loop {c : Code} (I : Nat → Env → World → Prop) (m0 : Nat) (h0 : I m0 s w)
    (hr : ∀ m s w, I m s w → Wc P n c (Then (fun s' w' => ∃ m', m' < m ∧ I m' s' w') Q) s w) : Wc P n (.loop c) Q s w := by
  intro r D a hs b k cs hro hb hrm
  have key : ∀ m s w a, Sim n D s a → I m s w →
      ∃ e a' w', lift n D Q e a' w' ∧ ArrivesIn (Machine.fenced P (Rnd r)) P (lone (b.atR a (.code c :: .inLoop c :: k)) cs w) b k cs e a' w' := by
    intro m
    induction m using Nat.strongRecOn with
    | _ m ih =>
      intro s w a hs hI
      obtain ⟨e, a₁, w₁, hq, harr⟩ := hr m s w hI r D a hs b (.inLoop c :: k) cs hro hb hrm
      have hq' := lift_then _ _ _ hq
      cases e with
      | normal =>
        obtain ⟨s1, hs1, m', hlt, hI1⟩ := hq'
        obtain ⟨e₂, a₂, w₂, hq₂, harr₂⟩ := ih m' hlt s1 w₁ a₁ hs1 hI1
        exact ⟨e₂, a₂, w₂, hq₂, .of_steps (StepsIn.trans harr (.one (fenced_calm hb hrm rfl) stepR_inLoop)) harr₂⟩
      | exit id => exact ⟨_, a₁, w₁, hq', .pass (x := .inLoop c) rfl (fun _ _ => .inl (by simp)) harr⟩
      | goto l => exact ⟨_, a₁, w₁, hq', .pass (x := .inLoop c) rfl (fun _ _ => .inl (by simp)) harr⟩
      | ret => exact ⟨_, a₁, w₁, hq', .pass (x := .inLoop c) rfl (fun _ _ => .inl (by simp)) harr⟩
      | panic ch => exact ⟨_, a₁, w₁, hq', .pass (x := .inLoop c) rfl (fun _ _ => .inl (by simp)) harr⟩
      | outgrown => exact ⟨_, a₁, w₁, hq', .pass (x := .inLoop c) rfl (fun _ _ => .inl (by simp)) harr⟩
  obtain ⟨e, a', w', hq, harr⟩ := key m0 s w a hs h0
  exact ⟨e, a', w', hq, .of_steps (.one (fenced_calm hb hrm rfl) stepR_loop) harr⟩
theorem Wc.region {id : Nat} {l : List Oper} (h : WL P n l.toArray Q l s w) : Wc P n (.region id l.toArray false) Q s w := fun r D a hs =>
  wpIn_region_lit (h r D a hs)

def fnPost (P : Program) (fn : Func) (R : Value → World → Prop) : Exit → Env → World → Prop
  | .normal, s, w | .ret, s, w => ∃ v, (∀ tmps : Array Value, (∀ i, tmps.getD i undef = s i) → (results fn tmps).run P w = .ok v w) ∧ R v w
  | _, _, _ => False

def argEnv (args : Array Value) : Env := fun i => args.getD i undef
theorem calls_of {f : Nat} {fn : Func} {c : Code} {args : Array Value} {R : Value → World → Prop} (hf : P.funcs[f]? = some fn) (hb : fn.body = some c)
    (hn : fn.ntmps = n) (ha : args.size ≤ n) (h : Wc P n c (fnPost P fn R) (argEnv args) w) : Calls P f args w (Ret R) := by
  refine (callsIn_wide (n := 0)).1 (callsIn_of_wp hf hb trivial ?_ rfl)
  have hs : Sim n [] (argEnv args) { tmps := args ++ Array.replicate (fn.ntmps - args.size) undef, defers := [] } := by
    refine ⟨rfl, by simp; omega, fun i => ?_⟩
    simp only [argEnv, Array.getD_eq_getD_getElem?]
    by_cases hi : i < args.size
    · simp [Array.getElem?_append_left hi]
    · rw [Array.getElem?_append_right (by omega)]
      rw [Array.getElem?_eq_none (by omega : args.size ≤ i)]
      by_cases h2 : i - args.size < fn.ntmps - args.size
      · simp [h2]
      · simp [h2]
  refine wpIn_mono (h none [] _ hs) ?_
  rintro e a' w' ⟨s', hs', hq⟩
  cases e with
  | normal => obtain ⟨v, h1, h2⟩ := hq; exact ⟨hs'.df, v, h1 _ hs'.eq, v, rfl, h2⟩
  | ret => obtain ⟨v, h1, h2⟩ := hq; exact ⟨hs'.df, v, h1 _ hs'.eq, v, rfl, h2⟩
  | _ => exact hq.elim
end
section draw
structure Fr (S : List Nat) (w w' : World) : Prop where
  os : w'.os = w.os
  tape : w'.tape = w.tape
  output : w'.output = w.output
  size : w.heap.size ≤ w'.heap.size
  keep : ∀ k, k < w.heap.size → k ∉ S → w'.heap[k]? = w.heap[k]?
abbrev Ext : World → World → Prop := Fr []
theorem Fr.refl (S : List Nat) (w : World) : Fr S w w := ⟨rfl, rfl, rfl, Nat.le_refl _, fun _ _ _ => rfl⟩
theorem Fr.trans {S : List Nat} {a b c : World} (h : Fr S a b) (k : Fr S b c) : Fr S a c :=
  ⟨k.os.trans h.os, k.tape.trans h.tape, k.output.trans h.output, Nat.le_trans h.size k.size,
    fun i hi hS => (k.keep i (Nat.lt_of_lt_of_le hi h.size) hS).trans (h.keep i hi hS)⟩

def dstOf (ops : Array Oper) (i : Nat) : Option Nat := (ops[i]?).bind (·.dst)
def direct (ops : Array Oper) (i j : Nat) : Bool :=
  match ops[i]? with
  | some o => o.after.any fun e => Region.binds .any e && Nat.beq e.on j
  | none => false
def isSel : Op → Bool | .select .. => true | _ => false
def drawOk (n kb : Nat) (ops : Array Oper) : Bool :=
  Nat.ble kb ops.size &&
  ((List.range ops.size).all fun i => match ops[i]? with
    | some o => dstOk n o.dst && o.after.all (fun e => !Region.binds .any e || Nat.blt e.on i) && !isSel o.op
    | none => false) &&
  ((List.range ops.size).all fun m => Nat.blt m kb || (List.range m).all fun i => (List.range (m + 1)).any fun k => Nat.blt i k && direct ops k i) &&
  ((List.range kb).all fun i => (List.range kb).all fun j => Nat.beq i j || match dstOf ops i, dstOf ops j with | some a, some b => !Nat.beq a b | _, _ => true) &&
  ((List.range kb).all fun i => match ops[i]? with
    | some o => (o.looksAt ops).all fun t => (List.range kb).all fun p => (match dstOf ops p with | some d => !Nat.beq d t | none => true) || direct ops i p
    | none => true)

structure DrawOk (n kb : Nat) (ops : Array Oper) : Prop where
  le : kb ≤ ops.size
  dst : ∀ (i : Nat) (o : Oper), ops[i]? = some o → dstOk n o.dst = true
  back : ∀ (i : Nat) (o : Oper) (e : Edge), ops[i]? = some o → e ∈ o.after → Region.binds .any e = true → e.on < i
  sel : ∀ (i : Nat) (o : Oper) cs b, ops[i]? = some o → o.op ≠ Op.select cs b
  tail : ∀ m, kb ≤ m → m < ops.size → ∀ i, i < m → ∃ k, k ≤ m ∧ i < k ∧ direct ops k i = true
  apart : ∀ i j d, i < kb → j < kb → dstOf ops i = some d → dstOf ops j = some d → i = j
  look : ∀ (i : Nat) (o : Oper) (t p : Nat), i < kb → ops[i]? = some o → t ∈ o.looksAt ops → p < kb → dstOf ops p = some t → direct ops i p = true

theorem nbeq_true {a b : Nat} : Nat.beq a b = true ↔ a = b := ⟨Nat.eq_of_beq_eq_true, fun h => h ▸ Nat.beq_refl a⟩
theorem nblt_true {a b : Nat} : Nat.blt a b = true ↔ a < b := by simp [Nat.blt_eq]

theorem drawOk_spec {n kb : Nat} {ops : Array Oper} (h : drawOk n kb ops = true) : DrawOk n kb ops := by
  unfold drawOk at h
  simp only [Bool.and_eq_true] at h
  obtain ⟨⟨⟨⟨h1, h2⟩, h3⟩, h4⟩, h5⟩ := h
  simp only [List.all_eq_true, List.mem_range] at h2 h3 h4 h5
  have lt : ∀ {i : Nat} {o : Oper}, ops[i]? = some o → i < ops.size := fun h => (Array.getElem?_eq_some_iff.1 h).1
  refine ⟨by simpa using h1, fun i o ho => ?_, fun i o e ho he hb => ?_, fun i o cs b ho heq => ?_, fun m hm hs i hi => ?_, fun i j d hi hj di dj => ?_, fun i o t p hi ho ht hp hd => ?_⟩
  · have := h2 i (lt ho); simp only [ho, Bool.and_eq_true] at this; exact this.1.1
  · have := h2 i (lt ho); simp only [ho, Bool.and_eq_true] at this
    have h' := Array.all_eq_true_iff_forall_mem.1 this.1.2 e he
    simp only [hb, Bool.not_true, Bool.false_or] at h'
    exact nblt_true.1 h'
  · have := h2 i (lt ho); simp only [ho, Bool.and_eq_true] at this
    simp [isSel, heq] at this
  · have := h3 m hs
    simp only [Bool.or_eq_true, nblt_true, List.all_eq_true, List.mem_range, List.any_eq_true, Bool.and_eq_true] at this
    obtain ⟨k, hk, h6, h7⟩ := (this.resolve_left (by omega)) i hi
    exact ⟨k, by omega, h6, h7⟩
  · have := h4 i hi j hj
    simp only [di, dj, Bool.or_eq_true, nbeq_true] at this
    rcases this with h | h
    · exact h
    · simp at h
  · have := h5 i hi
    simp only [ho, List.all_eq_true, List.mem_range] at this
    have := this t ht p hp
    simpa [hd, nbeq_true] using this

variable {P : Program} {n kb : Nat} {ops : Array Oper} {Q : Exit → Env → World → Prop} {s0 : Env} {w0 : World}

theorem direct_spec {i j : Nat} : direct ops i j = true ↔ ∃ o, ops[i]? = some o ∧ ∃ e ∈ o.after, Region.binds .any e = true ∧ e.on = j := by
  unfold direct
  cases h : ops[i]? with
  | none => simp
  | some o =>
    simp only [Array.any_eq_true', Bool.and_eq_true, nbeq_true, Option.some.injEq, exists_eq_left']

def Stp (P : Program) (ops : Array Oper) (o : Oper) (s : Env) (w : World) (K : Value → World → Prop) : Prop :=
  (Region.wanted o (yld ops s) = true → Ost P o s w K) ∧ (Region.wanted o (yld ops s) = false → K undef w)

def lst (listed : Array Bool) (i : Nat) : Prop := listed.getD i false = true

theorem ready_iff {listed : Array Bool} (hsz : listed.size = ops.size) {i : Nat} : i ∈ Region.ready .any ops listed ↔
    ¬ lst listed i ∧ ∃ o, ops[i]? = some o ∧ ∀ j, direct ops i j = true → lst listed j := by
  rw [mem_ready]
  constructor
  · rintro ⟨h0, o, ho, h⟩
    have hlt : i < listed.size := hsz ▸ (Array.getElem?_eq_some_iff.1 ho).1
    refine ⟨by simp [lst, hlt] at h0 ⊢; exact h0, o, ho, fun j hj => ?_⟩
    obtain ⟨o', ho', e, he, hb, rfl⟩ := direct_spec.1 hj
    rw [ho] at ho'; cases ho'
    exact h e he hb
  · rintro ⟨h0, o, ho, h⟩
    have hlt : i < listed.size := hsz ▸ (Array.getElem?_eq_some_iff.1 ho).1
    refine ⟨by simp [lst, hlt] at h0 ⊢; exact h0, o, ho, fun e he hb => h e.on (direct_spec.2 ⟨o, ho, e, he, hb, rfl⟩)⟩

theorem lst_set {listed : Array Bool} {i j : Nat} (hi : i < listed.size) : lst (listed.setIfInBounds i true) j ↔ j = i ∨ lst listed j := by
  unfold lst
  by_cases h : i = j
  · subst h; simp [hi]
  · rw [getD_set_ne false h]; simp [Ne.symm h]

theorem wanted_same {o : Oper} {s s' : Env} (h : ∀ t ∈ o.looksAt ops, s t = s' t) : Region.wanted o (yld ops s) = Region.wanted o (yld ops s') := by
  unfold Region.wanted
  cases hg : o.guard with
  | none => rfl
  | some gw =>
    obtain ⟨g, want⟩ := gw
    have : yld ops s g = yld ops s' g := by
      unfold yld
      cases hd : (ops[g]?).bind (·.dst) with
      | none => rfl
      | some d => simp only [h d (by simp [Oper.looksAt, hg, hd])]
    simp only [this]
theorem ev_same {o : Oper} {s s' : Env} (hs : ∀ cs b, o.op ≠ .select cs b) (h : ∀ t ∈ o.looksAt ops, s t = s' t) : execOp (ev s) o = execOp (ev s') o :=
  execOp_congr o hs fun x hx => by
    cases x with
    | tmp t => exact h t (List.mem_append_left _ (List.mem_filterMap.2 ⟨.tmp t, by simpa using hx, rfl⟩))
    | _ => rfl
theorem Stp.same {o : Oper} {s s' : Env} {w : World} {K : Value → World → Prop} (hs : ∀ cs b, o.op ≠ .select cs b) (h : ∀ t ∈ o.looksAt ops, s t = s' t)
    (k : Stp P ops o s w K) : Stp P ops o s' w K := by
  unfold Stp Ost at *
  rw [← wanted_same h, ← ev_same hs h]
  exact k
theorem Stp.wpOp {i : Nat} {o : Oper} {s : Env} {w : World} {K : Value → World → Prop} {a : Act} {D : List Deferred} {r : Option Nat} (hi : ops[i]? = some o) (hs : Sim n D s a) (h : Stp P ops o s w K)
    {next : Act → World → Prop} {Q' : Exit → Act → World → Prop} (hk : ∀ v w', K v w' → next (a.put o.dst v) w') : wpOpIn (Rnd r) 0 P ops Q' i next a w := by
  unfold Go.wpOpIn
  simp only [hi, hs.yielded]
  split
  · rename_i hw; exact (h.1 hw).wp hs hk
  · rename_i hw; exact ⟨fun _ _ => trivial, hk _ _ (h.2 (by simpa using hw))⟩

theorem tail_any {r : Option Nat} {D : List Deferred} (hok : DrawOk n kb ops) : ∀ (fuel m : Nat) (listed : Array Bool) (a : Act) (w : World), kb ≤ m → m + fuel = ops.size → listed.size = ops.size → (∀ j, lst listed j ↔ j < m) →
    wpListIn (Rnd r) 0 P ops (lift n D Q) (ops.toList.drop m) a w → wpAnyIn (Rnd r) 0 P .any ops (lift n D Q) fuel listed a w := by
  intro fuel
  induction fuel with
  | zero =>
    intro m listed a w hm hf hsz hl h
    have hr : Region.ready .any ops listed = [] := by
      apply List.eq_nil_iff_forall_not_mem.2
      intro i hi
      obtain ⟨h0, o, ho, _⟩ := (ready_iff hsz).1 hi
      have := (Array.getElem?_eq_some_iff.1 ho).1
      exact h0 ((hl i).2 (by omega))
    refine ⟨hr, ?_⟩
    rw [List.drop_eq_nil_of_le (by simp; omega)] at h
    exact h
  | succ fuel ih =>
    intro m listed a w hm hf hsz hl h
    have hlt : m < ops.size := by omega
    have hom : ops[m]? = some ops[m] := by simp [hlt]
    have hready : ∀ i, i ∈ Region.ready .any ops listed → i = m := by
      intro i hi
      obtain ⟨h0, o, ho, hp⟩ := (ready_iff hsz).1 hi
      have hi' := (Array.getElem?_eq_some_iff.1 ho).1
      have : ¬ i < m := fun hh => h0 ((hl i).2 hh)
      by_cases he : i = m
      · exact he
      · exfalso
        -- m is a predecessor of i, through its last direct one
        have key : ∀ q k, q + k = i → m ≤ k → k ≤ i → lst listed k → k < i → False := by
          intro q k _ hmk _ hlk _; exact absurd ((hl k).1 hlk) (by omega)
        obtain ⟨k, hk1, hk2, hk3⟩ := hok.tail i (by omega) hi' (i - 1) (by omega)
        have hk : k = i := by omega
        subst hk
        exact absurd ((hl (k - 1)).1 (hp _ hk3)) (by omega)
    have hin : m ∈ Region.ready .any ops listed := by
      refine (ready_iff hsz).2 ⟨fun hh => absurd ((hl m).1 hh) (by omega), ops[m], hom, fun j hj => (hl j).2 ?_⟩
      obtain ⟨o, ho, e, he, hb, rfl⟩ := direct_spec.1 hj
      exact hok.back m o e ho he hb
    refine ⟨fun h0 => (by rw [h0] at hin; cases hin), fun i hi => ?_⟩
    obtain rfl := hready i hi
    have hd : ops.toList.drop i = ops[i] :: ops.toList.drop (i + 1) := by
      rw [List.drop_eq_getElem_cons (by simpa using hlt)]; simp
    rw [hd] at h
    have hl' : ∀ j, lst (listed.setIfInBounds i true) j ↔ j < i + 1 := fun j => by
      rw [lst_set (by omega), hl]; omega
    have step : ∀ a w, wpListIn (Rnd r) 0 P ops (lift n D Q) (ops.toList.drop (i + 1)) a w → wpAnyIn (Rnd r) 0 P .any ops (lift n D Q) fuel (listed.setIfInBounds i true) a w := fun a w h =>
      ih (i + 1) _ a w (by omega) (by omega) (by simpa using hsz) hl' h
    unfold wpListIn at h
    unfold Go.wpOpIn
    simp only [hom]
    split
    · rename_i hw; rw [if_pos hw] at h; exact Oper.wpIn_mono step h
    · rename_i hw; rw [if_neg hw] at h; exact ⟨h.1, step _ _ h.2⟩

abbrev GF := Nat → Option (Value → World → Prop)
def Fact (G : GF) (xs : Nat → Value) (p : Nat) (v : Value) (w : World) : Prop :=
  match G p with | some g => g v w | none => v = xs p
def Out (ops : Array Oper) (kb : Nat) (s0 s : Env) : Prop := ∀ t, (∀ j, j < kb → dstOf ops j ≠ some t) → s t = s0 t

structure Inv (P : Program) (n kb : Nat) (D : List Deferred) (ops : Array Oper) (G : GF) (xs : Nat → Value) (s0 : Env) (w0 : World) (listed : Array Bool) (a : Act) (w : World) : Prop where
  sz : listed.size = ops.size
  ex : ∃ s, Sim n D s a ∧ Ext w0 w ∧ Out ops kb s0 s ∧ ∀ p d, p < kb → lst listed p → dstOf ops p = some d → Fact G xs p (s d) w
  body : ∀ j, lst listed j → j < kb
  down : ∀ i j, lst listed i → direct ops i j = true → lst listed j

def unl (kb : Nat) (listed : Array Bool) : Nat := ((List.range kb).filter fun i => !listed.getD i false).length

theorem Wc.draw_core {G : GF} {xs : Nat → Value} {id : Nat} (hok : DrawOk n kb ops) (hm : P.follows .mixedOrders = true)
    (hst : ∀ i g, G i = some g → ∀ v w w', g v w → Ext w w' → g v w')
    (hob : ∀ (i : Nat) (o : Oper), i < kb → ops[i]? = some o → ∀ s w, Ext w0 w → Out ops kb s0 s → (∀ p d, p < kb → direct ops i p = true → dstOf ops p = some d → Fact G xs p (s d) w) →
      Stp P ops o s w fun v w' => Ext w w' ∧ (o.dst.isSome = true → Fact G xs i v w'))
    (hfin : ∀ s w, Ext w0 w → Out ops kb s0 s → (∀ p d, p < kb → dstOf ops p = some d → Fact G xs p (s d) w) → WL P n ops Q (ops.toList.drop kb) s w) :
    Wc P n (.region id ops true) Q s0 w0 := by
  intro r D a0 hs0
  refine wpIn_region_any hm ?_
  have fst : ∀ p v w w', Fact G xs p v w → Ext w w' → Fact G xs p v w' := fun p v w w' h hE => by
    unfold Fact at *
    cases hg : G p with
    | none => simpa [hg] using h
    | some g => simp only [hg] at h ⊢; exact hst p g hg _ _ _ h hE
  have main : ∀ (u : Nat) (listed : Array Bool) (a : Act) (w : World), unl kb listed = u → Inv P n kb D ops G xs s0 w0 listed a w →
      wpAnyIn (Rnd r) 0 P .any ops (lift n D Q) (u + (ops.size - kb)) listed a w := by
    intro u
    induction u with
    | zero =>
      intro listed a w hu hI
      obtain ⟨s, hs, hE, hO, hF⟩ := hI.ex
      have hall : ∀ j, j < kb → lst listed j := fun j hj => by
        unfold unl at hu
        have := List.eq_nil_of_length_eq_zero hu
        rw [List.filter_eq_nil_iff] at this
        have := this j (by simpa using hj)
        simpa [lst] using this
      have := hok.le
      refine tail_any hok _ kb listed a w (Nat.le_refl _) (by omega) hI.sz (fun j => ⟨hI.body j, hall j⟩) ?_
      exact hfin s w hE hO (fun p d hp hd => hF p d hp (hall p hp) hd) r D a hs
    | succ u ih =>
      intro listed a w hu hI
      obtain ⟨s, hs, hE, hO, hF⟩ := hI.ex
      have hkb := hok.le
      -- the least one that is not listed is ready
      have hex : ∃ i, i < kb ∧ ¬ lst listed i := by
        refine Classical.byContradiction fun hn => ?_
        have : unl kb listed = 0 := by
          unfold unl
          rw [List.length_eq_zero_iff, List.filter_eq_nil_iff]
          intro i hi
          have hi' : i < kb := by simpa using hi
          have : lst listed i := Classical.byContradiction fun h => hn ⟨i, hi', h⟩
          simpa [lst] using this
        omega
      have hne : Region.ready .any ops listed ≠ [] := by
        obtain ⟨i, hi, hni⟩ := hex
        have : ∀ m, m < kb → ¬ lst listed m → ∃ i, i ∈ Region.ready .any ops listed := by
          intro m
          induction m using Nat.strongRecOn with
          | _ m ihm =>
            intro hm hnm
            by_cases hp : ∀ j, direct ops m j = true → lst listed j
            · exact ⟨m, (ready_iff hI.sz).2 ⟨hnm, ops[m], by simp [show m < ops.size by omega], hp⟩⟩
            · have ⟨j, hj⟩ := Classical.not_forall.1 hp
              have ⟨hj1, hj2⟩ := Classical.not_imp.1 hj
              obtain ⟨o, ho, e, he, hb, rfl⟩ := direct_spec.1 hj1
              have hlt := hok.back m o e ho he hb
              exact ihm e.on hlt (by omega) hj2
        obtain ⟨i, hi⟩ := this i hi hni
        intro h0; rw [h0] at hi; cases hi
      rw [show u + 1 + (ops.size - kb) = (u + (ops.size - kb)) + 1 by omega]
      refine ⟨fun h0 => absurd h0 hne, fun i hi => ?_⟩
      obtain ⟨h0, o, ho, hp⟩ := (ready_iff hI.sz).1 hi
      have hisz := (Array.getElem?_eq_some_iff.1 ho).1
      have hikb : i < kb := by
        refine Classical.byContradiction fun hge => ?_
        obtain ⟨j, hj, hnj⟩ := hex
        -- everything ahead of i is a predecessor of i
        have key : ∀ q, ∀ j, q + j = i → j < i → lst listed j := by
          intro q
          induction q using Nat.strongRecOn with
          | _ q ihq =>
            intro j hq hji
            obtain ⟨k, hk1, hk2, hk3⟩ := hok.tail i (by omega) hisz j hji
            by_cases hki : k = i
            · subst hki; exact hp j hk3
            · exact hI.down k j (ihq (i - k) (by omega) k (by omega) (by omega)) hk3
        exact hnj (key (i - j) j (by omega) (by omega))
      have hdst : o.dst = dstOf ops i := by simp [dstOf, ho]
      have hstep := hob i o hikb ho s w hE hO (fun p d hpk hd1 hd2 => hF p d hpk (hp p hd1) hd2)
      refine hstep.wpOp ho hs fun v w' ⟨hE', hf⟩ => ?_
      refine ih _ _ _ ?_ ⟨by simpa using hI.sz, ⟨_, hs.put (hok.dst i o ho) v, hE.trans hE', ?_, ?_⟩, ?_, ?_⟩
      · -- one less is left
        have : unl kb (listed.setIfInBounds i true) + 1 = unl kb listed := by
          unfold unl
          have hi1 : (!listed.getD i false) = true := by simpa [lst] using h0
          have e1 : ((List.range kb).filter fun j => !(listed.setIfInBounds i true).getD j false) = ((List.range kb).filter fun j => !listed.getD j false).filter (fun j => !Nat.beq j i) := by
            rw [List.filter_filter]
            apply List.filter_congr
            intro j _
            by_cases hj : j = i
            · subst hj
              have hlt : j < listed.size := hI.sz ▸ hisz
              simp [hlt]
            · rw [getD_set_ne false (Ne.symm hj)]; simp [nbeq hj]
          rw [e1]
          have hmem : i ∈ (List.range kb).filter fun j => !listed.getD j false := by
            rw [List.mem_filter]; exact ⟨by simpa using hikb, hi1⟩
          have hnd : ((List.range kb).filter fun j => !listed.getD j false).Nodup := List.Pairwise.filter _ List.nodup_range
          have e2 : (((List.range kb).filter fun j => !listed.getD j false).filter fun j => !Nat.beq j i) = ((List.range kb).filter fun j => !listed.getD j false).erase i := by
            rw [hnd.erase_eq_filter]
            apply List.filter_congr
            intro j _
            by_cases hj : j = i
            · subst hj; simp
            · simp [nbeq hj, hj]
          rw [e2, List.length_erase_of_mem hmem]
          have := List.length_pos_of_mem hmem
          omega
        omega
      · intro t ht
        have hne' : o.dst ≠ some t := by rw [hdst]; exact ht i hikb
        have : putv s o.dst v t = s t := by
          cases hd : o.dst with
          | none => rfl
          | some d => exact upd_ne (fun e => hne' (by rw [hd, e]))
        rw [this]; exact hO t ht
      · intro p d hpk hl hd
        rcases (lst_set (hI.sz ▸ hisz)).1 hl with rfl | hl
        · have : o.dst = some d := hdst.trans hd
          rw [this]
          simp only [putv, upd_same]
          exact hf (by rw [this]; rfl)
        · have hpi : p ≠ i := fun e => h0 (e ▸ hl)
          have hne' : o.dst ≠ some d := fun e => hpi (hok.apart p i d hpk hikb hd (hdst ▸ e))
          have : putv s o.dst v d = s d := by
            cases hd' : o.dst with
            | none => rfl
            | some d' => exact upd_ne (fun e => hne' (by rw [hd', e]))
          rw [this]
          exact fst _ _ _ _ (hF p d hpk hl hd) hE'
      · intro j hj
        rcases (lst_set (hI.sz ▸ hisz)).1 hj with rfl | hj
        · exact hikb
        · exact hI.body j hj
      · intro k j hk hd
        rw [lst_set (hI.sz ▸ hisz)] at hk ⊢
        rcases hk with rfl | hk
        · exact .inr (hp j hd)
        · exact .inr (hI.down k j hk hd)
  have hfuel : ops.size = kb + (ops.size - kb) := by have := hok.le; omega
  have h0 : ∀ j, ¬ lst (Array.replicate ops.size false) j := fun j => by
    simp [lst, Array.getElem?_replicate]
    split <;> rfl
  have hu : unl kb (Array.replicate ops.size false) = kb := by
    unfold unl
    rw [List.filter_eq_self.2]
    · simp
    · intro j _; have := h0 j; simpa [lst] using this
  have := main kb (Array.replicate ops.size false) a0 { w0 with drawn := w0.drawn + 1 } hu
    ⟨by simp, ⟨s0, hs0, ⟨rfl, rfl, rfl, Nat.le_refl _, fun _ _ _ => rfl⟩, fun _ _ => rfl, fun p d _ hl => absurd hl (h0 p)⟩, fun j hj => absurd hj (h0 j), fun i j hi => absurd hi (h0 i)⟩
  rw [← hfuel] at this
  exact this
end draw
section draw2
variable {P : Program} {n kb : Nat} {Q : Exit → Env → World → Prop} {s0 : Env} {w0 : World}
def PFs (ops : Array Oper) (G : GF) (i : Nat) (vs : Nat → Value) (w : World) : Prop := ∀ p g, direct ops i p = true → G p = some g → (dstOf ops p).isSome = true → g (vs p) w
def RGs (P : Program) (ops : Array Oper) (G : GF) (w0 : World) (Fin : ((Nat → Value) → Env) → Prop) : Nat → List Oper → ((Nat → Value) → Env) → Prop
  | _, [], sk => Fin sk
  | i, o :: rest, sk => match G i with
    | some g => (∀ vs w, Ext w0 w → PFs ops G i vs w → Stp P ops o (sk vs) w fun v w' => Ext w w' ∧ g v w') ∧ RGs P ops G w0 Fin (i + 1) rest (fun vs => putv (sk vs) o.dst (vs i))
    | none => ∃ X, (∀ vs w, Ext w0 w → PFs ops G i vs w → Stp P ops o (sk vs) w fun v w' => Ext w w' ∧ (o.dst.isSome = true → v = X)) ∧ RGs P ops G w0 Fin (i + 1) rest (fun vs => putv (sk vs) o.dst X)
def Val (G : GF) (xs vs : Nat → Value) (p : Nat) : Value := match G p with | some _ => vs p | none => xs p
def En (ops : Array Oper) (G : GF) (s0 : Env) (xs : Nat → Value) : Nat → (Nat → Value) → Env
  | 0, _ => s0
  | j + 1, vs => putv (En ops G s0 xs j vs) (dstOf ops j) (Val G xs vs j)
theorem En_congr {ops : Array Oper} {G : GF} {xs ys : Nat → Value} : ∀ i, (∀ p, p < i → xs p = ys p) → En ops G s0 xs i = En ops G s0 ys i := by
  intro i
  induction i with
  | zero => intro _; rfl
  | succ i ih =>
    intro h
    funext vs
    simp only [En, ih fun p hp => h p (by omega)]
    have : Val G xs vs i = Val G ys vs i := by unfold Val; split <;> first | rfl | exact h i (by omega)
    rw [this]
theorem RGs_tell {ops : Array Oper} {G : GF} {Fin : ((Nat → Value) → Env) → Prop} : ∀ (rest : List Oper) (i : Nat) (xs : Nat → Value),
    (∀ j, j < rest.length → rest[j]? = ops[i + j]?) → RGs P ops G w0 Fin i rest (En ops G s0 xs i) →
    ∃ ys : Nat → Value, (∀ p, p < i → ys p = xs p) ∧ (∀ k o, i ≤ k → k < i + rest.length → ops[k]? = some o → ∀ vs w, Ext w0 w → PFs ops G k vs w →
      Stp P ops o (En ops G s0 ys k vs) w fun v w' => Ext w w' ∧ (o.dst.isSome = true → Fact G ys k v w')) ∧ Fin (En ops G s0 ys (i + rest.length)) := by
  intro rest
  induction rest with
  | nil => intro i xs _ h; exact ⟨xs, fun _ _ => rfl, fun k o h1 h2 => absurd h2 (by simp; omega), by simpa [RGs] using h⟩
  | cons o rest ih =>
    intro i xs hops h
    have ho : ops[i]? = some o := by have := hops 0 (by simp); simpa using this.symm
    have hd : dstOf ops i = o.dst := by simp [dstOf, ho]
    have hops' : ∀ j, j < rest.length → rest[j]? = ops[i + 1 + j]? := fun j hj => by
      have := hops (j + 1) (by simpa using hj)
      simp only [List.getElem?_cons_succ] at this
      rw [this]; congr 1; omega
    unfold RGs at h
    cases hg : G i with
    | some g =>
      simp only [hg] at h
      obtain ⟨h1, h2⟩ := h
      have he : (fun vs => putv (En ops G s0 xs i vs) o.dst (vs i)) = En ops G s0 xs (i + 1) := by
        funext vs; simp [En, Val, hg, hd]
      rw [he] at h2
      obtain ⟨ys, hy1, hy2, hy3⟩ := ih (i + 1) xs hops' h2
      refine ⟨ys, fun p hp => hy1 p (by omega), fun k o' hk1 hk2 ho' vs w hE hP => ?_, by rw [show i + (o :: rest).length = i + 1 + rest.length by simp; omega]; exact hy3⟩
      by_cases hk : k = i
      · subst hk
        rw [ho] at ho'; cases ho'
        rw [En_congr k fun p hp => hy1 p (by omega)]
        have := h1 vs w hE hP
        refine ⟨fun hw => (this.1 hw).mono fun v w' ⟨a, b⟩ => ⟨a, fun _ => by simp only [Fact, hg]; exact b⟩, fun hw => ⟨(this.2 hw).1, fun _ => by simp only [Fact, hg]; exact (this.2 hw).2⟩⟩
      · exact hy2 k o' (by omega) (by simp at hk2; omega) ho' vs w hE hP
    | none =>
      simp only [hg] at h
      obtain ⟨X, h1, h2⟩ := h
      let xs' : Nat → Value := fun p => if p = i then X else xs p
      have hx : ∀ p, p < i → xs' p = xs p := fun p hp => by simp [xs', show p ≠ i by omega]
      have he : (fun vs => putv (En ops G s0 xs i vs) o.dst X) = En ops G s0 xs' (i + 1) := by
        funext vs; simp [En, Val, hg, hd, xs', En_congr (G := G) (s0 := s0) (ops := ops) i hx]
      rw [he] at h2
      obtain ⟨ys, hy1, hy2, hy3⟩ := ih (i + 1) xs' hops' h2
      have hyi : ys i = X := by rw [hy1 i (by omega)]; simp [xs']
      refine ⟨ys, fun p hp => (hy1 p (by omega)).trans (hx p hp), fun k o' hk1 hk2 ho' vs w hE hP => ?_, by rw [show i + (o :: rest).length = i + 1 + rest.length by simp; omega]; exact hy3⟩
      by_cases hk : k = i
      · subst hk
        rw [ho] at ho'; cases ho'
        rw [En_congr k fun p hp => (hy1 p (by omega)).trans (hx p hp)]
        have := h1 vs w hE hP
        refine ⟨fun hw => (this.1 hw).mono fun v w' ⟨a, b⟩ => ⟨a, fun c => by simp only [Fact, hg, hyi]; exact b c⟩, fun hw => ⟨(this.2 hw).1, fun c => by simp only [Fact, hg, hyi]; exact (this.2 hw).2 c⟩⟩
      · exact hy2 k o' (by omega) (by simp at hk2; omega) ho' vs w hE hP

theorem En_at {ops : Array Oper} {G : GF} {xs vs : Nat → Value} (hok : DrawOk n kb ops) : ∀ i, i ≤ kb →
    (∀ t, (∀ j, j < i → dstOf ops j ≠ some t) → En ops G s0 xs i vs t = s0 t) ∧ (∀ p d, p < i → dstOf ops p = some d → En ops G s0 xs i vs d = Val G xs vs p) := by
  intro i
  induction i with
  | zero => exact fun _ => ⟨fun _ _ => rfl, fun p d hp => absurd hp (by omega)⟩
  | succ i ih =>
    intro hi
    obtain ⟨ih1, ih2⟩ := ih (by omega)
    refine ⟨fun t ht => ?_, fun p d hp hd => ?_⟩
    · simp only [En]
      have : dstOf ops i ≠ some t := ht i (by omega)
      cases hd : dstOf ops i with
      | none => exact ih1 t fun j hj => ht j (by omega)
      | some d =>
        simp only [putv]
        rw [upd_ne (fun e => this (by rw [hd, e]))]
        exact ih1 t fun j hj => ht j (by omega)
    · simp only [En]
      by_cases hpi : p = i
      · subst hpi; rw [hd]; simp only [putv, upd_same]
      · cases hd' : dstOf ops i with
        | none => exact ih2 p d (by omega) hd
        | some d' =>
          simp only [putv]
          rw [upd_ne (fun e => hpi (hok.apart p i d (by omega) (by omega) hd (by rw [hd', e])))]
          exact ih2 p d (by omega) hd

theorem Wc.draw {G : GF} (kb : Nat) {id : Nat} {l : List Oper} (hok : drawOk n kb l.toArray = true) (hm : P.follows .mixedOrders = true)
    (hst : ∀ i g, G i = some g → ∀ v w w', g v w → Ext w w' → g v w')
    (h : RGs P l.toArray G w0 (fun sk => ∀ vs w, Ext w0 w → (∀ p g, p < kb → G p = some g → (dstOf l.toArray p).isSome = true → g (vs p) w) → WL P n l.toArray Q (l.drop kb) (sk vs) w) 0 (l.take kb) (fun _ => s0)) :
    Wc P n (.region id l.toArray true) Q s0 w0 := by
  have hok' := drawOk_spec hok
  have hlen : (l.take kb).length = kb := by have := hok'.le; simp at this; simp [this]
  obtain ⟨xs, _, hx, hF⟩ := RGs_tell (ops := l.toArray) (s0 := s0) (l.take kb) 0 (fun _ => undef) (fun j hj => by
    rw [hlen] at hj
    rw [List.getElem?_take, if_pos hj]; simp) (by simpa [En] using h)
  rw [hlen, Nat.zero_add] at hF
  let vsOf : Env → Nat → Value := fun s p => match dstOf l.toArray p with | some d => s d | none => undef
  have vsAt : ∀ s p d, dstOf l.toArray p = some d → vsOf s p = s d := fun s p d hd => by simp [vsOf, hd]
  refine Wc.draw_core (G := G) (xs := xs) hok' hm hst (fun i o hi ho s w hE hO hp => ?_) (fun s w hE hO hp => ?_)
  · have hP : PFs l.toArray G i (vsOf s) w := fun p g hd hg hds => by
      obtain ⟨o', ho', e, he, hb, rfl⟩ := direct_spec.1 hd
      have hlt := hok'.back i o' e ho' he hb
      obtain ⟨d, hdd⟩ := Option.isSome_iff_exists.1 hds
      have := hp e.on d (by omega) hd hdd
      simp only [Fact, hg] at this
      rw [vsAt s _ d hdd]; exact this
    have := hx i o (by omega) (by omega) ho (vsOf s) w hE hP
    refine this.same (fun cs b => hok'.sel i o cs b ho) fun t ht => ?_
    obtain ⟨e1, e2⟩ := En_at (s0 := s0) (G := G) (xs := xs) (vs := vsOf s) hok' i (by omega)
    by_cases hex : ∃ p, p < kb ∧ dstOf l.toArray p = some t
    · obtain ⟨p, hpk, hpd⟩ := hex
      have hdir := hok'.look i o t p hi ho ht hpk hpd
      obtain ⟨o', ho', e, he, hb, rfl⟩ := direct_spec.1 hdir
      have hlt := hok'.back i o' e ho' he hb
      rw [e2 e.on t hlt hpd]
      have := hp e.on t hpk hdir hpd
      unfold Fact at this
      unfold Val
      cases hg : G e.on with
      | none => simp only [hg] at this ⊢; exact this.symm
      | some g => simp only []; exact vsAt s _ t hpd
    · have hnot : ∀ j, j < kb → dstOf l.toArray j ≠ some t := fun j hj hjd => hex ⟨j, hj, hjd⟩
      rw [e1 t fun j hj => hnot j (by omega)]
      exact (hO t hnot).symm
  · have hs : s = En l.toArray G s0 xs kb (vsOf s) := by
      funext t
      obtain ⟨e1, e2⟩ := En_at (s0 := s0) (G := G) (xs := xs) (vs := vsOf s) hok' kb (Nat.le_refl _)
      by_cases hex : ∃ p, p < kb ∧ dstOf l.toArray p = some t
      · obtain ⟨p, hpk, hpd⟩ := hex
        rw [e2 p t hpk hpd]
        have := hp p t hpk hpd
        unfold Fact at this
        unfold Val
        cases hg : G p with
        | none => simp only [hg] at this ⊢; exact this
        | some g => simp only []; exact (vsAt s _ t hpd).symm
      · have hnot : ∀ j, j < kb → dstOf l.toArray j ≠ some t := fun j hj hjd => hex ⟨j, hj, hjd⟩
        rw [e1 t hnot]; exact hO t hnot
    have := hF (vsOf s) w hE (fun p g hpk hg hds => by
      obtain ⟨d, hd⟩ := Option.isSome_iff_exists.1 hds
      have := hp p d hpk hd
      simp only [Fact, hg] at this
      rw [vsAt s _ d hd]; exact this)
    rw [← hs] at this
    simpa using this
end draw2
-- exits
section
variable {s : Env} {w : World} {K' : Env → World → Prop} {Q : Exit → Env → World → Prop}
theorem then_n (h : K' s w) : Then K' Q .normal s w := h
theorem then_r (h : Q .ret s w) : Then K' Q .ret s w := h
theorem then_e {i : Nat} (h : Q (.exit i) s w) : Then K' Q (.exit i) s w := h
theorem inb_n {i : Nat} (h : Q .normal s w) : InBlock i Q .normal s w := h
theorem inb_r {i : Nat} (h : Q .ret s w) : InBlock i Q .ret s w := h
theorem inb_e {i j : Nat} (hb : Nat.beq j i = true) (h : Q .normal s w) : InBlock i Q (.exit j) s w := by simp only [InBlock, hb, cond_true]; exact h
theorem inb_o {i j : Nat} (hb : Nat.beq j i = false) (h : Q (.exit j) s w) : InBlock i Q (.exit j) s w := by simp only [InBlock, hb, cond_false]; exact h
end

attribute [irreducible] Then InBlock Wc WL Ost fnPost RGs
end Go.Tg

