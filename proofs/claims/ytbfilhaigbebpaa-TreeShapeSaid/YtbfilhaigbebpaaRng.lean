/- A range over a function: what an iterator promises, a call of yield, and the loop itself with what its body owns. -/
import Derived.RangeFuncRecord
import Derived.Test.YtbfilhaigbebpaaMp
set_option linter.unusedVariables false
set_option linter.unusedSectionVars false
namespace Go.Tg
open Go
def YSp (P : Program) (l : Nat) (args : Array Value) (W : World) (S : List Nat) (g : FH) (R : Value → FH → List HA → Prop) : Prop :=
  ∃ fn tmps assign body, (Instr.yield l args).run P W = .ok (.round l fn tmps assign body) W ∧
    RoundIn Fence.wide 0 P l fn tmps assign body W (Ret fun v w' => ∃ h' L', St W S g h' L' w' ∧ R v h' L')
def ItSp (P : Program) (gf : Nat) (lb : List Value) (h : FH) {α : Type} (enc : α → Value) (xs : List α) : Prop :=
  ∀ (l : Nat) (J X : List α → HA → Prop) (g : FH) (A : HA) (W : World), FLe h g → St W A.fp g g [A] W → J [] A →
    (∀ pre x A g W, FLe h g → pre ++ [x] <+: xs → J pre A → St W A.fp g g [A] W →
      YSp P l [enc x].toArray W A.fp g fun v _ L' => ∃ A', L' = [A'] ∧ ((v = .bool true ∧ J (pre ++ [x]) A') ∨ (v = .bool false ∧ X (pre ++ [x]) A'))) →
    Spec P gf (.func (.yield l) #[] #[] :: lb).toArray W A.fp g fun _ _ L' => ∃ A', L' = [A'] ∧ (J xs A' ∨ ∃ pre, pre <+: xs ∧ X pre A')
section
variable {P : Program} {o : Oper} {s : Env} {w : World} {K : Value → World → Prop} {ws : World} {S : List Nat} {h0 h : FH} {L : List HA}
theorem ost_Y {x : Operand} {l : Nat} {args : List Operand} {at_ : Array TypeId} {vs : List Value} {R : Value → FH → List HA → Prop} {i : Nat} {A : HA} (H : St ws S h0 h L w) (ho : o.op = .call { callee := .value x, args := args.toArray, argTypes := at_ }) (hx : ev s x = .func (.yield l) #[] #[])
    (hv : mapEv s args = vs) (hi : L[i]? = some A) (hC : St w A.fp h h [A] w → YSp P l vs.toArray w A.fp h R) (hk : ∀ v w' h' L', R v h' L' → FLe h h' → St ws S h0 h' (L' ++ L.eraseIdx i) w' → K v w') : Ost P o s w K := by
  obtain ⟨fn, tmps, assign, body, hy, hr⟩ := hC (H.give hi H.sat fun k hk => (H.own i A hi k hk).1)
  unfold Ost
  have : (execOp (ev s) o).run P w = .ok (.round l fn tmps assign body) w := by
    simp only [execOp, ho, resolve, Sem.run_bind, Deferred.ofValue, hx, Sem.run_pure, Result.andThen_ok, invoke, mapEv_eq]
    rw [show (#[] : Array Value) ++ (mapEv s args).toArray = vs.toArray by rw [← hv]; simp]
    exact hy
  rw [this]
  exact RoundIn.mono hr fun e w' ⟨v, he, h', L', hs, hR⟩ => by
    obtain ⟨h1, h2⟩ := H.call1h hi hs
    exact ⟨v, he, hk v w' h' L' hR h2 h1⟩
theorem fr_putObj (b : Nat) (o' : Obj) : Fr [b] w (w.putObj b o') :=
  ⟨rfl, rfl, rfl, by simp, fun k hk hn => World.putObj_heap_other fun e => hn (by simp [e])⟩
theorem St.putBlk (H : St ws S h0 h L w) {i b : Nat} {ob : Obj} (hi : L[i]? = some (.blk b ob)) (o' : Obj) : St ws S h0 h (L.set i (.blk b o')) (w.putObj b o') := by
  have hb : w.heap[b]? = some ob := H.ok i _ hi
  exact H.repl hi (fr_putObj b o') (World.putObj_heap_same (lt_of_some hb)) fun k hk => .inl hk
end
section
variable {P : Program} {n : Nat} {s : Env} {w : World}
def WcD (P : Program) (n : Nat) (D : List Deferred) (c : Code) (Q : List Deferred → Exit → Env → World → Prop) (s : Env) (w : World) : Prop :=
  ∀ a, Sim n D s a → c.wpIn Fence.wide 0 P (fun e a' w' => ∃ s' D', Sim n D' s' a' ∧ Q D' e s' w') a w
variable {D : List Deferred} {Q : List Deferred → Exit → Env → World → Prop}
theorem WcD.of {c : Code} (h : Wc P n c (Q D) s w) : WcD P n D c Q s w := fun a hs => by
  unfold Wc at h
  exact wpIn_mono (h none D a hs) fun e a' w' ⟨s', h1, h2⟩ => ⟨s', D, h1, h2⟩
def ThenD (K : List Deferred → Env → World → Prop) (Q : List Deferred → Exit → Env → World → Prop) : List Deferred → Exit → Env → World → Prop
  | D, .normal, s, w => K D s w
  | D, e, s, w => Q D e s w
theorem WcD.seq {x y : Code} (h : WcD P n D x (ThenD (fun D' s' w' => WcD P n D' y Q s' w') Q) s w) : WcD P n D (.seq x y) Q s w := fun a hs =>
  wpIn_seq (wpIn_mono (h a hs) fun e a' w' ⟨s', D', h1, h2⟩ => by
    cases e <;> first | exact ⟨s', D', h1, h2⟩ | exact h2 _ h1)
theorem WcD.seqW {x y : Code} (h : Wc P n x (Then (WcD P n D y Q) (Q D)) s w) : WcD P n D (.seq x y) Q s w :=
  WcD.seq (WcD.of (h.mono fun e s' w' hq => by
    unfold Then at hq
    cases e <;> exact hq))
def InBlockD (id : Nat) (Q : List Deferred → Exit → Env → World → Prop) : List Deferred → Exit → Env → World → Prop
  | D, .exit id', s, w => if id' = id then Q D .normal s w else Q D (.exit id') s w
  | D, e, s, w => Q D e s w
theorem WcD.block {id : Nat} {c : Code} (h : WcD P n D c (InBlockD id Q) s w) : WcD P n D (.block id c) Q s w := fun a hs =>
  wpIn_block (wpIn_mono (h a hs) fun e a' w' ⟨s', D', h1, h2⟩ => by
    cases e with
    | exit id' =>
      simp only [Exit.inBlock]
      simp only [InBlockD] at h2
      by_cases hid : id' = id
      · rw [if_pos hid] at h2; rw [if_pos hid]; exact ⟨s', D', h1, h2⟩
      · rw [if_neg hid] at h2; rw [if_neg hid]; exact ⟨s', D', h1, h2⟩
    | _ => exact ⟨s', D', h1, h2⟩)
theorem WcD.mono {c : Code} {Q' : List Deferred → Exit → Env → World → Prop} (h : WcD P n D c Q s w) (hq : ∀ D e s w, Q D e s w → Q' D e s w) : WcD P n D c Q' s w :=
  fun a hs => wpIn_mono (h a hs) fun _ _ _ ⟨s', D', h1, h2⟩ => ⟨s', D', h1, hq _ _ _ _ h2⟩
def mark (k : Nat) : Deferred := { target := .collected k, args := #[] }
def fnPostD (P : Program) (fn : Func) (R : Value → World → Prop) (D : List Deferred) (e : Exit) (s : Env) (w : World) : Prop :=
  (D = [] ∧ fnPost P fn R e s w) ∨ ∃ k, D = [mark k] ∧ w.heap[k]? = some (.deferred (some [])) ∧ fnPost P fn R e s (w.putObj k (.deferred none))
theorem calls_ofD {f : Nat} {fn : Func} {c : Code} {args : Array Value} {R : Value → World → Prop} (hf : P.funcs[f]? = some fn) (hb : fn.body = some c)
    (hn : fn.ntmps = n) (ha : args.size ≤ n) (h : WcD P n [] c (fnPostD P fn R) (argEnv args) w) : Calls P f args w (Ret R) := by
  refine (callsIn_wide (n := 0)).1 (callsIn_of_wp_marks hf hb trivial ?_ rfl)
  have hs : Sim n [] (argEnv args) { tmps := args ++ Array.replicate (fn.ntmps - args.size) undef, defers := [] } := by
    refine ⟨rfl, by simp; omega, fun i => ?_⟩
    simp only [argEnv, Array.getD_eq_getD_getElem?]
    by_cases hi : i < args.size
    · simp [Array.getElem?_append_left hi]
    · rw [Array.getElem?_append_right (by omega)]
      rw [Array.getElem?_eq_none (by omega : args.size ≤ i)]
      by_cases h2 : i - args.size < fn.ntmps - args.size
      · simp [h2]
      · simp [h2]
  refine wpIn_mono (h _ hs) ?_
  rintro e a' w' ⟨s', D', hs', hq⟩
  have key : ∀ e, (e = .normal ∨ e = .ret) → fnPostD P fn R D' e s' w' → LeavesInM Fence.wide 0 P fn a'.tmps (Ret R) a'.defers .returning w' := by
    intro e he hq
    rcases hq with ⟨hD, hq⟩ | ⟨k, hD, hk, hq⟩
    · rw [hs'.df, hD]
      unfold fnPost at hq
      rcases he with rfl | rfl
      all_goals
        obtain ⟨v, h1, h2⟩ := hq
        exact ⟨_, h1 _ hs'.eq, v, rfl, h2⟩
    · rw [hs'.df, hD]
      unfold fnPost at hq
      refine ⟨by simp, .inl ⟨k, _, rfl, run_takeDeferred hk, ?_⟩⟩
      rcases he with rfl | rfl
      all_goals
        obtain ⟨v, h1, h2⟩ := hq
        exact ⟨_, h1 _ hs'.eq, v, rfl, h2⟩
  cases e with
  | normal => exact key _ (.inl rfl) hq
  | ret => exact key _ (.inr rfl) hq
  | exit _ => unfold fnPostD fnPost at hq; rcases hq with ⟨_, hq⟩ | ⟨_, _, _, hq⟩ <;> exact hq.elim
  | goto _ => unfold fnPostD fnPost at hq; rcases hq with ⟨_, hq⟩ | ⟨_, _, _, hq⟩ <;> exact hq.elim
  | panic _ => unfold fnPostD fnPost at hq; rcases hq with ⟨_, hq⟩ | ⟨_, _, _, hq⟩ <;> exact hq.elim
  | outgrown => unfold fnPostD fnPost at hq; rcases hq with ⟨_, hq⟩ | ⟨_, _, _, hq⟩ <;> exact hq.elim
theorem mid_at (L : List HA) (A B : HA) : (L ++ [A, B])[L.length]? = some A := by simp
def RndPost {α : Type} (ws : World) (S : List Nat) (g : FH) (T : List HA) (I : List α → List HA → Prop) (X : Exit → List α → List HA → Prop) (y : List α) : Exit → Env → World → Prop := fun e _ W =>
  ∃ L' g', St ws S g g' (L' ++ T) W ∧ (match e with | .normal => I y L' | .ret => X .ret y L' | .exit id => X (.exit id) y L' | _ => False)
section
variable {α : Type} {ws W : World} {S : List Nat} {g g' : FH} {T L' : List HA} {I : List α → List HA → Prop} {X : Exit → List α → List HA → Prop} {y : List α}
theorem RndPost.nn (H : St ws S g g' (L' ++ T) W) (h : I y L') : RndPost ws S g T I X y .normal s W := ⟨L', g', H, h⟩
theorem RndPost.ee {id : Nat} (H : St ws S g g' (L' ++ T) W) (h : X (.exit id) y L') : RndPost ws S g T I X y (.exit id) s W := ⟨L', g', H, h⟩
end
def AsPost {α : Type} (ws : World) (S : List Nat) (g : FH) (T : List HA) (A : List α → α → Env → List HA → Prop) (pre : List α) (x : α) : Exit → Env → World → Prop := fun e s' W =>
  e = .normal ∧ ∃ L' g', FLe g g' ∧ A pre x s' L' ∧ St ws S g g' (L' ++ T) W
theorem WcD.range {α : Type} {gop : Operand} {p : Nat} {assign body : Code} {gf : Nat} {lb : List Value} {enc : α → Value} {xs : List α} {Lb Lr : List HA} {ws : World} {S : List Nat} {h0 h : FH} [hf : Fun P gf]
    (H : St ws S h0 h (Lb ++ Lr) w) (hg : ev s gop = .func (.func gf) #[] lb.toArray) (hseq : ItSp P gf lb h enc xs) (hp : Nat.blt p n = true)
    (I : List α → List HA → Prop) (X : Exit → List α → List HA → Prop) (A : List α → α → Env → List HA → Prop) (h0I : I [] Lb)
    (hassign : ∀ pre x ws W S g L T, pre ++ [x] <+: xs → FLe h g → I pre L → St ws S g g (L ++ T) W → Wc P n assign (AsPost ws S g T A pre x) (upd s p (enc x)) W)
    (hbody : ∀ pre x s' ws W S g g' L T, pre ++ [x] <+: xs → FLe h g' → A pre x s' L → St ws S g g' (L ++ T) W → Wc P n body (RndPost ws S g T I X (pre ++ [x])) s' W)
    (hdone : ∀ k L' h' W, I xs L' → FLe h h' → St ws S h0 h' (.blk k (.deferred (some [])) :: (L' ++ Lr)) W → Q (mark k :: D) .normal s W)
    (hstop : ∀ k c pre L' h' W, pre <+: xs → X c pre L' → FLe h h' → St ws S h0 h' (.blk k (.deferred (some [])) :: (L' ++ Lr)) W → Q (mark k :: D) c s W) :
    WcD P n D (.rangeFunc gop #[p] assign body) Q s w := by
  intro a hs
  refine wpIn_rangeFunc ?_
  intro fn hfn
  have hro : Fence.wide.round = none := rfl
  rw [hro]
  obtain ⟨rec, hrec⟩ : ∃ rec : LoopState → Option Code → Loop, rec = fun st pe => { state := st, pending := pe, fn, tmps := a.tmps, params := #[p], assign, body, defers := w.heap.size } := ⟨_, rfl⟩
  have H1 := H.alloc (.deferred (some []))
  have H2 := H1.alloc (.loop (rec .ready none))
  rw [World.size_alloc] at H2
  generalize hW1 : (w.alloc (.deferred (some []))).alloc (.loop (rec .ready none)) = W1 at H2
  have H3 : St ws S h0 h (HA.all (.blk (w.heap.size + 1) (.loop (rec .ready none)) :: .blk w.heap.size (.deferred (some [])) :: Lb) :: Lr) W1 := St.allShut H2
  obtain ⟨A0, hA0⟩ : ∃ A0, A0 = HA.all (.blk (w.heap.size + 1) (.loop (rec .ready none)) :: .blk w.heap.size (.deferred (some [])) :: Lb) := ⟨_, rfl⟩
  rw [← hA0] at H3
  generalize hl : w.heap.size + 1 = l at H2 H3 hA0 hW1
  generalize hk : w.heap.size = k at H2 H3 hA0 hrec
  have HC := H3.give (i := 0) rfl H3.sat fun q hq => (H3.own 0 A0 rfl q hq).1
  have hcall := hseq l (fun pre B => ∃ L, B = HA.all (.blk l (.loop (rec .ready none)) :: .blk k (.deferred (some [])) :: L) ∧ I pre L)
    (fun pre B => ∃ L e c, B = HA.all (.blk l (.loop (rec .done (some c))) :: .blk k (.deferred (some [])) :: L) ∧ X e pre L ∧ ((e = .ret ∧ c = .ret) ∨ ∃ id, e = .exit id ∧ c = .exit id))
    h A0 W1 (FLe.refl h) HC ⟨Lb, hA0, h0I⟩ ?_
  · refine ⟨l, [mark k], W1, { target := .fn (.func gf) lb.toArray, args := #[.func (.yield l) #[] #[]] }, W1, gf, (.func (.yield l) #[] #[] :: lb).toArray, W1, ?_, ?_, ?_, ?_, fun h => (by cases h), ?_⟩
    · rw [← hW1, hrec, ← hl, ← hk]; exact run_enterLoop_outer _ _ _ _ _
    · have he : a.eval gop = .func (.func gf) #[] lb.toArray := by rw [hs.eval]; exact hg
      simp only [resolve, he]
      simp [go_sem]
    · intro f' hf'; trivial
    · simp only [invoke]
      rw [show #[Value.func (.yield l) #[] #[]] ++ lb.toArray = (.func (.yield l) #[] #[] :: lb).toArray by simp]
      exact hf.call _ _
    · refine (callsIn_wide (n := 0 - 1)).2 (Calls.mono hcall ?_)
      rintro e W2 ⟨v, rfl, h', L', HS, A', rfl, hres⟩
      obtain ⟨HE, hle⟩ := H3.call1h (i := 0) rfl HS
      simp only [List.cons_append, List.nil_append, List.eraseIdx_cons_zero] at HE
      have hsim : Sim n (mark k :: D) s { a with defers := [mark k] ++ a.defers } := ⟨by simp [hs.df], hs.sz, hs.eq⟩
      rcases hres with ⟨L, rfl, hI⟩ | ⟨pre, hpre, L, e, c, rfl, hX, hec⟩
      · have HO := St.allOpen HE
        simp only [List.cons_append] at HO
        have hb : W2.heap[l]? = some (.loop (rec .ready none)) := HO.blk (i := 0) rfl
        refine ⟨none, _, by have := run_endLoop (P := P) hb (by rw [hrec]; simp); rw [hrec] at this; exact this, ?_⟩
        have HP := (HO.putBlk (i := 0) rfl (.loop { rec .ready none with state := .exhausted })).tl
        rw [hrec] at HP
        exact ⟨s, _, hsim, hdone k L h' _ hI hle HP⟩
      · have HO := St.allOpen HE
        simp only [List.cons_append] at HO
        have hb : W2.heap[l]? = some (.loop (rec .done (some c))) := HO.blk (i := 0) rfl
        refine ⟨some c, _, by have := run_endLoop (P := P) hb (by rw [hrec]; simp); rw [hrec] at this; exact this, ?_⟩
        have HP := (HO.putBlk (i := 0) rfl (.loop { rec .done (some c) with state := .exhausted })).tl
        rw [hrec] at HP
        have hq := hstop k e pre L h' _ hpre hX hle HP
        rcases hec with ⟨rfl, rfl⟩ | ⟨id, rfl, rfl⟩
        · exact wpIn_ret ⟨s, _, hsim, hq⟩
        · exact wpIn_exit ⟨s, _, hsim, hq⟩
  · rintro pre x B g W hg' hpre ⟨L, rfl, hI⟩ HB
    have HO : St W (HA.all (.blk l (.loop (rec .ready none)) :: .blk k (.deferred (some [])) :: L)).fp g g (L ++ [.blk l (.loop (rec .ready none)), .blk k (.deferred (some []))]) W := by
      have := St.allOpen HB
      rw [List.append_nil] at this
      exact this.perm (List.perm_append_comm (l₁ := [_, _]))
    generalize hF : (HA.all (.blk l (.loop (rec .ready none)) :: .blk k (.deferred (some [])) :: L)).fp = F at HO
    have hb : W.heap[l]? = some (.loop (rec .ready none)) := HO.blk (mid_at L _ _)
    have hy := run_yield (P := P) (args := [enc x].toArray) hb (by rw [hrec]; rfl)
    rw [hrec] at hy
    refine ⟨fn, _, assign, body, hy, roundIn_of_wpIn (F := Fence.wide) hfn ?_⟩
    have hsim : Sim n [] (upd s p (enc x)) { tmps := ((#[p] : Array Tmp).zip [enc x].toArray).foldl (fun tmps (t, a) => tmps.setIfInBounds t a) a.tmps, defers := [] } := by
      have h1 : Sim n [] s { tmps := a.tmps, defers := [] } := ⟨rfl, hs.sz, hs.eq⟩
      have h2 := h1.put (d := some p) hp (enc x)
      have e2 : ((#[p] : Array Tmp).zip [enc x].toArray).foldl (fun tmps (t, a) => tmps.setIfInBounds t a) a.tmps = a.tmps.setIfInBounds p (enc x) := by simp
      rw [e2]; exact h2
    have ha := hassign pre x W W F g L [.blk l (.loop (rec .ready none)), .blk k (.deferred (some []))] hpre hg' hI HO
    unfold Wc at ha
    refine wpIn_mono (ha (some l) [] _ hsim) ?_
    rintro e a1 W3 ⟨s1, hs1, rfl, L1, g1, hle1, hA1, H4⟩
    have hb3 : W3.heap[l]? = some (.loop (rec .ready none)) := H4.blk (mid_at L1 _ _)
    refine ⟨_, run_beginRound hb3 (by rw [hrec]), ?_⟩
    have H5 := H4.putBlk (mid_at L1 _ _) (.loop { rec .ready none with state := .busy })
    have e5 : (L1 ++ [HA.blk l (.loop (rec .ready none)), .blk k (.deferred (some []))]).set L1.length (.blk l (.loop { rec .ready none with state := .busy })) = L1 ++ [.blk l (.loop { rec .ready none with state := .busy }), .blk k (.deferred (some []))] := by
      rw [List.set_append_right _ _ (Nat.le_refl _), Nat.sub_self]; rfl
    rw [e5] at H5
    have hB := hbody pre x s1 W _ F g g1 L1 _ hpre (hg'.trans hle1) hA1 H5
    unfold Wc at hB
    refine wpIn_mono (hB (some l) [] a1 hs1) ?_
    rintro e a2 W6 ⟨s2, hs2, L2, g2, H6, hx⟩
    have hb6 : W6.heap[l]? = some (.loop { rec .ready none with state := .busy }) := H6.blk (mid_at L2 _ _)
    have fin : ∀ jump : Option Code, (Instr.endRound l jump).run P W6 = .ok (.bool jump.isNone) (W6.putObj l (.loop (rec (if jump.isNone then .ready else .done) jump))) ∧
        St W F g g2 [HA.all (.blk l (.loop (rec (if jump.isNone then .ready else .done) jump)) :: .blk k (.deferred (some [])) :: L2)] (W6.putObj l (.loop (rec (if jump.isNone then .ready else .done) jump))) := fun jump => by
      have h1 := run_endRound (P := P) jump hb6
      have h2 := H6.putBlk (mid_at L2 _ _) (.loop (rec (if jump.isNone then .ready else .done) jump))
      have e6 : (L2 ++ [HA.blk l (.loop { rec .ready none with state := .busy }), .blk k (.deferred (some []))]).set L2.length (.blk l (.loop (rec (if jump.isNone then .ready else .done) jump))) = L2 ++ [.blk l (.loop (rec (if jump.isNone then .ready else .done) jump)), .blk k (.deferred (some []))] := by
        rw [List.set_append_right _ _ (Nat.le_refl _), Nat.sub_self]; rfl
      rw [e6] at h2
      refine ⟨by rw [hrec] at h1 ⊢; exact h1, ?_⟩
      have h3 := h2.perm (List.perm_append_comm (l₂ := [_, _]))
      exact St.allShut (L := []) (by rw [List.append_nil]; exact h3)
    cases e with
    | normal =>
      obtain ⟨hr, hH⟩ := fin none
      exact ⟨_, _, hr, _, rfl, g2, _, hH, _, rfl, .inl ⟨rfl, L2, rfl, hx⟩⟩
    | ret =>
      obtain ⟨hr, hH⟩ := fin (some .ret)
      exact ⟨_, _, hr, _, rfl, g2, _, hH, _, rfl, .inr ⟨rfl, L2, .ret, .ret, rfl, hx, .inl ⟨rfl, rfl⟩⟩⟩
    | exit id =>
      obtain ⟨hr, hH⟩ := fin (some (.exit id))
      exact ⟨_, _, hr, _, rfl, g2, _, hH, _, rfl, .inr ⟨rfl, L2, .exit id, .exit id, rfl, hx, .inr ⟨id, rfl, rfl⟩⟩⟩
    | goto t => exact hx.elim
    | panic ch => exact hx.elim
    | outgrown => exact hx.elim
end
theorem fn_retD {P : Program} {fn : Func} {R : Value → World → Prop} {s : Env} {w ws : World} {S : List Nat} {h0 h : FH} {L : List HA} {k : Nat} {e : Exit} (H : St ws S h0 h (.blk k (.deferred (some [])) :: L) w)
    (hk : ∀ w', St ws S h0 h L w' → fnPost P fn R e s w') : fnPostD P fn R [mark k] e s w :=
  .inr ⟨k, rfl, H.blk (i := 0) rfl, hk _ (H.putBlk (i := 0) rfl _).tl⟩
theorem thenD_n {K : List Deferred → Env → World → Prop} {Q : List Deferred → Exit → Env → World → Prop} {D : List Deferred} {s : Env} {w : World} (h : K D s w) : ThenD K Q D .normal s w := h
theorem inbD_n {Q : List Deferred → Exit → Env → World → Prop} {id : Nat} {D : List Deferred} {s : Env} {w : World} (h : Q D .normal s w) : InBlockD id Q D .normal s w := h
section
variable {ws w : World} {S : List Nat} {h0 h : FH} {L T : List HA}
theorem St.packT (H : St ws S h0 h (L ++ T) w) : St ws S h0 h (L ++ [HA.all T]) w := by
  have h1 := St.allShut (H.perm (List.perm_append_comm (l₁ := L) (l₂ := T)))
  exact h1.perm (List.perm_append_comm (l₁ := [HA.all T]) (l₂ := L))
theorem St.unpackT (H : St ws S h0 h (L ++ [HA.all T]) w) : St ws S h0 h (L ++ T) w := by
  have h1 := St.allOpen (H.perm (List.perm_append_comm (l₁ := L) (l₂ := [HA.all T])))
  exact h1.perm (List.perm_append_comm (l₁ := T) (l₂ := L))
end
theorem WcD.nameS {P : Program} {n : Nat} {s : Env} {w : World} {D : List Deferred} {Q : List Deferred → Exit → Env → World → Prop} {c : Code} (h : ∀ S0, s = S0 → WcD P n D c Q S0 w) : WcD P n D c Q s w := h s rfl
theorem WcD.rangeB {P : Program} {n : Nat} {s : Env} {w : World} {D : List Deferred} {Q : List Deferred → Exit → Env → World → Prop} {α : Type} {gop : Operand} {p : Nat} {assign body : Code} {gf : Nat} {lb : List Value} {enc : α → Value} {xs : List α} {Lb Lr : List HA} {ws : World} {S : List Nat} {h0 h : FH} [hf : Fun P gf]
    (H : St ws S h0 h (Lb ++ Lr) w) (hg : ev s gop = .func (.func gf) #[] lb.toArray) (hseq : ItSp P gf lb h enc xs) (hp : Nat.blt p n = true)
    (I : List α → List HA → Prop) (X : Exit → List α → List HA → Prop) (A : List α → α → Env → List HA → Prop) (h0I : I [] Lb)
    (hassign : ∀ pre x ws W S g L B, pre ++ [x] <+: xs → FLe h g → I pre L → St ws S g g (L ++ [B]) W → Wc P n assign (AsPost ws S g [B] A pre x) (upd s p (enc x)) W)
    (hbody : ∀ pre x s' ws W S g g' L B, pre ++ [x] <+: xs → FLe h g' → A pre x s' L → St ws S g g' (L ++ [B]) W → Wc P n body (RndPost ws S g [B] I X (pre ++ [x])) s' W)
    (hdone : ∀ k L' h' W, I xs L' → FLe h h' → St ws S h0 h' (.blk k (.deferred (some [])) :: (L' ++ Lr)) W → Q (mark k :: D) .normal s W)
    (hstop : ∀ k c pre L' h' W, pre <+: xs → X c pre L' → FLe h h' → St ws S h0 h' (.blk k (.deferred (some [])) :: (L' ++ Lr)) W → Q (mark k :: D) c s W) :
    WcD P n D (.rangeFunc gop #[p] assign body) Q s w := by
  refine WcD.range H hg hseq hp I X A h0I (fun pre x ws W S g L T hpre hle hI HT => ?_) (fun pre x s' ws W S g g' L T hpre hle hA HT => ?_) hdone hstop
  · refine (hassign pre x ws W S g L (HA.all T) hpre hle hI HT.packT).mono ?_
    rintro e s' W' ⟨he, L', g', h1, h2, h3⟩
    exact ⟨he, L', g', h1, h2, h3.unpackT⟩
  · refine (hbody pre x s' ws W S g g' L (HA.all T) hpre hle hA HT.packT).mono ?_
    rintro e s' W' ⟨L', g', h1, h2⟩
    exact ⟨L', g', h1.unpackT, h2⟩
attribute [irreducible] WcD
end Go.Tg

