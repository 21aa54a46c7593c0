/- Regions that draw their order, as in Drw, where what is frozen may grow with each mover. -/
import Derived.Test.YtbfilhaigbebpaaDrw
set_option linter.unusedVariables false
set_option linter.unusedSimpArgs false
namespace Go.Tg
open Go
abbrev PiF := (Nat → Value) → (Nat → Bool) → FH → List HA → Prop
def ObF (P : Program) (ops : Array Oper) (mv : Nat → Bool) (π : PiF) (ws : World) (S : List Nat) (h0 h : FH) (k : Nat) (o : Oper) (e : (Nat → Value) → Env) (y : Value) : Prop :=
  if mv k = true then ∀ vs w dn g L, FLe h g → dn k = false → (∀ j, direct ops k j = true → mv j = true → dn j = true) → π vs dn g L → St ws S h0 g L w → Region.wanted o (yld ops (e vs)) = true ∧ Ost P o (e vs) w fun v w' => ∃ g' L', FLe g g' ∧ π (fun q => if q = k then v else vs q) (fun q => q == k || dn q) g' L' ∧ St ws S h0 g' L' w'
  else ∀ vs w dn g L, FLe h g → (∀ j, direct ops k j = true → mv j = true → dn j = true) → π vs dn g L → St ws S h0 g L w → Stp P ops o (e vs) w fun v w' => Ext w w' ∧ (o.dst.isSome = true → v = y)
def RGf (P : Program) (ops : Array Oper) (mv : Nat → Bool) (π : PiF) (ws : World) (S : List Nat) (h0 h : FH) (Fin : ((Nat → Value) → Env) → Prop) : Nat → List Oper → ((Nat → Value) → Env) → Prop
  | _, [], sk => Fin sk
  | i, o :: rest, sk => ∃ X, ObF P ops mv π ws S h0 h i o sk X ∧ RGf P ops mv π ws S h0 h Fin (i + 1) rest (fun vs => putv (sk vs) o.dst (if mv i = true then vs i else X))
def Gf (mv : Nat → Bool) : GF := fun i => if mv i = true then some fun _ _ => True else none
def mfOk (kb : Nat) (ops : Array Oper) (ms : List Nat) : Bool := ms.all fun m => Nat.blt m kb && (dstOf ops m).isSome
section
variable {P : Program} {n kb : Nat} {ops : Array Oper} {Q : Exit → Env → World → Prop} {s0 : Env} {w0 ws : World} {S : List Nat} {h0 h : FH} {mv : Nat → Bool} {π : PiF}
theorem RGf_tell {Fin : ((Nat → Value) → Env) → Prop} : ∀ (rest : List Oper) (i : Nat) (xs : Nat → Value),
    (∀ j, j < rest.length → rest[j]? = ops[i + j]?) → RGf P ops mv π ws S h0 h Fin i rest (En ops (Gf mv) s0 xs i) →
    ∃ ys : Nat → Value, (∀ p, p < i → ys p = xs p) ∧ (∀ k o, i ≤ k → k < i + rest.length → ops[k]? = some o → ObF P ops mv π ws S h0 h k o (En ops (Gf mv) s0 ys k) (ys k)) ∧ Fin (En ops (Gf mv) s0 ys (i + rest.length)) := by
  intro rest
  induction rest with
  | nil => intro i xs _ h; exact ⟨xs, fun _ _ => rfl, fun k o h1 h2 => absurd h2 (by simp; omega), by simpa [RGf] using h⟩
  | cons o rest ih =>
    intro i xs hops h
    have ho : ops[i]? = some o := by have := hops 0 (by simp); simpa using this.symm
    have hd : dstOf ops i = o.dst := by simp [dstOf, ho]
    have hops' : ∀ j, j < rest.length → rest[j]? = ops[i + 1 + j]? := fun j hj => by
      have := hops (j + 1) (by simpa using hj)
      simp only [List.getElem?_cons_succ] at this
      rw [this]; congr 1; omega
    unfold RGf at h
    obtain ⟨X, h1, h2⟩ := h
    let xs' : Nat → Value := fun p => if p = i then X else xs p
    have hx : ∀ p, p < i → xs' p = xs p := fun p hp => by simp [xs', show p ≠ i by omega]
    have he : (fun vs => putv (En ops (Gf mv) s0 xs i vs) o.dst (if mv i = true then vs i else X)) = En ops (Gf mv) s0 xs' (i + 1) := by
      funext vs
      simp only [En, En_congr (G := Gf mv) (s0 := s0) (ops := ops) i hx, hd, Val, Gf]
      cases h9 : mv i <;> simp [xs']
    rw [he] at h2
    obtain ⟨ys, hy1, hy2, hy3⟩ := ih (i + 1) xs' hops' h2
    have hyi : ys i = X := by rw [hy1 i (by omega)]; simp [xs']
    refine ⟨ys, fun p hp => (hy1 p (by omega)).trans (hx p hp), fun k o' hk1 hk2 ho' => ?_, by rw [show i + (o :: rest).length = i + 1 + rest.length by simp; omega]; exact hy3⟩
    by_cases hk : k = i
    · subst hk
      rw [ho] at ho'; cases ho'
      rw [En_congr k fun p hp => (hy1 p (by omega)).trans (hx p hp), hyi]
      exact h1
    · exact hy2 k o' (by omega) (by simp at hk2; omega) ho'
theorem Wc.drawF {id : Nat} {l : List Oper} {L : List HA} (kb : Nat) (ms : List Nat) (π : PiF) [hm : Mix P] (H : St ws S h0 h L w0) (hok : drawOk n kb l.toArray = true) (hmv : mfOk kb l.toArray ms = true) (hin : π (fun _ => undef) (fun _ => false) h L)
    (hr : RGf P l.toArray (fun k => ms.elem k) π ws S h0 h (fun sk => ∀ vs w dn g L, FLe h g → (∀ k, ms.elem k = true → dn k = true) → π vs dn g L → St ws S h0 g L w → WL P n l.toArray Q (l.drop kb) (sk vs) w) 0 (l.take kb) (fun _ => s0)) :
    Wc P n (.region id l.toArray true) Q s0 w0 := by
  have hok' := drawOk_spec hok
  have hlen : (l.take kb).length = kb := by have := hok'.le; simp at this; simp [this]
  obtain ⟨ys, _, hx, hF⟩ := RGf_tell (ops := l.toArray) (s0 := s0) (l.take kb) 0 (fun _ => undef) (fun j hj => by
    rw [hlen] at hj
    rw [List.getElem?_take, if_pos hj]; simp) (by exact hr)
  rw [hlen, Nat.zero_add] at hF
  simp only [mfOk, List.all_eq_true, Bool.and_eq_true] at hmv
  have hmk : ∀ k, ms.elem k = true → k < kb ∧ (dstOf l.toArray k).isSome = true := fun k hk => by
    obtain ⟨h1, h2⟩ := hmv k (List.elem_iff.1 hk)
    exact ⟨nblt_true.1 h1, h2⟩
  generalize hmv9 : (fun k => ms.elem k) = mv at hx hF
  have hmk : ∀ k, mv k = true → k < kb ∧ (dstOf l.toArray k).isSome = true := fun k hk => by rw [← hmv9] at hk; exact hmk k hk
  let vsOf : Env → Nat → Value := fun s p => match dstOf l.toArray p with | some d => s d | none => undef
  have vsAt : ∀ s p d, dstOf l.toArray p = some d → vsOf s p = s d := fun s p d hd => by simp [vsOf, hd]
  let dnOf : (Nat → Prop) → Nat → Bool := fun D k => mv k && dcd (D k)
  let vrOf : (Nat → Prop) → Env → Nat → Value := fun D s k => if dnOf D k = true then vsOf s k else undef
  have dnT : ∀ (D : Nat → Prop) k, mv k = true → D k → dnOf D k = true := fun D k h1 h2 => by simp only [dnOf, h1, dcd_iff.2 h2, Bool.and_self]
  have dnF : ∀ (D : Nat → Prop) k, ¬ D k → dnOf D k = false := fun D k h2 => by simp only [dnOf, dcd_no.2 h2, Bool.and_false]
  let J : (Nat → Prop) → Env → World → Prop := fun D s w => Go.Tg.Out l.toArray kb s0 s ∧ (∀ p d, p < kb → D p → dstOf l.toArray p = some d → mv p = false → s d = ys p) ∧
    ∃ g L, FLe h g ∧ π (vrOf D s) (dnOf D) g L ∧ St ws S h0 g L w
  have same : ∀ (D : Nat → Prop) (i : Nat) (o : Oper) s w, i < kb → l.toArray[i]? = some o → (∀ j, direct l.toArray i j = true → D j) → J D s w → ∀ t ∈ o.looksAt l.toArray, En l.toArray (Gf mv) s0 ys i (vrOf D s) t = s t := by
    intro D i o s w hi ho hp ⟨hO, hF, _⟩ t ht
    obtain ⟨e1, e2⟩ := En_at (s0 := s0) (G := Gf mv) (xs := ys) (vs := vrOf D s) hok' i (by omega)
    by_cases hex : ∃ p, p < kb ∧ dstOf l.toArray p = some t
    · obtain ⟨p, hpk, hpd⟩ := hex
      have hdir := hok'.look i o t p hi ho ht hpk hpd
      obtain ⟨o', ho', e, he, hb, rfl⟩ := direct_spec.1 hdir
      have hlt := hok'.back i o' e ho' he hb
      rw [e2 e.on t hlt hpd]
      unfold Val Gf
      cases hg : mv e.on with
      | false => simp only [hg, Bool.false_eq_true, if_false]; exact (hF e.on t hpk (hp _ hdir) hpd hg).symm
      | true => simp only [if_true]; simp only [vrOf, dnT D _ hg (hp _ hdir), if_true]; exact vsAt s _ t hpd
    · have hnot : ∀ j, j < kb → dstOf l.toArray j ≠ some t := fun j hj hjd => hex ⟨j, hj, hjd⟩
      rw [e1 t fun j hj => hnot j (by omega)]
      exact (hO t hnot).symm
  have out' : ∀ (i : Nat) (o : Oper) (s : Env) v, i < kb → l.toArray[i]? = some o → Go.Tg.Out l.toArray kb s0 s → Go.Tg.Out l.toArray kb s0 (putv s o.dst v) := by
    intro i o s v hi ho hO t ht
    have hdst : o.dst = dstOf l.toArray i := by simp [dstOf, ho]
    have hne' : o.dst ≠ some t := by rw [hdst]; exact ht i hi
    have : putv s o.dst v t = s t := by
      cases hd : o.dst with
      | none => rfl
      | some d => exact upd_ne (fun e => hne' (by rw [hd, e]))
    rw [this]; exact hO t ht
  have keep : ∀ (i : Nat) (o : Oper) (s : Env) v p d, i < kb → l.toArray[i]? = some o → p < kb → p ≠ i → dstOf l.toArray p = some d → putv s o.dst v d = s d := by
    intro i o s v p d hi ho hpk hpi hd
    have hdst : o.dst = dstOf l.toArray i := by simp [dstOf, ho]
    have hne' : o.dst ≠ some d := fun e => hpi (hok'.apart p i d hpk hi hd (hdst ▸ e))
    cases hd' : o.dst with
    | none => rfl
    | some d' => exact upd_ne (fun e => hne' (by rw [hd', e]))
  have keepV : ∀ (i : Nat) (o : Oper) (s : Env) v k, i < kb → l.toArray[i]? = some o → mv k = true → k ≠ i → vsOf (putv s o.dst v) k = vsOf s k := by
    intro i o s v k hi ho hk hne
    obtain ⟨d, hd⟩ := Option.isSome_iff_exists.1 (hmk k hk).2
    rw [vsAt _ _ _ hd, vsAt _ _ _ hd, keep i o s v k d hi ho (hmk k hk).1 hne hd]
  refine Wc.draw_gen (kb := kb) (J := J) hok' hm.m ⟨fun _ _ => rfl, fun _ _ _ hD => hD.elim, h, L, FLe.refl h, ?_, ?_⟩ (fun D i o hi ho hnD hp hDk s w hJ => ?_) (fun D s w hall hDk hJ => ?_)
  · have e1 : dnOf (fun _ => False) = fun _ => false := by funext k; exact dnF (fun _ => False) k (fun h => h)
    have e2 : vrOf (fun _ => False) s0 = fun _ => undef := by funext k; simp only [vrOf, e1, Bool.false_eq_true, if_false]
    rw [e1, e2]; exact hin
  · exact H.ext ⟨rfl, rfl, rfl, Nat.le_refl _, fun _ _ _ => rfl⟩
  · have hsame := same D i o s w hi ho hp hJ
    obtain ⟨hO, hF', g1, L1, hg1, hπ, hS⟩ := hJ
    have hob := hx i o (by omega) (by omega) ho
    have hdst : o.dst = dstOf l.toArray i := by simp [dstOf, ho]
    have hdep : ∀ j, direct l.toArray i j = true → mv j = true → dnOf D j = true := fun j h1 h2 => dnT D j h2 (hp j h1)
    unfold ObF at hob
    cases hg : mv i with
    | false =>
      rw [hg, if_neg (by simp)] at hob
      have e1 : dnOf (fun j => j = i ∨ D j) = dnOf D := by
        funext k
        cases hk : mv k with
        | false => simp only [dnOf, hk, Bool.false_and]
        | true =>
          have hki : k ≠ i := fun e => by rw [e, hg] at hk; cases hk
          simp only [dnOf, hk, Bool.true_and]
          congr 1
          exact propext ⟨fun h => h.resolve_left hki, .inr⟩
      refine Stp.mono (Stp.same (fun cs b => hok'.sel i o cs b ho) hsame (hob (vrOf D s) w (dnOf D) g1 L1 hg1 hdep hπ hS)) fun v w' ⟨hE, hv⟩ => ⟨out' i o s v hi ho hO, fun p d hpk hD hd hl => ?_, g1, L1, hg1, ?_, hS.ext hE⟩
      · by_cases hpi : p = i
        · subst hpi
          have : o.dst = some d := hdst.trans hd
          rw [this]; simp only [putv, upd_same]
          exact hv (by rw [this]; rfl)
        · rw [keep i o s v p d hi ho hpk hpi hd]
          exact hF' p d hpk (hD.resolve_left hpi) hd hl
      · have e2 : vrOf (fun j => j = i ∨ D j) (putv s o.dst v) = vrOf D s := by
          funext k
          simp only [vrOf, e1]
          by_cases hk : dnOf D k = true
          · have hmk9 : mv k = true := by simp only [dnOf, Bool.and_eq_true] at hk; exact hk.1
            rw [if_pos hk, if_pos hk, keepV i o s v k hi ho hmk9 (fun e => by rw [e, hg] at hmk9; cases hmk9)]
          · rw [if_neg hk, if_neg hk]
        rw [e1, e2]; exact hπ
    | true =>
      rw [hg, if_pos rfl] at hob
      obtain ⟨hw, hst⟩ := hob (vrOf D s) w (dnOf D) g1 L1 hg1 (dnF D i hnD) hdep hπ hS
      have hstp : Stp P l.toArray o (En l.toArray (Gf mv) s0 ys i (vrOf D s)) w fun v w' => ∃ g' L', FLe g1 g' ∧ π (fun q => if q = i then v else vrOf D s q) (fun q => q == i || dnOf D q) g' L' ∧ St ws S h0 g' L' w' := ⟨fun _ => hst, fun hn => absurd hw (by simp [hn])⟩
      refine Stp.mono (Stp.same (fun cs b => hok'.sel i o cs b ho) hsame hstp) fun v w' ⟨g', L', hg', hπ', hS'⟩ => ⟨out' i o s v hi ho hO, fun p d hpk hD hd hl => ?_, g', L', hg1.trans hg', ?_, hS'⟩
      · have hpi : p ≠ i := fun e => by rw [e, hg] at hl; cases hl
        rw [keep i o s v p d hi ho hpk hpi hd]
        exact hF' p d hpk (hD.resolve_left hpi) hd hl
      · have e1 : dnOf (fun j => j = i ∨ D j) = fun q => q == i || dnOf D q := by
          funext k
          by_cases hk : k = i
          · subst hk
            simp only [beq_self_eq_true, Bool.true_or]
            exact dnT (fun j => j = k ∨ D j) k hg (.inl rfl)
          · have : (k == i) = false := by simpa using hk
            rw [this, Bool.false_or]
            simp only [dnOf]
            congr 2
            exact propext ⟨fun h => h.resolve_left hk, .inr⟩
        have e2 : vrOf (fun j => j = i ∨ D j) (putv s o.dst v) = fun q => if q = i then v else vrOf D s q := by
          funext k
          by_cases hk : k = i
          · subst hk
            obtain ⟨d, hd⟩ := Option.isSome_iff_exists.1 (hmk k hg).2
            have hdd : o.dst = some d := hdst.trans hd
            simp only [vrOf, dnT (fun j => j = k ∨ D j) k hg (Or.inl rfl), if_true]
            rw [vsAt _ _ _ hd, hdd]; simp only [putv, upd_same]
          · simp only [vrOf, e1, hk, if_false]
            have : (k == i) = false := by simpa using hk
            rw [this, Bool.false_or]
            by_cases hk2 : dnOf D k = true
            · have hmk9 : mv k = true := by simp only [dnOf, Bool.and_eq_true] at hk2; exact hk2.1
              rw [if_pos hk2, if_pos hk2, keepV i o s v k hi ho hmk9 hk]
            · rw [if_neg hk2, if_neg hk2]
        rw [e1, e2]; exact hπ'
  · obtain ⟨hO, hF', g1, L1, hg1, hπ, hS⟩ := hJ
    have hs : s = En l.toArray (Gf mv) s0 ys kb (vrOf D s) := by
      funext t
      obtain ⟨e1, e2⟩ := En_at (s0 := s0) (G := Gf mv) (xs := ys) (vs := vrOf D s) hok' kb (Nat.le_refl _)
      by_cases hex : ∃ p, p < kb ∧ dstOf l.toArray p = some t
      · obtain ⟨p, hpk, hpd⟩ := hex
        rw [e2 p t hpk hpd]
        unfold Val Gf
        cases hg : mv p with
        | false => simp only [Bool.false_eq_true, if_false]; exact hF' p t hpk (hall p hpk) hpd hg
        | true => simp only [if_true]; simp only [vrOf, dnT D _ hg (hall p hpk), if_true]; exact (vsAt s _ t hpd).symm
      · have hnot : ∀ j, j < kb → dstOf l.toArray j ≠ some t := fun j hj hjd => hex ⟨j, hj, hjd⟩
        rw [e1 t hnot]; exact hO t hnot
    have := hF (vrOf D s) w (dnOf D) g1 L1 hg1 (fun k hk => by
      have hk9 : mv k = true := by rw [← hmv9]; exact hk
      exact dnT D k hk9 (hall k (hmk k hk9).1)) hπ hS
    rw [← hs] at this
    simpa using this
end
section
variable {P : Program} {ops : Array Oper} {mv : Nat → Bool} {π : PiF} {ws : World} {S : List Nat} {h0 h : FH} {Fin : ((Nat → Value) → Env) → Prop} {i : Nat} {rest : List Oper} {sk : (Nat → Value) → Env} {op : Op} {ty : TypeId} {pos : String} {af : Array Edge} {d : Nat} {X : Value}
theorem RGf.nil (h' : Fin sk) : RGf P ops mv π ws S h0 h Fin i [] sk := by unfold RGf; exact h'
theorem RGf.p (hG : mv i = false)
    (h' : ∀ vs w dn g L, FLe h g → (∀ j, direct ops i j = true → mv j = true → dn j = true) → π vs dn g L → St ws S h0 g L w → Ost P ⟨some d, op, ty, pos, af, none⟩ (sk vs) w fun v w' => Ext w w' ∧ v = X) (hr : RGf P ops mv π ws S h0 h Fin (i + 1) rest (fun vs => upd (sk vs) d X)) : RGf P ops mv π ws S h0 h Fin i (⟨some d, op, ty, pos, af, none⟩ :: rest) sk := by
  unfold RGf
  refine ⟨X, ?_, by simp only [hG, Bool.false_eq_true, if_false]; exact hr⟩
  unfold ObF
  rw [hG, if_neg (by simp)]
  exact fun vs w dn g L hg hd hP H => ⟨fun _ => (h' vs w dn g L hg hd hP H).mono fun v w' ⟨a, b⟩ => ⟨a, fun _ => b⟩, fun hn => absurd hn (by simp [Region.wanted])⟩
theorem RGf.m (hG : mv i = true)
    (h' : ∀ vs w dn g L, FLe h g → dn i = false → (∀ j, direct ops i j = true → mv j = true → dn j = true) → π vs dn g L → St ws S h0 g L w → Ost P ⟨some d, op, ty, pos, af, none⟩ (sk vs) w fun v w' => ∃ g' L', FLe g g' ∧ π (fun q => if q = i then v else vs q) (fun q => q == i || dn q) g' L' ∧ St ws S h0 g' L' w') (hr : RGf P ops mv π ws S h0 h Fin (i + 1) rest (fun vs => upd (sk vs) d (vs i))) : RGf P ops mv π ws S h0 h Fin i (⟨some d, op, ty, pos, af, none⟩ :: rest) sk := by
  unfold RGf
  refine ⟨undef, ?_, by simp only [hG, if_true]; exact hr⟩
  unfold ObF
  rw [hG, if_pos rfl]
  exact fun vs w dn g L hg h1 h2 hP H => ⟨rfl, h' vs w dn g L hg h1 h2 hP H⟩
end
attribute [irreducible] RGf
def piF (ms : List Nat) (B : List HA) (ps : Nat → (Nat → Value) → FH → List HA → Prop) : PiF := fun vs dn g L => ∃ c T, (∀ i m, ms[i]? = some m → dn m = decide (i < c)) ∧ c ≤ ms.length ∧ L = T ++ B ∧ ps c vs g T
section
variable {ms : List Nat} {B A : List HA} {ps : Nat → (Nat → Value) → FH → List HA → Prop} {vs : Nat → Value} {dn : Nat → Bool} {g : FH} {L : List HA}
theorem piF_0 (h : ps 0 vs g A) : piF ms B ps vs (fun _ => false) g (A ++ B) := ⟨0, A, fun _ _ _ => by simp, Nat.zero_le _, rfl, h⟩
theorem piF_B (h : piF ms B ps vs dn g L) : ∃ T, L = T ++ B := by obtain ⟨c, T, -, -, h, -⟩ := h; exact ⟨T, h⟩
theorem piF_at (h : piF ms B ps vs dn g L) (i m : Nat) (hm : ms[i]? = some m) (hd : dn m = true) : ∃ c T, i < c ∧ c ≤ ms.length ∧ L = T ++ B ∧ ps c vs g T := by
  obtain ⟨c, T, h1, h2, h3, h4⟩ := h
  have := h1 i m hm
  rw [hd] at this
  exact ⟨c, T, by simpa using this.symm, h2, h3, h4⟩
theorem piF_step (hnd : ms.Nodup) (h : piF ms B ps vs dn g L) (c m : Nat) (hc : ms[c]? = some m) (hd : dn m = false) (hp : c = 0 ∨ ∃ m', ms[c - 1]? = some m' ∧ dn m' = true) : ∃ T, L = T ++ B ∧ ps c vs g T ∧ ∀ v g' T', ps (c + 1) (fun q => if q = m then v else vs q) g' T' → piF ms B ps (fun q => if q = m then v else vs q) (fun q => q == m || dn q) g' (T' ++ B) := by
  obtain ⟨c0, T, h1, h2, h3, h4⟩ := h
  have e1 : ¬ c < c0 := by
    have := h1 c m hc
    rw [hd] at this; simpa using this.symm
  have e2 : c ≤ c0 := by
    rcases hp with rfl | ⟨m', hm', hd'⟩
    · exact Nat.zero_le _
    · have := h1 _ m' hm'
      rw [hd'] at this
      have : c - 1 < c0 := by simpa using this.symm
      omega
  obtain rfl : c = c0 := by omega
  have hcl := (List.getElem?_eq_some_iff.1 hc).1
  refine ⟨T, h3, h4, fun v g' T' hv => ⟨c + 1, T', fun i m2 hi => ?_, by omega, rfl, hv⟩⟩
  by_cases e : m2 = m
  · subst e
    have hil := (List.getElem?_eq_some_iff.1 hi).1
    have : i = c := by
      have h5 := (List.pairwise_iff_getElem.1 hnd)
      rcases Nat.lt_trichotomy i c with h6 | h6 | h6
      · exact absurd ((List.getElem?_eq_some_iff.1 hi).2.trans (List.getElem?_eq_some_iff.1 hc).2.symm) (h5 i c hil hcl h6)
      · exact h6
      · exact absurd ((List.getElem?_eq_some_iff.1 hc).2.trans (List.getElem?_eq_some_iff.1 hi).2.symm) (h5 c i hcl hil h6)
    subst this
    simp
  · have h6 : (m2 == m) = false := by simpa using e
    simp only [h6, Bool.false_or, h1 i m2 hi]
    have : i ≠ c := fun e9 => by subst e9; rw [hc] at hi; exact e (Option.some.inj hi).symm
    simp only [decide_eq_decide]; omega
theorem piF_end (h : piF ms B ps vs dn g L) (m : Nat) (hm : ms[ms.length - 1]? = some m) (hd : dn m = true) : ∃ T, L = T ++ B ∧ ps ms.length vs g T := by
  obtain ⟨c, T, h1, h2, h3, h4⟩ := piF_at h _ m hm hd
  obtain rfl : c = ms.length := by omega
  exact ⟨T, h3, h4⟩
end
end Go.Tg

