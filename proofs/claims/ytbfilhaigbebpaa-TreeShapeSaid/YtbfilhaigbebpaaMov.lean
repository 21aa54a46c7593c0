/- Regions that draw their order, some of whose operations change what is owned: each such one its own piece. -/
import Derived.Test.YtbfilhaigbebpaaSl
set_option linter.unusedVariables false
set_option linter.unusedSimpArgs false
namespace Go.Tg
open Go
section gen
variable {P : Program} {n kb : Nat} {ops : Array Oper} {Q : Exit → Env → World → Prop} {s0 : Env} {w0 : World}
structure InvJ (n kb : Nat) (D : List Deferred) (ops : Array Oper) (J : (Nat → Prop) → Env → World → Prop) (listed : Array Bool) (a : Act) (w : World) : Prop where
  sz : listed.size = ops.size
  ex : ∃ s, Sim n D s a ∧ J (lst listed) s w
  body : ∀ j, lst listed j → j < kb
  down : ∀ i j, lst listed i → direct ops i j = true → lst listed j
theorem unl_zero {listed : Array Bool} : unl kb listed = 0 ↔ ∀ j, j < kb → lst listed j := by
  unfold unl
  rw [List.length_eq_zero_iff, List.filter_eq_nil_iff]
  constructor
  · intro h j hj
    have := h j (by simpa using hj)
    simpa [lst] using this
  · intro h i hi
    have hi' : i < kb := by simpa using hi
    have := h i hi'
    simpa [lst] using this
theorem unl_set {listed : Array Bool} {i : Nat} (hlt : i < listed.size) (hikb : i < kb) (h0 : ¬ lst listed i) : unl kb (listed.setIfInBounds i true) + 1 = unl kb listed := by
  unfold unl
  have hi1 : (!listed.getD i false) = true := by simpa [lst] using h0
  have e1 : ((List.range kb).filter fun j => !(listed.setIfInBounds i true).getD j false) = ((List.range kb).filter fun j => !listed.getD j false).filter (fun j => !Nat.beq j i) := by
    rw [List.filter_filter]
    apply List.filter_congr
    intro j _
    by_cases hj : j = i
    · subst hj
      simp [hlt]
    · rw [getD_set_ne false (Ne.symm hj)]; simp [nbeq hj]
  rw [e1]
  have hmem : i ∈ (List.range kb).filter fun j => !listed.getD j false := by
    rw [List.mem_filter]; exact ⟨by simpa using hikb, hi1⟩
  have hnd : ((List.range kb).filter fun j => !listed.getD j false).Nodup := List.Pairwise.filter _ List.nodup_range
  have e2 : (((List.range kb).filter fun j => !listed.getD j false).filter fun j => !Nat.beq j i) = ((List.range kb).filter fun j => !listed.getD j false).erase i := by
    rw [hnd.erase_eq_filter]
    apply List.filter_congr
    intro j _
    by_cases hj : j = i
    · subst hj; simp
    · simp [nbeq hj, hj]
  rw [e2, List.length_erase_of_mem hmem]
  have := List.length_pos_of_mem hmem
  omega
theorem Wc.draw_gen {J : (Nat → Prop) → Env → World → Prop} {id : Nat} (hok : DrawOk n kb ops) (hm : P.follows .mixedOrders = true)
    (hinit : J (fun _ => False) s0 { w0 with drawn := w0.drawn + 1 })
    (hstep : ∀ (D : Nat → Prop) (i : Nat) (o : Oper), i < kb → ops[i]? = some o → ¬ D i → (∀ j, direct ops i j = true → D j) → (∀ j, D j → j < kb) → ∀ s w, J D s w → Stp P ops o s w fun v w' => J (fun j => j = i ∨ D j) (putv s o.dst v) w')
    (hfin : ∀ (D : Nat → Prop) s w, (∀ j, j < kb → D j) → (∀ j, D j → j < kb) → J D s w → WL P n ops Q (ops.toList.drop kb) s w) :
    Wc P n (.region id ops true) Q s0 w0 := by
  unfold Wc
  intro r D a0 hs0
  refine wpIn_region_any hm ?_
  have main : ∀ (u : Nat) (listed : Array Bool) (a : Act) (w : World), unl kb listed = u → InvJ n kb D ops J listed a w →
      wpAnyIn (Rnd r) 0 P .any ops (lift n D Q) (u + (ops.size - kb)) listed a w := by
    intro u
    induction u with
    | zero =>
      intro listed a w hu hI
      obtain ⟨s, hs, hJ⟩ := hI.ex
      have hall := unl_zero.1 hu
      have := hok.le
      refine tail_any hok _ kb listed a w (Nat.le_refl _) (by omega) hI.sz (fun j => ⟨hI.body j, hall j⟩) ?_
      have := hfin _ s w hall hI.body hJ
      unfold WL at this
      exact this r D a hs
    | succ u ih =>
      intro listed a w hu hI
      obtain ⟨s, hs, hJ⟩ := hI.ex
      have hkb := hok.le
      have hex : ∃ i, i < kb ∧ ¬ lst listed i := by
        refine Classical.byContradiction fun hn => ?_
        have : unl kb listed = 0 := unl_zero.2 fun j hj => Classical.byContradiction fun h => hn ⟨j, hj, h⟩
        omega
      have hne : Region.ready .any ops listed ≠ [] := by
        obtain ⟨i, hi, hni⟩ := hex
        have : ∀ m, m < kb → ¬ lst listed m → ∃ i, i ∈ Region.ready .any ops listed := by
          intro m
          induction m using Nat.strongRecOn with
          | _ m ihm =>
            intro hm hnm
            by_cases hp : ∀ j, direct ops m j = true → lst listed j
            · exact ⟨m, (ready_iff hI.sz).2 ⟨hnm, ops[m], by simp [show m < ops.size by omega], hp⟩⟩
            · have ⟨j, hj⟩ := Classical.not_forall.1 hp
              have ⟨hj1, hj2⟩ := Classical.not_imp.1 hj
              obtain ⟨o, ho, e, he, hb, rfl⟩ := direct_spec.1 hj1
              have hlt := hok.back m o e ho he hb
              exact ihm e.on hlt (by omega) hj2
        obtain ⟨i, hi⟩ := this i hi hni
        intro h0; rw [h0] at hi; cases hi
      rw [show u + 1 + (ops.size - kb) = (u + (ops.size - kb)) + 1 by omega]
      refine ⟨fun h0 => absurd h0 hne, fun i hi => ?_⟩
      obtain ⟨h0, o, ho, hp⟩ := (ready_iff hI.sz).1 hi
      have hisz := (Array.getElem?_eq_some_iff.1 ho).1
      have hikb : i < kb := by
        refine Classical.byContradiction fun hge => ?_
        obtain ⟨j, hj, hnj⟩ := hex
        have key : ∀ q, ∀ j, q + j = i → j < i → lst listed j := by
          intro q
          induction q using Nat.strongRecOn with
          | _ q ihq =>
            intro j hq hji
            obtain ⟨k, hk1, hk2, hk3⟩ := hok.tail i (by omega) hisz j hji
            by_cases hki : k = i
            · subst hki; exact hp j hk3
            · exact hI.down k j (ihq (i - k) (by omega) k (by omega) (by omega)) hk3
        exact hnj (key (i - j) j (by omega) (by omega))
      have hst := hstep _ i o hikb ho h0 hp hI.body s w hJ
      refine hst.wpOp ho hs fun v w' hJ' => ?_
      have he : lst (listed.setIfInBounds i true) = fun j => j = i ∨ lst listed j := funext fun j => propext (lst_set (hI.sz ▸ hisz))
      refine ih _ _ _ ?_ ⟨by simpa using hI.sz, ⟨_, hs.put (hok.dst i o ho) v, by rw [he]; exact hJ'⟩, fun j hj => ?_, fun k j hk hd => ?_⟩
      · have := unl_set (kb := kb) (hI.sz ▸ hisz) hikb h0
        omega
      · rw [he] at hj
        rcases hj with rfl | hj
        · exact hikb
        · exact hI.body j hj
      · rw [he] at hk ⊢
        rcases hk with rfl | hk
        · exact .inr (hp j hd)
        · exact .inr (hI.down k j hk hd)
  have hfuel : ops.size = kb + (ops.size - kb) := by have := hok.le; omega
  have h0 : ∀ j, ¬ lst (Array.replicate ops.size false) j := fun j => by
    simp [lst, Array.getElem?_replicate]
    split <;> rfl
  have hu : unl kb (Array.replicate ops.size false) = kb := by
    unfold unl
    rw [List.filter_eq_self.2]
    · simp
    · intro j _; have := h0 j; simpa [lst] using this
  have he : lst (Array.replicate ops.size false) = fun _ => False := funext fun j => propext ⟨fun h => h0 j h, fun h => h.elim⟩
  have := main kb (Array.replicate ops.size false) a0 { w0 with drawn := w0.drawn + 1 } hu
    ⟨by simp, ⟨s0, hs0, by rw [he]; exact hinit⟩, fun j hj => absurd hj (h0 j), fun i j hi => absurd hi (h0 i)⟩
  rw [← hfuel] at this
  exact this
end gen
section
variable {P : Program} {ops : Array Oper} {o : Oper} {s : Env} {w : World} {K K' : Value → World → Prop}
theorem Stp.mono (h : Stp P ops o s w K) (hk : ∀ v w', K v w' → K' v w') : Stp P ops o s w K' := ⟨fun hw => (h.1 hw).mono hk, fun hw => hk _ _ (h.2 hw)⟩
end
section perm
variable {ws w : World} {S : List Nat} {h0 h : FH} {L L' : List HA}
theorem St.perm (H : St ws S h0 h L w) (hp : L.Perm L') : St ws S h0 h L' w := by
  have pw : ∀ {l : List HA}, (∀ (i j : Nat) (A B : HA), i ≠ j → l[i]? = some A → l[j]? = some B → ∀ k, k ∈ A.fp → k ∉ B.fp) ↔ l.Pairwise (fun A B => ∀ k, k ∈ A.fp → k ∉ B.fp) := by
    intro l
    rw [List.pairwise_iff_getElem]
    constructor
    · intro hh i j hi hj hij
      exact hh i j l[i] l[j] (by omega) (by simp) (by simp)
    · intro hh i j A B hij hi hj k hA hB
      obtain ⟨hi1, rfl⟩ := List.getElem?_eq_some_iff.1 hi
      obtain ⟨hj1, rfl⟩ := List.getElem?_eq_some_iff.1 hj
      rcases Nat.lt_or_gt_of_ne hij with h | h
      · exact hh i j hi1 hj1 h k hA hB
      · exact hh j i hj1 hi1 h k hB hA
  refine ⟨H.fr, H.sat, fun i A hi => ?_, pw.2 ?_, fun i A hi => ?_, H.gr⟩
  · have : A ∈ L := hp.mem_iff.2 (List.mem_of_getElem? hi)
    obtain ⟨j, hj⟩ := List.getElem?_of_mem this
    exact H.ok j A hj
  · have := pw.1 H.ap
    exact hp.pairwise this (fun {A B} hh k hA hB => hh k hB hA)
  · have : A ∈ L := hp.mem_iff.2 (List.mem_of_getElem? hi)
    obtain ⟨j, hj⟩ := List.getElem?_of_mem this
    exact H.own j A hj
end perm
abbrev MV := List (Nat × List HA × (Value → List HA → Prop))
open Classical in
noncomputable def pcs (D : Nat → Prop) (outs : Nat → List HA) : MV → List HA
  | [] => []
  | m :: M => (if D m.1 then outs m.1 else m.2.1) ++ pcs D outs M
def outsL (outs : Nat → List HA) : MV → List HA
  | [] => []
  | m :: M => outs m.1 ++ outsL outs M
def inpL : MV → List HA
  | [] => []
  | m :: M => m.2.1 ++ inpL M
def mvOk (kb : Nat) (ops : Array Oper) (js : List Nat) : Bool := js.all (fun j => Nat.blt j kb) && decide js.Nodup
section mv
variable {P : Program} {n kb : Nat} {ops : Array Oper} {Q : Exit → Env → World → Prop} {s0 : Env} {w0 ws : World} {S : List Nat} {h0 h : FH} {B : List HA} {M : MV}
theorem pcs_app (D : Nat → Prop) (outs : Nat → List HA) : ∀ (M1 M2 : MV), pcs D outs (M1 ++ M2) = pcs D outs M1 ++ pcs D outs M2
  | [], _ => rfl
  | m :: M1, M2 => by simp only [List.cons_append, pcs, pcs_app D outs M1, List.append_assoc]
theorem pcs_congr {D D' : Nat → Prop} {outs outs' : Nat → List HA} : ∀ {M : MV}, (∀ m, m ∈ M → (D m.1 ↔ D' m.1) ∧ (D m.1 → outs m.1 = outs' m.1)) → pcs D outs M = pcs D' outs' M
  | [], _ => rfl
  | m :: M, hh => by
    have h1 := hh m (by simp)
    rw [pcs, pcs, pcs_congr fun x hx => hh x (by simp [hx])]
    by_cases hd : D m.1
    · rw [if_pos hd, if_pos (h1.1.1 hd), h1.2 hd]
    · rw [if_neg hd, if_neg (fun e => hd (h1.1.2 e))]
theorem pcs_none {outs : Nat → List HA} : ∀ {M : MV}, pcs (fun _ => False) outs M = inpL M
  | [] => rfl
  | m :: M => by rw [pcs, if_neg (fun h => h), pcs_none, inpL]
theorem pcs_all {D : Nat → Prop} {outs : Nat → List HA} : ∀ {M : MV}, (∀ m, m ∈ M → D m.1) → pcs D outs M = outsL outs M
  | [], _ => rfl
  | m :: M, hh => by rw [pcs, if_pos (hh m (by simp)), pcs_all fun x hx => hh x (by simp [hx]), outsL]
def PFm (ops : Array Oper) (M : MV) (i : Nat) (vs : Nat → Value) (T : List HA) : Prop := ∀ p x, direct ops i p = true → M.lookup p = some x → (dstOf ops p).isSome = true → ∃ L', x.2 (vs p) L' ∧ ∀ A, A ∈ L' → A ∈ T
theorem pcs_mem {D : Nat → Prop} {outs : Nat → List HA} {p : Nat} {x : List HA × (Value → List HA → Prop)} (hD : D p) : ∀ {M : MV}, (p, x) ∈ M → ∀ A, A ∈ outs p → A ∈ pcs D outs M
  | m :: M, hm, A, hA => by
    rcases List.mem_cons.1 hm with rfl | hm
    · rw [pcs, if_pos hD]; exact List.mem_append_left _ hA
    · rw [pcs]; exact List.mem_append_right _ (pcs_mem hD hm A hA)
def RGm (P : Program) (ops : Array Oper) (M : MV) (ws : World) (S : List Nat) (h0 h : FH) (B : List HA) (Fin : ((Nat → Value) → Env) → Prop) : Nat → List Oper → ((Nat → Value) → Env) → Prop
  | _, [], sk => Fin sk
  | i, o :: rest, sk => match M.lookup i with
    | some x => (∀ vs w T, PFm ops M i vs T → St ws S h0 h (x.1 ++ (B ++ T)) w → Region.wanted o (yld ops (sk vs)) = true ∧ Ost P o (sk vs) w fun v w' => ∃ L', x.2 v L' ∧ St ws S h0 h (L' ++ (B ++ T)) w') ∧
        RGm P ops M ws S h0 h B Fin (i + 1) rest (fun vs => putv (sk vs) o.dst (vs i))
    | none => ∃ X, (∀ vs w T, PFm ops M i vs T → St ws S h0 h (B ++ T) w → Stp P ops o (sk vs) w fun v w' => Ext w w' ∧ (o.dst.isSome = true → v = X)) ∧
        RGm P ops M ws S h0 h B Fin (i + 1) rest (fun vs => putv (sk vs) o.dst X)
def Gm (M : MV) : GF := fun i => match M.lookup i with | some _ => some fun _ _ => True | none => none
def ObM (P : Program) (ops : Array Oper) (M : MV) (ws : World) (S : List Nat) (h0 h : FH) (B : List HA) (k : Nat) (o : Oper) (e : (Nat → Value) → Env) (y : Value) : Prop :=
  match M.lookup k with
  | some x => ∀ vs w T, PFm ops M k vs T → St ws S h0 h (x.1 ++ (B ++ T)) w → Region.wanted o (yld ops (e vs)) = true ∧ Ost P o (e vs) w fun v w' => ∃ L', x.2 v L' ∧ St ws S h0 h (L' ++ (B ++ T)) w'
  | none => ∀ vs w T, PFm ops M k vs T → St ws S h0 h (B ++ T) w → Stp P ops o (e vs) w fun v w' => Ext w w' ∧ (o.dst.isSome = true → v = y)
theorem RGm_tell {Fin : ((Nat → Value) → Env) → Prop} : ∀ (rest : List Oper) (i : Nat) (xs : Nat → Value),
    (∀ j, j < rest.length → rest[j]? = ops[i + j]?) → RGm P ops M ws S h0 h B Fin i rest (En ops (Gm M) s0 xs i) →
    ∃ ys : Nat → Value, (∀ p, p < i → ys p = xs p) ∧ (∀ k o, i ≤ k → k < i + rest.length → ops[k]? = some o → ObM P ops M ws S h0 h B k o (En ops (Gm M) s0 ys k) (ys k)) ∧ Fin (En ops (Gm M) s0 ys (i + rest.length)) := by
  intro rest
  induction rest with
  | nil => intro i xs _ h; exact ⟨xs, fun _ _ => rfl, fun k o h1 h2 => absurd h2 (by simp; omega), by simpa [RGm] using h⟩
  | cons o rest ih =>
    intro i xs hops h
    have ho : ops[i]? = some o := by have := hops 0 (by simp); simpa using this.symm
    have hd : dstOf ops i = o.dst := by simp [dstOf, ho]
    have hops' : ∀ j, j < rest.length → rest[j]? = ops[i + 1 + j]? := fun j hj => by
      have := hops (j + 1) (by simpa using hj)
      simp only [List.getElem?_cons_succ] at this
      rw [this]; congr 1; omega
    unfold RGm at h
    cases hg : M.lookup i with
    | some x =>
      simp only [hg] at h
      obtain ⟨h1, h2⟩ := h
      have hG : Gm M i = some fun _ _ => True := by simp [Gm, hg]
      have he : (fun vs => putv (En ops (Gm M) s0 xs i vs) o.dst (vs i)) = En ops (Gm M) s0 xs (i + 1) := by
        funext vs; simp [En, Val, hG, hd]
      rw [he] at h2
      obtain ⟨ys, hy1, hy2, hy3⟩ := ih (i + 1) xs hops' h2
      refine ⟨ys, fun p hp => hy1 p (by omega), fun k o' hk1 hk2 ho' => ?_, by rw [show i + (o :: rest).length = i + 1 + rest.length by simp; omega]; exact hy3⟩
      by_cases hk : k = i
      · subst hk
        rw [ho] at ho'; cases ho'
        rw [En_congr k fun p hp => hy1 p (by omega)]
        unfold ObM; simp only [hg]; exact h1
      · exact hy2 k o' (by omega) (by simp at hk2; omega) ho'
    | none =>
      simp only [hg] at h
      obtain ⟨X, h1, h2⟩ := h
      have hG : Gm M i = none := by simp [Gm, hg]
      let xs' : Nat → Value := fun p => if p = i then X else xs p
      have hx : ∀ p, p < i → xs' p = xs p := fun p hp => by simp [xs', show p ≠ i by omega]
      have he : (fun vs => putv (En ops (Gm M) s0 xs i vs) o.dst X) = En ops (Gm M) s0 xs' (i + 1) := by
        funext vs; simp [En, Val, hG, hd, xs', En_congr (G := Gm M) (s0 := s0) (ops := ops) i hx]
      rw [he] at h2
      obtain ⟨ys, hy1, hy2, hy3⟩ := ih (i + 1) xs' hops' h2
      have hyi : ys i = X := by rw [hy1 i (by omega)]; simp [xs']
      refine ⟨ys, fun p hp => (hy1 p (by omega)).trans (hx p hp), fun k o' hk1 hk2 ho' => ?_, by rw [show i + (o :: rest).length = i + 1 + rest.length by simp; omega]; exact hy3⟩
      by_cases hk : k = i
      · subst hk
        rw [ho] at ho'; cases ho'
        rw [En_congr k fun p hp => (hy1 p (by omega)).trans (hx p hp)]
        unfold ObM; simp only [hg, hyi]; exact h1
      · exact hy2 k o' (by omega) (by simp at hk2; omega) ho'
theorem lookup_split {i : Nat} {x : List HA × (Value → List HA → Prop)} {M : MV} (h : M.lookup i = some x) (hn : (M.map (·.1)).Nodup) : ∃ M1 M2, M = M1 ++ (i, x) :: M2 ∧ (∀ m, m ∈ M1 → m.1 ≠ i) ∧ (∀ m, m ∈ M2 → m.1 ≠ i) := by
  obtain ⟨M1, M2, rfl, h1⟩ := List.lookup_eq_some_iff.1 h
  refine ⟨M1, M2, rfl, fun m hm e => ?_, fun m hm e => ?_⟩
  · have := h1 m hm; simp [e] at this
  · rw [List.map_append, List.map_cons] at hn
    have := (List.nodup_cons.1 (List.nodup_append.1 hn).2.1).1
    exact this (List.mem_map.2 ⟨m, hm, e⟩)
theorem lookup_in {M : MV} {m : Nat × List HA × (Value → List HA → Prop)} (hm : m ∈ M) (hn : (M.map (·.1)).Nodup) : M.lookup m.1 = some m.2 := by
  obtain ⟨M1, M2, rfl⟩ := List.append_of_mem hm
  refine List.lookup_eq_some_iff.2 ⟨M1, M2, rfl, fun p hp => ?_⟩
  rw [List.map_append, List.map_cons] at hn
  have := (List.nodup_append.1 hn).2.2 p.1 (List.mem_map.2 ⟨p, hp, rfl⟩) m.1 (by simp)
  simp; exact fun e => this e.symm

theorem perm_lead (A B T : List HA) : (B ++ (A ++ T)).Perm (A ++ (B ++ T)) := by
  have := (List.perm_append_comm (l₁ := B) (l₂ := A)).append_right T
  rwa [List.append_assoc, List.append_assoc] at this
theorem Wc.drawM {id : Nat} {l : List Oper} {L : List HA} (kb : Nat) (M : MV) (B : List HA) (js : List Nat) [hm : Mix P] (H : St ws S h0 h L w0) (hok : drawOk n kb l.toArray = true) (hjs : M.map (·.1) = js) (hmv : mvOk kb l.toArray js = true) (hp : L.Perm (B ++ inpL M))
    (hr : RGm P l.toArray M ws S h0 h B (fun sk => ∀ vs w outs, St ws S h0 h (B ++ outsL outs M) w → (∀ j x, M.lookup j = some x → ∃ v, x.2 v (outs j) ∧ ((dstOf l.toArray j).isSome = true → vs j = v)) → WL P n l.toArray Q (l.drop kb) (sk vs) w) 0 (l.take kb) (fun _ => s0)) :
    Wc P n (.region id l.toArray true) Q s0 w0 := by
  have hok' := drawOk_spec hok
  have hlen : (l.take kb).length = kb := by have := hok'.le; simp at this; simp [this]
  obtain ⟨ys, _, hx, hF⟩ := RGm_tell (ops := l.toArray) (s0 := s0) (l.take kb) 0 (fun _ => undef) (fun j hj => by
    rw [hlen] at hj
    rw [List.getElem?_take, if_pos hj]; simp) (by exact hr)
  rw [hlen, Nat.zero_add] at hF
  subst hjs
  simp only [mvOk, Bool.and_eq_true, decide_eq_true_eq, List.all_eq_true] at hmv
  obtain ⟨hmv1, hnd⟩ := hmv
  have hmk : ∀ j x, M.lookup j = some x → j < kb := fun j x hj => by
    obtain ⟨M1, M2, rfl, _, _⟩ := lookup_split hj hnd
    exact nblt_true.1 (hmv1 j (by simp))
  let vsOf : Env → Nat → Value := fun s p => match dstOf l.toArray p with | some d => s d | none => undef
  have vsAt : ∀ s p d, dstOf l.toArray p = some d → vsOf s p = s d := fun s p d hd => by simp [vsOf, hd]
  let J : (Nat → Prop) → Env → World → Prop := fun D s w => Go.Tg.Out l.toArray kb s0 s ∧ (∀ p d, p < kb → D p → dstOf l.toArray p = some d → M.lookup p = none → s d = ys p) ∧
    ∃ outs, St ws S h0 h (B ++ pcs D outs M) w ∧ ∀ j x, M.lookup j = some x → D j → ∃ v, x.2 v (outs j) ∧ ∀ d, dstOf l.toArray j = some d → s d = v
  -- the slots of a state are those of the text
  have same : ∀ (D : Nat → Prop) (i : Nat) (o : Oper) s w, i < kb → l.toArray[i]? = some o → (∀ j, direct l.toArray i j = true → D j) → J D s w → ∀ t ∈ o.looksAt l.toArray, En l.toArray (Gm M) s0 ys i (vsOf s) t = s t := by
    intro D i o s w hi ho hp ⟨hO, hF, _⟩ t ht
    obtain ⟨e1, e2⟩ := En_at (s0 := s0) (G := Gm M) (xs := ys) (vs := vsOf s) hok' i (by omega)
    by_cases hex : ∃ p, p < kb ∧ dstOf l.toArray p = some t
    · obtain ⟨p, hpk, hpd⟩ := hex
      have hdir := hok'.look i o t p hi ho ht hpk hpd
      obtain ⟨o', ho', e, he, hb, rfl⟩ := direct_spec.1 hdir
      have hlt := hok'.back i o' e ho' he hb
      rw [e2 e.on t hlt hpd]
      unfold Val Gm
      cases hg : M.lookup e.on with
      | none => simp only; exact (hF e.on t hpk (hp _ hdir) hpd hg).symm
      | some x => simp only; exact vsAt s _ t hpd
    · have hnot : ∀ j, j < kb → dstOf l.toArray j ≠ some t := fun j hj hjd => hex ⟨j, hj, hjd⟩
      rw [e1 t fun j hj => hnot j (by omega)]
      exact (hO t hnot).symm
  have lin : ∀ p x, M.lookup p = some x → (p, x) ∈ M := fun p x h => by
    obtain ⟨M1, M2, rfl, _, _⟩ := lookup_split h hnd
    simp
  have pf : ∀ (D : Nat → Prop) (i : Nat) s (outs : Nat → List HA) (T : List HA), (∀ j, direct l.toArray i j = true → D j) → (∀ j x, M.lookup j = some x → D j → ∃ v, x.2 v (outs j) ∧ ∀ d, dstOf l.toArray j = some d → s d = v) → (∀ p x, M.lookup p = some x → D p → ∀ A, A ∈ outs p → A ∈ T) → PFm l.toArray M i (vsOf s) T := by
    intro D i s outs T hp hR hT p x hd hl hds
    obtain ⟨d, hdd⟩ := Option.isSome_iff_exists.1 hds
    obtain ⟨v, h1, h2⟩ := hR p x hl (hp p hd)
    exact ⟨outs p, by rw [vsAt s p d hdd, h2 d hdd]; exact h1, hT p x hl (hp p hd)⟩
  have out' : ∀ (i : Nat) (o : Oper) (s : Env) v, i < kb → l.toArray[i]? = some o → Go.Tg.Out l.toArray kb s0 s → Go.Tg.Out l.toArray kb s0 (putv s o.dst v) := by
    intro i o s v hi ho hO t ht
    have hdst : o.dst = dstOf l.toArray i := by simp [dstOf, ho]
    have hne' : o.dst ≠ some t := by rw [hdst]; exact ht i hi
    have : putv s o.dst v t = s t := by
      cases hd : o.dst with
      | none => rfl
      | some d => exact upd_ne (fun e => hne' (by rw [hd, e]))
    rw [this]; exact hO t ht
  have keep : ∀ (i : Nat) (o : Oper) (s : Env) v p d, i < kb → l.toArray[i]? = some o → p < kb → p ≠ i → dstOf l.toArray p = some d → putv s o.dst v d = s d := by
    intro i o s v p d hi ho hpk hpi hd
    have hdst : o.dst = dstOf l.toArray i := by simp [dstOf, ho]
    have hne' : o.dst ≠ some d := fun e => hpi (hok'.apart p i d hpk hi hd (hdst ▸ e))
    cases hd' : o.dst with
    | none => rfl
    | some d' => exact upd_ne (fun e => hne' (by rw [hd', e]))
  refine Wc.draw_gen (kb := kb) (J := J) hok' hm.m ⟨fun _ _ => rfl, fun _ _ _ hD => hD.elim, fun _ => [], ?_, fun _ _ _ hD => hD.elim⟩ (fun D i o hi ho hnD hp hDk s w hJ => ?_) (fun D s w hall hDk hJ => ?_)
  · rw [pcs_none]
    exact (H.perm hp).ext ⟨rfl, rfl, rfl, Nat.le_refl _, fun _ _ _ => rfl⟩
  · have hsame := same D i o s w hi ho hp hJ
    obtain ⟨hO, hF', outs, hS, hR⟩ := hJ
    have hob := hx i o (by omega) (by omega) ho
    have hdst : o.dst = dstOf l.toArray i := by simp [dstOf, ho]
    unfold ObM at hob
    cases hg : M.lookup i with
    | none =>
      simp only [hg] at hob
      refine Stp.mono (Stp.same (fun cs b => hok'.sel i o cs b ho) hsame (hob (vsOf s) w (pcs D outs M) (pf D i s outs _ hp hR fun p x hl hD => pcs_mem hD (lin p x hl)) hS)) fun v w' ⟨hE, hv⟩ => ⟨out' i o s v hi ho hO, fun p d hpk hD hd hl => ?_, outs, ?_, fun j x hl hD => ?_⟩
      · by_cases hpi : p = i
        · subst hpi
          have : o.dst = some d := hdst.trans hd
          rw [this]; simp only [putv, upd_same]
          exact hv (by rw [this]; rfl)
        · rw [keep i o s v p d hi ho hpk hpi hd]
          exact hF' p d hpk (hD.resolve_left hpi) hd hl
      · rw [pcs_congr (D' := D) (outs' := outs) fun m hm' => ⟨⟨fun h => h.resolve_left (fun e => (by rw [← e, lookup_in hm' hnd] at hg; cases hg)), .inr⟩, fun _ => rfl⟩]
        exact hS.ext hE
      · have hji : j ≠ i := fun e => by rw [e, hg] at hl; cases hl
        obtain ⟨u, h1, h2⟩ := hR j x hl (hD.resolve_left hji)
        exact ⟨u, h1, fun d hd => (keep i o s v j d hi ho (hmk j x hl) hji hd).trans (h2 d hd)⟩
    | some x =>
      simp only [hg] at hob
      obtain ⟨M1, M2, hM, hn1, hn2⟩ := lookup_split hg hnd
      have hsplit : ∀ (D : Nat → Prop) (outs : Nat → List HA), pcs D outs M = pcs D outs M1 ++ (pcs D outs [(i, x)] ++ pcs D outs M2) := fun D outs => by
        rw [hM, pcs_app, show (i, x) :: M2 = [(i, x)] ++ M2 from rfl, pcs_app]
      have hone : pcs D outs [(i, x)] = x.1 := by simp [pcs, hnD]
      have hperm : ∀ (A T1 T2 : List HA), (B ++ (T1 ++ (A ++ T2))).Perm (A ++ (B ++ (T1 ++ T2))) := fun A T1 T2 => by
        exact ((perm_lead A T1 T2).append_left B).trans (perm_lead A B (T1 ++ T2))
      have hS' := hS
      rw [hsplit, hone] at hS'
      have hpf := pf D i s outs (pcs D outs M1 ++ pcs D outs M2) hp hR fun p y hl hD A hA => by
        have hpi : p ≠ i := fun e => hnD (e ▸ hD)
        have hin := lin p y hl
        rw [hM] at hin
        rcases List.mem_append.1 hin with h1 | h1
        · exact List.mem_append_left _ (pcs_mem hD h1 A hA)
        · rcases List.mem_cons.1 h1 with h1 | h1
          · exact absurd (congrArg Prod.fst h1) hpi
          · exact List.mem_append_right _ (pcs_mem hD h1 A hA)
      obtain ⟨hw, hst⟩ := hob (vsOf s) w (pcs D outs M1 ++ pcs D outs M2) hpf (hS'.perm (hperm _ _ _))
      have hstp : Stp P l.toArray o (En l.toArray (Gm M) s0 ys i (vsOf s)) w fun v w' => ∃ L', x.2 v L' ∧ St ws S h0 h (L' ++ (B ++ (pcs D outs M1 ++ pcs D outs M2))) w' := ⟨fun _ => hst, fun hn => absurd hw (by simp [hn])⟩
      refine Stp.mono (Stp.same (fun cs b => hok'.sel i o cs b ho) hsame hstp) fun v w' ⟨L', hR', hS2⟩ => ⟨out' i o s v hi ho hO, fun p d hpk hD hd hl => ?_, fun j => if j = i then L' else outs j, ?_, fun j y hl hD => ?_⟩
      · have hpi : p ≠ i := fun e => by rw [e, hg] at hl; cases hl
        rw [keep i o s v p d hi ho hpk hpi hd]
        exact hF' p d hpk (hD.resolve_left hpi) hd hl
      · rw [hsplit]
        have e1 : pcs (fun j => j = i ∨ D j) (fun j => if j = i then L' else outs j) [(i, x)] = L' := by simp [pcs]
        have e2 : pcs (fun j => j = i ∨ D j) (fun j => if j = i then L' else outs j) M1 = pcs D outs M1 := pcs_congr fun m hm' => ⟨⟨fun h => h.resolve_left (hn1 m hm'), .inr⟩, fun _ => by simp [hn1 m hm']⟩
        have e3 : pcs (fun j => j = i ∨ D j) (fun j => if j = i then L' else outs j) M2 = pcs D outs M2 := pcs_congr fun m hm' => ⟨⟨fun h => h.resolve_left (hn2 m hm'), .inr⟩, fun _ => by simp [hn2 m hm']⟩
        rw [e1, e2, e3]
        exact hS2.perm (hperm _ _ _).symm
      · by_cases hji : j = i
        · subst hji
          rw [hg] at hl; cases hl
          refine ⟨v, by simpa using hR', fun d hd => ?_⟩
          have : o.dst = some d := hdst.trans hd
          rw [this]; simp only [putv, upd_same]
        · simp only [hji, if_false]
          obtain ⟨u, h1, h2⟩ := hR j y hl (hD.resolve_left hji)
          exact ⟨u, h1, fun d hd => (keep i o s v j d hi ho (hmk j y hl) hji hd).trans (h2 d hd)⟩
  · obtain ⟨hO, hF', outs, hS, hR⟩ := hJ
    have hs : s = En l.toArray (Gm M) s0 ys kb (vsOf s) := by
      funext t
      obtain ⟨e1, e2⟩ := En_at (s0 := s0) (G := Gm M) (xs := ys) (vs := vsOf s) hok' kb (Nat.le_refl _)
      by_cases hex : ∃ p, p < kb ∧ dstOf l.toArray p = some t
      · obtain ⟨p, hpk, hpd⟩ := hex
        rw [e2 p t hpk hpd]
        unfold Val Gm
        cases hg : M.lookup p with
        | none => simp only; exact hF' p t hpk (hall p hpk) hpd hg
        | some x => simp only; exact (vsAt s _ t hpd).symm
      · have hnot : ∀ j, j < kb → dstOf l.toArray j ≠ some t := fun j hj hjd => hex ⟨j, hj, hjd⟩
        rw [e1 t hnot]; exact hO t hnot
    have := hF (vsOf s) w outs (by rw [← pcs_all (D := D) fun m hm' => hall m.1 (hmk m.1 m.2 (lookup_in hm' hnd))]; exact hS) fun j x hl => by
      obtain ⟨v, h1, h2⟩ := hR j x hl (hall j (hmk j x hl))
      refine ⟨v, h1, fun hds => ?_⟩
      obtain ⟨d, hd⟩ := Option.isSome_iff_exists.1 hds
      rw [vsAt s j d hd]; exact h2 d hd
    rw [← hs] at this
    simpa using this
end mv
section
variable {P : Program} {ops : Array Oper} {M : MV} {ws : World} {S : List Nat} {h0 h : FH} {B : List HA} {Fin : ((Nat → Value) → Env) → Prop} {i : Nat} {rest : List Oper} {sk : (Nat → Value) → Env} {op : Op} {ty : TypeId} {pos : String} {af : Array Edge} {d : Nat} {X : Value}
theorem rgm_nil (h' : Fin sk) : RGm P ops M ws S h0 h B Fin i [] sk := by unfold RGm; exact h'
theorem rgm_val {o : Oper} (hG : M.lookup i = none) (hw : ∀ vs, Region.wanted o (yld ops (sk vs)) = true)
    (h' : ∀ vs w T, PFm ops M i vs T → St ws S h0 h (B ++ T) w → Ost P o (sk vs) w fun v w' => Ext w w' ∧ v = X) (hr : RGm P ops M ws S h0 h B Fin (i + 1) rest (fun vs => putv (sk vs) o.dst X)) : RGm P ops M ws S h0 h B Fin i (o :: rest) sk := by
  unfold RGm
  simp only [hG]
  exact ⟨X, fun vs w T hP H => ⟨fun _ => (h' vs w T hP H).mono fun v w' ⟨a, b⟩ => ⟨a, fun _ => b⟩, fun hn => absurd (hw vs) (by simp [hn])⟩, hr⟩
theorem rgm_bool {o : Oper} {q : Bool} (hG : M.lookup i = none) (hw : ∀ vs, Region.wanted o (yld ops (sk vs)) = true)
    (h' : ∀ vs w T, PFm ops M i vs T → St ws S h0 h (B ++ T) w → Ost P o (sk vs) w fun v w' => Ext w w' ∧ v = .bool q) (ht : q = true → RGm P ops M ws S h0 h B Fin (i + 1) rest (fun vs => putv (sk vs) o.dst (.bool true)))
    (hf : q = false → RGm P ops M ws S h0 h B Fin (i + 1) rest (fun vs => putv (sk vs) o.dst (.bool false))) : RGm P ops M ws S h0 h B Fin i (o :: rest) sk := by
  cases q
  · exact rgm_val hG hw h' (hf rfl)
  · exact rgm_val hG hw h' (ht rfl)
theorem rgm_skip {o : Oper} (hG : M.lookup i = none) (hw : ∀ vs, Region.wanted o (yld ops (sk vs)) = false) (hr : RGm P ops M ws S h0 h B Fin (i + 1) rest (fun vs => putv (sk vs) o.dst undef)) : RGm P ops M ws S h0 h B Fin i (o :: rest) sk := by
  unfold RGm
  simp only [hG]
  exact ⟨undef, fun vs w T hP H => ⟨fun hn => absurd hn (by simp [hw vs]), fun _ => ⟨Fr.refl _ _, fun _ => rfl⟩⟩, hr⟩
theorem rgm_mov {o : Oper} {x : List HA × (Value → List HA → Prop)} (hG : M.lookup i = some x) (hw : ∀ vs, Region.wanted o (yld ops (sk vs)) = true)
    (h' : ∀ vs w T, PFm ops M i vs T → St ws S h0 h (x.1 ++ (B ++ T)) w → Ost P o (sk vs) w fun v w' => ∃ L', x.2 v L' ∧ St ws S h0 h (L' ++ (B ++ T)) w') (hr : RGm P ops M ws S h0 h B Fin (i + 1) rest (fun vs => putv (sk vs) o.dst (vs i))) : RGm P ops M ws S h0 h B Fin i (o :: rest) sk := by
  unfold RGm
  simp only [hG]
  exact ⟨fun vs w T hP H => ⟨hw vs, h' vs w T hP H⟩, hr⟩
theorem RGm.p (hG : M.lookup i = none) (h' : ∀ vs w T, PFm ops M i vs T → St ws S h0 h (B ++ T) w → Ost P ⟨some d, op, ty, pos, af, none⟩ (sk vs) w fun v w' => Ext w w' ∧ v = X) (hr : RGm P ops M ws S h0 h B Fin (i + 1) rest (fun vs => upd (sk vs) d X)) : RGm P ops M ws S h0 h B Fin i (⟨some d, op, ty, pos, af, none⟩ :: rest) sk := rgm_val hG (fun _ => rfl) h' hr
theorem RGm.b {q : Bool} (hG : M.lookup i = none) (h' : ∀ vs w T, PFm ops M i vs T → St ws S h0 h (B ++ T) w → Ost P ⟨some d, op, ty, pos, af, none⟩ (sk vs) w fun v w' => Ext w w' ∧ v = .bool q)
    (ht : q = true → RGm P ops M ws S h0 h B Fin (i + 1) rest (fun vs => upd (sk vs) d (.bool true))) (hf : q = false → RGm P ops M ws S h0 h B Fin (i + 1) rest (fun vs => upd (sk vs) d (.bool false))) : RGm P ops M ws S h0 h B Fin i (⟨some d, op, ty, pos, af, none⟩ :: rest) sk := rgm_bool hG (fun _ => rfl) h' ht hf
theorem RGm.g {j : Nat} {b : Bool} (hw : ∀ vs, (yld ops (sk vs) j == some b) = true) (hG : M.lookup i = none) (h' : ∀ vs w T, PFm ops M i vs T → St ws S h0 h (B ++ T) w → Ost P ⟨some d, op, ty, pos, af, some (j, b)⟩ (sk vs) w fun v w' => Ext w w' ∧ v = X) (hr : RGm P ops M ws S h0 h B Fin (i + 1) rest (fun vs => upd (sk vs) d X)) : RGm P ops M ws S h0 h B Fin i (⟨some d, op, ty, pos, af, some (j, b)⟩ :: rest) sk := rgm_val hG hw h' hr
theorem RGm.skp {j : Nat} {b : Bool} (hw : ∀ vs, (yld ops (sk vs) j == some b) = false) (hG : M.lookup i = none) (hr : RGm P ops M ws S h0 h B Fin (i + 1) rest (fun vs => upd (sk vs) d undef)) : RGm P ops M ws S h0 h B Fin i (⟨some d, op, ty, pos, af, some (j, b)⟩ :: rest) sk := rgm_skip hG hw hr
theorem RGm.m {x : List HA × (Value → List HA → Prop)} (hG : M.lookup i = some x) (h' : ∀ vs w T, PFm ops M i vs T → St ws S h0 h (x.1 ++ (B ++ T)) w → Ost P ⟨some d, op, ty, pos, af, none⟩ (sk vs) w fun v w' => ∃ L', x.2 v L' ∧ St ws S h0 h (L' ++ (B ++ T)) w') (hr : RGm P ops M ws S h0 h B Fin (i + 1) rest (fun vs => upd (sk vs) d (vs i))) : RGm P ops M ws S h0 h B Fin i (⟨some d, op, ty, pos, af, none⟩ :: rest) sk := rgm_mov hG (fun _ => rfl) h' hr
theorem RGm.mg {j : Nat} {b : Bool} {x : List HA × (Value → List HA → Prop)} (hw : ∀ vs, (yld ops (sk vs) j == some b) = true) (hG : M.lookup i = some x) (h' : ∀ vs w T, PFm ops M i vs T → St ws S h0 h (x.1 ++ (B ++ T)) w → Ost P ⟨some d, op, ty, pos, af, some (j, b)⟩ (sk vs) w fun v w' => ∃ L', x.2 v L' ∧ St ws S h0 h (L' ++ (B ++ T)) w') (hr : RGm P ops M ws S h0 h B Fin (i + 1) rest (fun vs => upd (sk vs) d (vs i))) : RGm P ops M ws S h0 h B Fin i (⟨some d, op, ty, pos, af, some (j, b)⟩ :: rest) sk := rgm_mov hG hw h' hr
theorem RGm.mu {x : List HA × (Value → List HA → Prop)} (hG : M.lookup i = some x) (h' : ∀ vs w T, PFm ops M i vs T → St ws S h0 h (x.1 ++ (B ++ T)) w → Ost P ⟨none, op, ty, pos, af, none⟩ (sk vs) w fun v w' => ∃ L', x.2 v L' ∧ St ws S h0 h (L' ++ (B ++ T)) w') (hr : RGm P ops M ws S h0 h B Fin (i + 1) rest sk) : RGm P ops M ws S h0 h B Fin i (⟨none, op, ty, pos, af, none⟩ :: rest) sk := rgm_mov hG (fun _ => rfl) h' hr
theorem RGm.u (hG : M.lookup i = none) (h' : ∀ vs w T, PFm ops M i vs T → St ws S h0 h (B ++ T) w → Ost P ⟨none, op, ty, pos, af, none⟩ (sk vs) w fun v w' => Ext w w' ∧ v = X) (hr : RGm P ops M ws S h0 h B Fin (i + 1) rest sk) : RGm P ops M ws S h0 h B Fin i (⟨none, op, ty, pos, af, none⟩ :: rest) sk := rgm_val hG (fun _ => rfl) h' hr
end
attribute [irreducible] RGm
end Go.Tg

