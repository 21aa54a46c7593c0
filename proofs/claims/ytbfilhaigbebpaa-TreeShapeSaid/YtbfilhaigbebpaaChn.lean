/- Regions that draw their order, some of whose operations make a thing that a later one of the same region changes: chains of two. -/
import Derived.Test.YtbfilhaigbebpaaMov
set_option linter.unusedVariables false
set_option linter.unusedSimpArgs false
namespace Go.Tg
open Go
structure Cm where
  i : Nat
  j : Nat
  inp : List HA
  r1 : Value → List HA → Prop
  r2 : Value → List HA → Prop
abbrev CV := List Cm
open Classical in
noncomputable def pcc (D : Nat → Prop) (outs : Nat → List HA) : CV → List HA
  | [] => []
  | m :: M => (if D m.i then outs m.i else m.inp) ++ pcc D outs M
def outsC (outs : Nat → List HA) : CV → List HA
  | [] => []
  | m :: M => outs m.i ++ outsC outs M
def inpC : CV → List HA
  | [] => []
  | m :: M => m.inp ++ inpC M
def CV.at (M : CV) (k : Nat) : Option Cm := M.find? fun m => m.i == k
def CV.nx (M : CV) (k : Nat) : Option Cm := M.find? fun m => m.j == k
def cvOk (kb : Nat) (ops : Array Oper) (M : List (Nat × Nat)) : Bool := (M.all fun m => Nat.blt m.1 kb && (dstOf ops m.1).isSome && (!Nat.blt m.2 kb || (direct ops m.2 m.1 && (dstOf ops m.2).isNone))) && decide (M.map (·.1)).Nodup && (M.all fun m => M.all fun m' => m.2 != m'.2 || m.1 == m'.1) && (M.all fun m => M.all fun m' => m.1 != m'.2)
section mv
variable {P : Program} {n kb : Nat} {ops : Array Oper} {Q : Exit → Env → World → Prop} {s0 : Env} {w0 ws : World} {S : List Nat} {h0 h : FH} {B : List HA} {M : CV}
theorem pcc_app (D : Nat → Prop) (outs : Nat → List HA) : ∀ (M1 M2 : CV), pcc D outs (M1 ++ M2) = pcc D outs M1 ++ pcc D outs M2
  | [], _ => rfl
  | m :: M1, M2 => by simp only [List.cons_append, pcc, pcc_app D outs M1, List.append_assoc]
theorem pcc_congr {D D' : Nat → Prop} {outs outs' : Nat → List HA} : ∀ {M : CV}, (∀ m, m ∈ M → (D m.i ↔ D' m.i) ∧ (D m.i → outs m.i = outs' m.i)) → pcc D outs M = pcc D' outs' M
  | [], _ => rfl
  | m :: M, hh => by
    have h1 := hh m (by simp)
    rw [pcc, pcc, pcc_congr fun x hx => hh x (by simp [hx])]
    by_cases hd : D m.i
    · rw [if_pos hd, if_pos (h1.1.1 hd), h1.2 hd]
    · rw [if_neg hd, if_neg (fun e => hd (h1.1.2 e))]
theorem pcc_none {outs : Nat → List HA} : ∀ {M : CV}, pcc (fun _ => False) outs M = inpC M
  | [] => rfl
  | m :: M => by rw [pcc, if_neg (fun h => h), pcc_none, inpC]
theorem pcc_all {D : Nat → Prop} {outs : Nat → List HA} : ∀ {M : CV}, (∀ m, m ∈ M → D m.i) → pcc D outs M = outsC outs M
  | [], _ => rfl
  | m :: M, hh => by rw [pcc, if_pos (hh m (by simp)), pcc_all fun x hx => hh x (by simp [hx]), outsC]
def path (ops : Array Oper) : Nat → List Nat → Nat → Bool
  | i, [], p => direct ops i p
  | i, j :: l, p => direct ops i j && path ops j l p
def reach (ops : Array Oper) (i p : Nat) : Prop := ∃ l, path ops i l p = true
theorem reach_D {ops : Array Oper} {D : Nat → Prop} (hcl : ∀ p q, D p → direct ops p q = true → D q) : ∀ (l : List Nat) (i p : Nat), (∀ j, direct ops i j = true → D j) → path ops i l p = true → D p
  | [], i, p, h, hp => h p hp
  | j :: l, i, p, h, hp => by
    simp only [path, Bool.and_eq_true] at hp
    exact reach_D hcl l j p (fun q hq => hcl j q (h j hp.1) hq) hp.2
theorem reach_path {ops : Array Oper} {D : Nat → Prop} (hcl : ∀ p q, D p → direct ops p q = true → D q) {i p : Nat} (h : D i) (hr : reach ops i p) : D p := by
  obtain ⟨l, hl⟩ := hr
  exact reach_D hcl l i p (fun j hj => hcl i j h hj) hl
def PFc (ops : Array Oper) (M : CV) (i : Nat) (vs : Nat → Value) (T : List HA) : Prop := ∀ p m, reach ops i p → M.at p = some m → ∃ L', m.r1 (vs p) L' ∧ (ops.size ≤ m.j → ∀ A, A ∈ L' → A ∈ T)
def Stb (ops : Array Oper) (M : CV) (i : Nat) (X : (Nat → Value) → Value) : Prop := ∀ vs vs', (∀ q, reach ops i q → (M.at q).isSome = true → vs q = vs' q) → X vs = X vs'
theorem pcc_mem {D : Nat → Prop} {outs : Nat → List HA} {m : Cm} (hD : D m.i) : ∀ {M : CV}, m ∈ M → ∀ A, A ∈ outs m.i → A ∈ pcc D outs M
  | x :: M, hm, A, hA => by
    rcases List.mem_cons.1 hm with rfl | hm
    · rw [pcc, if_pos hD]; exact List.mem_append_left _ hA
    · rw [pcc]; exact List.mem_append_right _ (pcc_mem hD hm A hA)
def ObC (P : Program) (ops : Array Oper) (M : CV) (ws : World) (S : List Nat) (h0 h : FH) (B : List HA) (k : Nat) (o : Oper) (e : (Nat → Value) → Env) (y : (Nat → Value) → Value) : Prop :=
  match M.at k with
  | some m => ∀ vs w T, PFc ops M k vs T → St ws S h0 h (m.inp ++ (B ++ T)) w → Region.wanted o (yld ops (e vs)) = true ∧ Ost P o (e vs) w fun v w' => ∃ L', m.r1 v L' ∧ St ws S h0 h (L' ++ (B ++ T)) w'
  | none => match M.nx k with
    | some m => ∀ vs w T L1, PFc ops M k vs T → m.r1 (vs m.i) L1 → St ws S h0 h (L1 ++ (B ++ T)) w → Region.wanted o (yld ops (e vs)) = true ∧ Ost P o (e vs) w fun _ w' => ∃ L', m.r2 (vs m.i) L' ∧ St ws S h0 h (L' ++ (B ++ T)) w'
    | none => ∀ vs w T, PFc ops M k vs T → St ws S h0 h (B ++ T) w → Stp P ops o (e vs) w fun v w' => Ext w w' ∧ (o.dst.isSome = true → v = y vs)
def RGc (P : Program) (ops : Array Oper) (M : CV) (ws : World) (S : List Nat) (h0 h : FH) (B : List HA) (Fin : ((Nat → Value) → Env) → Prop) : Nat → List Oper → ((Nat → Value) → Env) → Prop
  | _, [], sk => Fin sk
  | i, o :: rest, sk => ∃ X, Stb ops M i X ∧ ObC P ops M ws S h0 h B i o sk X ∧ RGc P ops M ws S h0 h B Fin (i + 1) rest (fun vs => putv (sk vs) o.dst (match M.at i with | some _ => vs i | none => X vs))
def Gc (M : CV) : GF := fun i => match M.at i with | some _ => some fun _ _ => True | none => none
theorem RGc_tell {Fin : ((Nat → Value) → Env) → Prop} : ∀ (rest : List Oper) (i : Nat) (xs : Nat → (Nat → Value) → Value),
    (∀ j, j < rest.length → rest[j]? = ops[i + j]?) → RGc P ops M ws S h0 h B Fin i rest (fun vs => En ops (Gc M) s0 (fun p => xs p vs) i vs) →
    ∃ ys : Nat → (Nat → Value) → Value, (∀ p, p < i → ys p = xs p) ∧ (∀ k o, i ≤ k → k < i + rest.length → ops[k]? = some o → Stb ops M k (ys k) ∧ ObC P ops M ws S h0 h B k o (fun vs => En ops (Gc M) s0 (fun p => ys p vs) k vs) (ys k)) ∧ Fin (fun vs => En ops (Gc M) s0 (fun p => ys p vs) (i + rest.length) vs) := by
  intro rest
  induction rest with
  | nil => intro i xs _ h; exact ⟨xs, fun _ _ => rfl, fun k o h1 h2 => absurd h2 (by simp; omega), by simpa [RGc] using h⟩
  | cons o rest ih =>
    intro i xs hops h
    have ho : ops[i]? = some o := by have := hops 0 (by simp); simpa using this.symm
    have hd : dstOf ops i = o.dst := by simp [dstOf, ho]
    have hops' : ∀ j, j < rest.length → rest[j]? = ops[i + 1 + j]? := fun j hj => by
      have := hops (j + 1) (by simpa using hj)
      simp only [List.getElem?_cons_succ] at this
      rw [this]; congr 1; omega
    unfold RGc at h
    obtain ⟨X, hst, h1, h2⟩ := h
    let xs' : Nat → (Nat → Value) → Value := fun p => if p = i then X else xs p
    have hx : ∀ p, p < i → xs' p = xs p := fun p hp => by simp [xs', show p ≠ i by omega]
    have hxv : ∀ vs, En ops (Gc M) s0 (fun p => xs' p vs) i = En ops (Gc M) s0 (fun p => xs p vs) i := fun vs => En_congr i fun p hp => by rw [hx p hp]
    have he : (fun vs => putv (En ops (Gc M) s0 (fun p => xs p vs) i vs) o.dst (match M.at i with | some _ => vs i | none => X vs)) = fun vs => En ops (Gc M) s0 (fun p => xs' p vs) (i + 1) vs := by
      funext vs
      simp only [En, hxv, hd, Val, Gc]
      cases M.at i <;> simp [xs']
    rw [he] at h2
    obtain ⟨ys, hy1, hy2, hy3⟩ := ih (i + 1) xs' hops' h2
    have hyi : ys i = X := by rw [hy1 i (by omega)]; simp [xs']
    refine ⟨ys, fun p hp => (hy1 p (by omega)).trans (hx p hp), fun k o' hk1 hk2 ho' => ?_, by rw [show i + (o :: rest).length = i + 1 + rest.length by simp; omega]; exact hy3⟩
    by_cases hk : k = i
    · subst hk
      rw [ho] at ho'; cases ho'
      have hev : (fun vs => En ops (Gc M) s0 (fun p => ys p vs) k vs) = fun vs => En ops (Gc M) s0 (fun p => xs p vs) k vs := by
        funext vs
        rw [En_congr k fun p hp => congrFun ((hy1 p (by omega)).trans (hx p hp)) vs]
      rw [hev, hyi]
      exact ⟨hst, h1⟩
    · exact hy2 k o' (by omega) (by simp at hk2; omega) ho'
theorem at_split {k : Nat} {m : Cm} (h : M.at k = some m) (hn : (M.map (·.i)).Nodup) : m.i = k ∧ ∃ M1 M2, M = M1 ++ m :: M2 ∧ (∀ x, x ∈ M1 → x.i ≠ k) ∧ (∀ x, x ∈ M2 → x.i ≠ k) := by
  unfold CV.at at h
  rw [List.find?_eq_some_iff_append] at h
  obtain ⟨hk, M1, M2, rfl, h1⟩ := h
  have hk : m.i = k := by simpa using hk
  refine ⟨hk, M1, M2, rfl, fun x hx e => ?_, fun x hx e => ?_⟩
  · have := h1 x hx; simp [e] at this
  · rw [List.map_append, List.map_cons] at hn
    have := (List.nodup_cons.1 (List.nodup_append.1 hn).2.1).1
    exact this (List.mem_map.2 ⟨x, hx, e.trans hk.symm⟩)
theorem at_in {m : Cm} (hm : m ∈ M) (hn : (M.map (·.i)).Nodup) : M.at m.i = some m := by
  obtain ⟨M1, M2, rfl⟩ := List.append_of_mem hm
  unfold CV.at
  rw [List.find?_eq_some_iff_append]
  refine ⟨by simp, M1, M2, rfl, fun p hp => ?_⟩
  rw [List.map_append, List.map_cons] at hn
  have := (List.nodup_append.1 hn).2.2 p.i (List.mem_map.2 ⟨p, hp, rfl⟩) m.i (by simp)
  simp; exact this
theorem nx_mem {k : Nat} {m : Cm} (h : M.nx k = some m) : m ∈ M ∧ m.j = k := by
  unfold CV.nx at h
  exact ⟨List.mem_of_find?_eq_some h, by simpa using List.find?_some h⟩
theorem nx_none {k : Nat} (h : M.nx k = none) : ∀ m, m ∈ M → m.j ≠ k := fun m hm e => by
  unfold CV.nx at h
  have := List.find?_eq_none.1 h m hm
  simp [e] at this
theorem Wc.drawC {id : Nat} {l : List Oper} {L : List HA} (kb : Nat) (M : CV) (B : List HA) (ijs : List (Nat × Nat)) [hm : Mix P] (H : St ws S h0 h L w0) (hok : drawOk n kb l.toArray = true) (hijs : M.map (fun m => (m.i, m.j)) = ijs) (hmv : cvOk kb l.toArray ijs = true) (hp : L.Perm (B ++ inpC M))
    (hr : RGc P l.toArray M ws S h0 h B (fun sk => ∀ vs w outs, St ws S h0 h (B ++ outsC outs M) w → (∀ m, m ∈ M → (m.j < kb → m.r2 (vs m.i) (outs m.i)) ∧ (kb ≤ m.j → m.r1 (vs m.i) (outs m.i))) → WL P n l.toArray Q (l.drop kb) (sk vs) w) 0 (l.take kb) (fun _ => s0)) :
    Wc P n (.region id l.toArray true) Q s0 w0 := by
  have hok' := drawOk_spec hok
  have hlen : (l.take kb).length = kb := by have := hok'.le; simp at this; simp [this]
  obtain ⟨ys, _, hx, hF⟩ := RGc_tell (ops := l.toArray) (s0 := s0) (l.take kb) 0 (fun _ _ => undef) (fun j hj => by
    rw [hlen] at hj
    rw [List.getElem?_take, if_pos hj]; simp) (by exact hr)
  rw [hlen, Nat.zero_add] at hF
  subst hijs
  simp only [cvOk, Bool.and_eq_true, decide_eq_true_eq, List.all_map, List.map_map, List.all_eq_true, Function.comp_def] at hmv
  obtain ⟨⟨⟨hmv1, hnd⟩, hndj⟩, hij⟩ := hmv
  have mi : ∀ m, m ∈ M → m.i < kb := fun m hm => nblt_true.1 (hmv1 m hm).1.1
  have ms : ∀ m, m ∈ M → (dstOf l.toArray m.i).isSome = true := fun m hm => (hmv1 m hm).1.2
  have mjj : ∀ m, m ∈ M → m.j < kb → direct l.toArray m.j m.i = true ∧ dstOf l.toArray m.j = none := fun m hm hj => by
    have := (hmv1 m hm).2
    rw [nblt_true.2 hj] at this
    simpa using this
  have mij : ∀ m, m ∈ M → ∀ m', m' ∈ M → m.i ≠ m'.j := fun m hm m' hm' => by simpa using hij m hm m' hm'
  have jinj : ∀ m, m ∈ M → ∀ m', m' ∈ M → m.j = m'.j → m = m' := fun m hm m' hm' e => by
    have h1 : m.i = m'.i := by
      have := hndj m hm m' hm'
      simpa [e] using this
    have h2 := at_in hm hnd
    rw [h1, at_in hm' hnd] at h2
    exact (Option.some.inj h2).symm
  let vsOf : Env → Nat → Value := fun s p => match dstOf l.toArray p with | some d => s d | none => undef
  have vsAt : ∀ s p d, dstOf l.toArray p = some d → vsOf s p = s d := fun s p d hd => by simp [vsOf, hd]
  let J : (Nat → Prop) → Env → World → Prop := fun D s w => Go.Tg.Out l.toArray kb s0 s ∧ (∀ p d, p < kb → D p → dstOf l.toArray p = some d → M.at p = none → s d = ys p (vsOf s)) ∧ (∀ p q, D p → direct l.toArray p q = true → D q) ∧ (∀ m, m ∈ M → D m.j → D m.i) ∧
    ∃ outs, St ws S h0 h (B ++ pcc D outs M) w ∧ ∀ m, m ∈ M → D m.i → (∃ L1, m.r1 (vsOf s m.i) L1) ∧ (D m.j → m.r2 (vsOf s m.i) (outs m.i)) ∧ (¬ D m.j → m.r1 (vsOf s m.i) (outs m.i))
  -- the slots of a state are those of the text
  have same : ∀ (D : Nat → Prop) (i : Nat) (o : Oper) s w, i < kb → l.toArray[i]? = some o → (∀ j, direct l.toArray i j = true → D j) → J D s w → ∀ t ∈ o.looksAt l.toArray, En l.toArray (Gc M) s0 (fun p => ys p (vsOf s)) i (vsOf s) t = s t := by
    intro D i o s w hi ho hp ⟨hO, hF, _⟩ t ht
    obtain ⟨e1, e2⟩ := En_at (s0 := s0) (G := Gc M) (xs := fun p => ys p (vsOf s)) (vs := vsOf s) hok' i (by omega)
    by_cases hex : ∃ p, p < kb ∧ dstOf l.toArray p = some t
    · obtain ⟨p, hpk, hpd⟩ := hex
      have hdir := hok'.look i o t p hi ho ht hpk hpd
      obtain ⟨o', ho', e, he, hb, rfl⟩ := direct_spec.1 hdir
      have hlt := hok'.back i o' e ho' he hb
      rw [e2 e.on t hlt hpd]
      unfold Val Gc
      cases hg : M.at e.on with
      | none => simp only; exact (hF e.on t hpk (hp _ hdir) hpd hg).symm
      | some x => simp only; exact vsAt s _ t hpd
    · have hnot : ∀ j, j < kb → dstOf l.toArray j ≠ some t := fun j hj hjd => hex ⟨j, hj, hjd⟩
      rw [e1 t fun j hj => hnot j (by omega)]
      exact (hO t hnot).symm
  have pf : ∀ (D : Nat → Prop) (i : Nat) s (outs : Nat → List HA) (T : List HA), (∀ j, direct l.toArray i j = true → D j) → (∀ p q, D p → direct l.toArray p q = true → D q) → (∀ p, D p → p < kb) → (∀ m, m ∈ M → D m.i → (∃ L1, m.r1 (vsOf s m.i) L1) ∧ (D m.j → m.r2 (vsOf s m.i) (outs m.i)) ∧ (¬ D m.j → m.r1 (vsOf s m.i) (outs m.i))) → (∀ m, m ∈ M → D m.i → ¬ D m.j → ∀ A, A ∈ outs m.i → A ∈ T) → PFc l.toArray M i (vsOf s) T := by
    intro D i s outs T hp hcl hDk hR hT p m hd hl
    obtain ⟨rfl, M1, M2, hM, _, _⟩ := at_split hl hnd
    have hmM : m ∈ M := by rw [hM]; simp
    obtain ⟨q, hq⟩ := hd
    have hDm := reach_D hcl q i m.i hp hq
    obtain ⟨⟨L1, a1⟩, _, a3⟩ := hR m hmM hDm
    by_cases hj : D m.j
    · exact ⟨L1, a1, fun h9 => absurd (hDk _ hj) (by have := hok'.le; omega)⟩
    · exact ⟨outs m.i, a3 hj, fun _ => hT m hmM hDm hj⟩
  have out' : ∀ (i : Nat) (o : Oper) (s : Env) v, i < kb → l.toArray[i]? = some o → Go.Tg.Out l.toArray kb s0 s → Go.Tg.Out l.toArray kb s0 (putv s o.dst v) := by
    intro i o s v hi ho hO t ht
    have hdst : o.dst = dstOf l.toArray i := by simp [dstOf, ho]
    have hne' : o.dst ≠ some t := by rw [hdst]; exact ht i hi
    have : putv s o.dst v t = s t := by
      cases hd : o.dst with
      | none => rfl
      | some d => exact upd_ne (fun e => hne' (by rw [hd, e]))
    rw [this]; exact hO t ht
  have keep : ∀ (i : Nat) (o : Oper) (s : Env) v p d, i < kb → l.toArray[i]? = some o → p < kb → p ≠ i → dstOf l.toArray p = some d → putv s o.dst v d = s d := by
    intro i o s v p d hi ho hpk hpi hd
    have hdst : o.dst = dstOf l.toArray i := by simp [dstOf, ho]
    have hne' : o.dst ≠ some d := fun e => hpi (hok'.apart p i d hpk hi hd (hdst ▸ e))
    cases hd' : o.dst with
    | none => rfl
    | some d' => exact upd_ne (fun e => hne' (by rw [hd', e]))
  have keepV : ∀ (i : Nat) (o : Oper) (s : Env) v m, i < kb → l.toArray[i]? = some o → m ∈ M → m.i ≠ i → vsOf (putv s o.dst v) m.i = vsOf s m.i := by
    intro i o s v m hi ho hm' hne
    obtain ⟨d, hd⟩ := Option.isSome_iff_exists.1 (ms m hm')
    rw [vsAt _ _ _ hd, vsAt _ _ _ hd, keep i o s v m.i d hi ho (mi m hm') hne hd]
  refine Wc.draw_gen (kb := kb) (J := J) hok' hm.m ⟨fun _ _ => rfl, fun _ _ _ hD => hD.elim, fun _ _ h => h.elim, fun _ _ h => h.elim, fun _ => [], ?_, fun _ _ hD => hD.elim⟩ (fun D i o hi ho hnD hp hDk s w hJ => ?_) (fun D s w hall hDk hJ => ?_)
  · rw [pcc_none]
    exact (H.perm hp).ext ⟨rfl, rfl, rfl, Nat.le_refl _, fun _ _ _ => rfl⟩
  · have hsame := same D i o s w hi ho hp hJ
    obtain ⟨hO, hF', hcl, hDj, outs, hS, hR⟩ := hJ
    obtain ⟨hstb, hob⟩ := hx i o (by omega) (by omega) ho
    have hcl' : ∀ p q, (p = i ∨ D p) → direct l.toArray p q = true → (q = i ∨ D q) := fun p q hD hd => .inr (hD.elim (fun e => by subst e; exact hp q hd) fun h => hcl p q h hd)
    have hys : ∀ p, p < kb → (p = i ∨ D p) → ∀ v, o.dst.isSome = true ∨ True → M.at i = none ∨ p ≠ i → Stb l.toArray M p (ys p) → ys p (vsOf (putv s o.dst v)) = ys p (vsOf s) := fun p hpk hD v _ hno hst => hst _ _ fun q hq hqs => by
      obtain ⟨m, hm'⟩ := Option.isSome_iff_exists.1 hqs
      obtain ⟨rfl, M1, M2, hM, _, _⟩ := at_split hm' hnd
      have hmM : m ∈ M := by rw [hM]; simp
      refine keepV i o s v m hi ho hmM fun e => ?_
      rcases hD with rfl | hD
      · obtain ⟨r, hr⟩ := hq
        exact hnD (e ▸ reach_D hcl r p m.i hp hr)
      · exact hnD (e ▸ reach_path hcl hD hq)
    have hdst : o.dst = dstOf l.toArray i := by simp [dstOf, ho]
    unfold ObC at hob
    cases hg : M.at i with
    | none =>
      have hni : ∀ m, m ∈ M → m.i ≠ i := fun m hm' e => by rw [← e, at_in hm' hnd] at hg; cases hg
      simp only [hg] at hob
      have hval : ∀ v, (o.dst.isSome = true → v = ys i (vsOf s)) → ∀ p d, p < kb → (p = i ∨ D p) → dstOf l.toArray p = some d → M.at p = none → putv s o.dst v d = ys p (vsOf (putv s o.dst v)) := fun v hv p d hpk hD hd hl => by
        obtain ⟨op, hop⟩ : ∃ op, l.toArray[p]? = some op := by
          cases h9 : l.toArray[p]? with
          | none => simp [dstOf, h9] at hd
          | some x => exact ⟨x, rfl⟩
        rw [hys p hpk hD v (.inr trivial) (.inl hg) (hx p op (by omega) (by omega) hop).1]
        by_cases hpi : p = i
        · subst hpi
          have : o.dst = some d := hdst.trans hd
          rw [this]; simp only [putv, upd_same]
          exact hv (by rw [this]; rfl)
        · rw [keep i o s v p d hi ho hpk hpi hd]
          exact hF' p d hpk (hD.resolve_left hpi) hd hl
      cases hn : M.nx i with
      | none =>
        simp only [hn] at hob
        have hnj := nx_none hn
        refine Stp.mono (Stp.same (fun cs b => hok'.sel i o cs b ho) hsame (hob (vsOf s) w (pcc D outs M) (pf D i s outs _ hp hcl hDk hR fun m hm' hD _ => pcc_mem hD hm') hS)) fun v w' ⟨hE, hv⟩ => ⟨out' i o s v hi ho hO, hval v hv, hcl', fun m hm' h => .inr (hDj m hm' (h.resolve_left (hnj m hm'))), outs, ?_, fun m hm' hD => ?_⟩
        · rw [pcc_congr (D' := D) (outs' := outs) fun m hm' => ⟨⟨fun h => h.resolve_left (hni m hm'), .inr⟩, fun _ => rfl⟩]
          exact hS.ext hE
        · obtain ⟨a1, a2, a3⟩ := hR m hm' (hD.resolve_left (hni m hm'))
          rw [keepV i o s v m hi ho hm' (hni m hm')]
          exact ⟨a1, fun h => a2 (h.resolve_left (hnj m hm')), fun h => a3 fun h9 => h (.inr h9)⟩
      | some m =>
        simp only [hn] at hob
        obtain ⟨hmM, rfl⟩ := nx_mem hn
        have hDi : D m.i := hp _ (mjj m hmM hi).1
        obtain ⟨hi9, M1, M2, hM, hn1, hn2⟩ := at_split (at_in hmM hnd) hnd
        have hsplit : ∀ (D : Nat → Prop) (outs : Nat → List HA), pcc D outs M = pcc D outs M1 ++ (pcc D outs [m] ++ pcc D outs M2) := fun D outs => by
          rw [hM, pcc_app, show m :: M2 = [m] ++ M2 from rfl, pcc_app]
        have hone : pcc D outs [m] = outs m.i := by simp [pcc, hDi]
        have hperm : ∀ (A T1 T2 : List HA), (B ++ (T1 ++ (A ++ T2))).Perm (A ++ (B ++ (T1 ++ T2))) := fun A T1 T2 => by
          exact ((perm_lead A T1 T2).append_left B).trans (perm_lead A B (T1 ++ T2))
        have hS' := hS
        rw [hsplit, hone] at hS'
        obtain ⟨b1, b2, b3⟩ := hR m hmM hDi
        have hinM : ∀ x, x ∈ M → x.i ≠ m.i → D x.i → ∀ A, A ∈ outs x.i → A ∈ pcc D outs M1 ++ pcc D outs M2 := fun x hx' hne hDx A hA => by
          rw [hM] at hx'
          rcases List.mem_append.1 hx' with h1 | h1
          · exact List.mem_append_left _ (pcc_mem hDx h1 A hA)
          · rcases List.mem_cons.1 h1 with h1 | h1
            · exact absurd (by rw [h1]) hne
            · exact List.mem_append_right _ (pcc_mem hDx h1 A hA)
        have hpf : PFc l.toArray M m.j (vsOf s) (pcc D outs M1 ++ pcc D outs M2) := by
          intro p x hd hl
          obtain ⟨rfl, N1, N2, hN, _, _⟩ := at_split hl hnd
          have hxM : x ∈ M := by rw [hN]; simp
          obtain ⟨q, hq⟩ := hd
          have hDx := reach_D hcl q m.j x.i hp hq
          obtain ⟨⟨L1, a1⟩, _, a3⟩ := hR x hxM hDx
          by_cases hj : D x.j
          · exact ⟨L1, a1, fun h9 => absurd (hDk _ hj) (by have := hok'.le; omega)⟩
          · by_cases hxm : x.i = m.i
            · have hxm' : x = m := by
                have h2 := at_in hxM hnd
                rw [hxm, at_in hmM hnd] at h2
                exact (Option.some.inj h2).symm
              subst hxm'
              exact ⟨outs x.i, a3 hj, fun h9 => absurd hi (by have := hok'.le; omega)⟩
            · exact ⟨outs x.i, a3 hj, fun _ => hinM x hxM hxm hDx⟩
        obtain ⟨hw, hst⟩ := hob (vsOf s) w (pcc D outs M1 ++ pcc D outs M2) (outs m.i) hpf (b3 hnD) (hS'.perm (hperm _ _ _))
        have hdn : o.dst = none := hdst.trans (mjj m hmM hi).2
        have hstp : Stp P l.toArray o (En l.toArray (Gc M) s0 (fun p => ys p (vsOf s)) m.j (vsOf s)) w fun _ w' => ∃ L', m.r2 (vsOf s m.i) L' ∧ St ws S h0 h (L' ++ (B ++ (pcc D outs M1 ++ pcc D outs M2))) w' := ⟨fun _ => hst, fun hn => absurd hw (by simp [hn])⟩
        refine Stp.mono (Stp.same (fun cs b => hok'.sel m.j o cs b ho) hsame hstp) fun v w' ⟨L', hR', hS2⟩ => ⟨out' m.j o s v hi ho hO, hval v (fun h => by rw [hdn] at h; cases h), hcl', fun x hx' h => ?_, fun k => if k = m.i then L' else outs k, ?_, fun x hx' hD => ?_⟩
        · rcases h with h | h
          · have := jinj x hx' m hmM h; subst this; exact .inr hDi
          · exact .inr (hDj x hx' h)
        · rw [hsplit]
          have e1 : pcc (fun k => k = m.j ∨ D k) (fun k => if k = m.i then L' else outs k) [m] = L' := by simp [pcc, hDi]
          have e2 : pcc (fun k => k = m.j ∨ D k) (fun k => if k = m.i then L' else outs k) M1 = pcc D outs M1 := pcc_congr fun x hx' => ⟨⟨fun h => h.resolve_left (mij x (by rw [hM]; simp [hx']) m hmM), .inr⟩, fun _ => by simp [hn1 x hx']⟩
          have e3 : pcc (fun k => k = m.j ∨ D k) (fun k => if k = m.i then L' else outs k) M2 = pcc D outs M2 := pcc_congr fun x hx' => ⟨⟨fun h => h.resolve_left (mij x (by rw [hM]; simp [hx']) m hmM), .inr⟩, fun _ => by simp [hn2 x hx']⟩
          rw [e1, e2, e3]
          exact hS2.perm (hperm _ _ _).symm
        · have hxi := mij x hx' m hmM
          have hDx := hD.resolve_left hxi
          rw [keepV m.j o s v x hi ho hx' hxi]
          by_cases hxm : x.i = m.i
          · have : x = m := by
              have h2 := at_in hx' hnd
              rw [hxm, at_in hmM hnd] at h2
              exact (Option.some.inj h2).symm
            subst this
            simp only [if_true]
            exact ⟨b1, fun _ => hR', fun h => absurd (by simp) h⟩
          · simp only [hxm, if_false]
            obtain ⟨a1, a2, a3⟩ := hR x hx' hDx
            exact ⟨a1, fun h => a2 (h.resolve_left fun e => hxm (by rw [jinj x hx' m hmM e])), fun h => a3 fun h9 => h (.inr h9)⟩
    | some m =>
      simp only [hg] at hob
      obtain ⟨rfl, M1, M2, hM, hn1, hn2⟩ := at_split hg hnd
      have hmM : m ∈ M := by rw [hM]; simp
      have hnDj : ¬ D m.j := fun h => hnD (hDj m hmM h)
      have hsplit : ∀ (D : Nat → Prop) (outs : Nat → List HA), pcc D outs M = pcc D outs M1 ++ (pcc D outs [m] ++ pcc D outs M2) := fun D outs => by
        rw [hM, pcc_app, show m :: M2 = [m] ++ M2 from rfl, pcc_app]
      have hone : pcc D outs [m] = m.inp := by simp [pcc, hnD]
      have hperm : ∀ (A T1 T2 : List HA), (B ++ (T1 ++ (A ++ T2))).Perm (A ++ (B ++ (T1 ++ T2))) := fun A T1 T2 => by
        exact ((perm_lead A T1 T2).append_left B).trans (perm_lead A B (T1 ++ T2))
      have hS' := hS
      rw [hsplit, hone] at hS'
      have hpf := pf D m.i s outs (pcc D outs M1 ++ pcc D outs M2) hp hcl hDk hR fun x hx' hDx _ A hA => by
        have hne : x.i ≠ m.i := fun e => hnD (e ▸ hDx)
        rw [hM] at hx'
        rcases List.mem_append.1 hx' with h1 | h1
        · exact List.mem_append_left _ (pcc_mem hDx h1 A hA)
        · rcases List.mem_cons.1 h1 with h1 | h1
          · exact absurd (by rw [h1]) hne
          · exact List.mem_append_right _ (pcc_mem hDx h1 A hA)
      obtain ⟨hw, hst⟩ := hob (vsOf s) w (pcc D outs M1 ++ pcc D outs M2) hpf (hS'.perm (hperm _ _ _))
      have hstp : Stp P l.toArray o (En l.toArray (Gc M) s0 (fun p => ys p (vsOf s)) m.i (vsOf s)) w fun v w' => ∃ L', m.r1 v L' ∧ St ws S h0 h (L' ++ (B ++ (pcc D outs M1 ++ pcc D outs M2))) w' := ⟨fun _ => hst, fun hn => absurd hw (by simp [hn])⟩
      refine Stp.mono (Stp.same (fun cs b => hok'.sel m.i o cs b ho) hsame hstp) fun v w' ⟨L', hR', hS2⟩ => ⟨out' m.i o s v hi ho hO, fun p d hpk hD hd hl => ?_, hcl', fun x hx' h => ?_, fun j => if j = m.i then L' else outs j, ?_, fun x hx' hD => ?_⟩
      · have hpi : p ≠ m.i := fun e => by rw [e, hg] at hl; cases hl
        obtain ⟨op, hop⟩ : ∃ op, l.toArray[p]? = some op := by
          cases h9 : l.toArray[p]? with
          | none => simp [dstOf, h9] at hd
          | some x => exact ⟨x, rfl⟩
        rw [keep m.i o s v p d hi ho hpk hpi hd, hys p hpk hD v (.inr trivial) (.inr hpi) (hx p op (by omega) (by omega) hop).1]
        exact hF' p d hpk (hD.resolve_left hpi) hd hl
      · rcases h with h | h
        · exact absurd h.symm (mij m hmM x hx')
        · exact .inr (hDj x hx' h)
      · rw [hsplit]
        have e1 : pcc (fun j => j = m.i ∨ D j) (fun j => if j = m.i then L' else outs j) [m] = L' := by simp [pcc]
        have e2 : pcc (fun j => j = m.i ∨ D j) (fun j => if j = m.i then L' else outs j) M1 = pcc D outs M1 := pcc_congr fun x hx' => ⟨⟨fun h => h.resolve_left (hn1 x hx'), .inr⟩, fun _ => by simp [hn1 x hx']⟩
        have e3 : pcc (fun j => j = m.i ∨ D j) (fun j => if j = m.i then L' else outs j) M2 = pcc D outs M2 := pcc_congr fun x hx' => ⟨⟨fun h => h.resolve_left (hn2 x hx'), .inr⟩, fun _ => by simp [hn2 x hx']⟩
        rw [e1, e2, e3]
        exact hS2.perm (hperm _ _ _).symm
      · by_cases hji : x.i = m.i
        · have : x = m := by
            have h2 := at_in hx' hnd
            rw [hji, hg] at h2
            exact (Option.some.inj h2).symm
          subst this
          obtain ⟨d, hd⟩ := Option.isSome_iff_exists.1 (ms x hx')
          have hdd : o.dst = some d := hdst.trans hd
          have hv : vsOf (putv s o.dst v) x.i = v := by rw [vsAt _ _ _ hd, hdd]; simp only [putv, upd_same]
          rw [hv]
          simp only [if_true]
          exact ⟨⟨L', hR'⟩, fun h => (h.elim (fun e => absurd e.symm (mij x hx' x hx')) (fun e => absurd e hnDj)), fun _ => hR'⟩
        · rw [keepV m.i o s v x hi ho hx' hji]
          simp only [hji, if_false]
          obtain ⟨a1, a2, a3⟩ := hR x hx' (hD.resolve_left hji)
          exact ⟨a1, fun h => a2 (h.resolve_left fun e => mij m hmM x hx' e.symm), fun h => a3 fun h9 => h (.inr h9)⟩
  · obtain ⟨hO, hF', hcl, hDj, outs, hS, hR⟩ := hJ
    have hs : s = En l.toArray (Gc M) s0 (fun p => ys p (vsOf s)) kb (vsOf s) := by
      funext t
      obtain ⟨e1, e2⟩ := En_at (s0 := s0) (G := Gc M) (xs := fun p => ys p (vsOf s)) (vs := vsOf s) hok' kb (Nat.le_refl _)
      by_cases hex : ∃ p, p < kb ∧ dstOf l.toArray p = some t
      · obtain ⟨p, hpk, hpd⟩ := hex
        rw [e2 p t hpk hpd]
        unfold Val Gc
        cases hg : M.at p with
        | none => simp only; exact hF' p t hpk (hall p hpk) hpd hg
        | some x => simp only; exact (vsAt s _ t hpd).symm
      · have hnot : ∀ j, j < kb → dstOf l.toArray j ≠ some t := fun j hj hjd => hex ⟨j, hj, hjd⟩
        rw [e1 t hnot]; exact hO t hnot
    have := hF (vsOf s) w outs (by rw [← pcc_all (D := D) fun m hm' => hall m.i (mi m hm')]; exact hS) fun m hm' => ⟨fun hj => (hR m hm' (hall _ (mi m hm'))).2.1 (hall _ hj), fun hj => (hR m hm' (hall _ (mi m hm'))).2.2 fun h9 => absurd (hDk _ h9) (by omega)⟩
    dsimp only at this
    rw [← hs] at this
    simpa using this
end mv
section
variable {P : Program} {ops : Array Oper} {M : CV} {ws : World} {S : List Nat} {h0 h : FH} {B : List HA} {Fin : ((Nat → Value) → Env) → Prop} {i : Nat} {rest : List Oper} {sk : (Nat → Value) → Env} {op : Op} {ty : TypeId} {pos : String} {af : Array Edge} {d : Nat} {X : Value}
theorem RGc.nil (h' : Fin sk) : RGc P ops M ws S h0 h B Fin i [] sk := by unfold RGc; exact h'
theorem RGc.p (hG : M.at i = none) (hN : M.nx i = none)
    (h' : ∀ vs w T, PFc ops M i vs T → St ws S h0 h (B ++ T) w → Ost P ⟨some d, op, ty, pos, af, none⟩ (sk vs) w fun v w' => Ext w w' ∧ v = X) (hr : RGc P ops M ws S h0 h B Fin (i + 1) rest (fun vs => upd (sk vs) d X)) : RGc P ops M ws S h0 h B Fin i (⟨some d, op, ty, pos, af, none⟩ :: rest) sk := by
  unfold RGc
  refine ⟨fun _ => X, fun _ _ _ => rfl, ?_, by simp only [hG]; exact hr⟩
  unfold ObC
  simp only [hG, hN]
  exact fun vs w T hP H => ⟨fun _ => (h' vs w T hP H).mono fun v w' ⟨a, b⟩ => ⟨a, fun _ => b⟩, fun hn => absurd hn (by simp [Region.wanted])⟩
theorem RGc.v (g : Value → Value) (q : Nat) (l : List Nat) (hq : path ops i l q = true) (hqs : (M.at q).isSome = true) (hG : M.at i = none) (hN : M.nx i = none)
    (h' : ∀ vs w T, PFc ops M i vs T → St ws S h0 h (B ++ T) w → Ost P ⟨some d, op, ty, pos, af, none⟩ (sk vs) w fun v w' => Ext w w' ∧ v = g (vs q)) (hr : RGc P ops M ws S h0 h B Fin (i + 1) rest (fun vs => upd (sk vs) d (g (vs q)))) : RGc P ops M ws S h0 h B Fin i (⟨some d, op, ty, pos, af, none⟩ :: rest) sk := by
  unfold RGc
  refine ⟨fun vs => g (vs q), fun vs vs' hh => congrArg g (hh q ⟨l, hq⟩ hqs), ?_, by simp only [hG]; exact hr⟩
  unfold ObC
  simp only [hG, hN]
  exact fun vs w T hP H => ⟨fun _ => (h' vs w T hP H).mono fun v w' ⟨a, b⟩ => ⟨a, fun _ => b⟩, fun hn => absurd hn (by simp [Region.wanted])⟩
theorem RGc.m {m : Cm} (hG : M.at i = some m) (h' : ∀ vs w T, PFc ops M i vs T → St ws S h0 h (m.inp ++ (B ++ T)) w → Ost P ⟨some d, op, ty, pos, af, none⟩ (sk vs) w fun v w' => ∃ L', m.r1 v L' ∧ St ws S h0 h (L' ++ (B ++ T)) w')
    (hr : RGc P ops M ws S h0 h B Fin (i + 1) rest (fun vs => upd (sk vs) d (vs i))) : RGc P ops M ws S h0 h B Fin i (⟨some d, op, ty, pos, af, none⟩ :: rest) sk := by
  unfold RGc
  refine ⟨fun _ => undef, fun _ _ _ => rfl, ?_, by simp only [hG]; exact hr⟩
  unfold ObC
  simp only [hG]
  exact fun vs w T hP H => ⟨rfl, h' vs w T hP H⟩
theorem RGc.s {m : Cm} (hG : M.at i = none) (hN : M.nx i = some m) (h' : ∀ vs w T L1, PFc ops M i vs T → m.r1 (vs m.i) L1 → St ws S h0 h (L1 ++ (B ++ T)) w → Ost P ⟨none, op, ty, pos, af, none⟩ (sk vs) w fun _ w' => ∃ L', m.r2 (vs m.i) L' ∧ St ws S h0 h (L' ++ (B ++ T)) w')
    (hr : RGc P ops M ws S h0 h B Fin (i + 1) rest sk) : RGc P ops M ws S h0 h B Fin i (⟨none, op, ty, pos, af, none⟩ :: rest) sk := by
  unfold RGc
  refine ⟨fun _ => undef, fun _ _ _ => rfl, ?_, hr⟩
  unfold ObC
  simp only [hG, hN]
  exact fun vs w T L1 hP h1 H => ⟨rfl, h' vs w T L1 hP h1 H⟩
end
attribute [irreducible] RGc
section
variable {P : Program} {o : Oper} {s : Env} {w : World} {K : Value → World → Prop}
end
end Go.Tg

