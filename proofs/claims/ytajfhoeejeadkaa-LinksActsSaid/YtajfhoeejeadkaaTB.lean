/- Contracts of Go functions that the laws reach: what each call answers and leaves in memory, for all arguments within the bounds that each theorem names. -/
import Derived.Test.YtajfhoeejeadkaaInst
import Derived.Test.YtajfhoeejeadkaaAuto
import Derived.Test.YtajfhoeejeadkaaT8
set_option linter.unusedVariables false
set_option linter.unusedSimpArgs false
set_option maxRecDepth 100000
set_option maxHeartbeats 4000000
namespace Go.Tg
open Go Go.Proofs
def pS (x : List UInt8) (lv : List (Value × List UInt8)) (v0 : Value) (E0 E1 : Obj) (mb : Nat) (st : Nat) (c : Nat) (vs : Nat → Value) (T : List HA) : Prop := match c with
  | 0 => T = [.blk mb E0, vsH v0 lv]
  | 1 => (∃ a' c', vs 7 = .slice a' x.length c') ∧ T = [own8 (vs 7) 5 x, .blk mb E0, vsH v0 lv]
  | 2 => (∃ a' c', vs 7 = .slice a' x.length c') ∧ (∃ b, vs 8 = .slice (some ⟨b, 0, none⟩) 1 1) ∧ T = [.own (vs 8) 31 1 1 [vs 7], own8 (vs 7) 5 x, .blk mb E0, vsH v0 lv]
  | 3 => (∃ a' c', vs 7 = .slice a' x.length c') ∧ (∃ b, vs 8 = .slice (some ⟨b, 0, none⟩) 1 1) ∧ vs 9 = .tuple #[v0, .int .i64 st] ∧ T = [.own (vs 8) 31 1 1 [vs 7], own8 (vs 7) 5 x, .blk mb E1, vsH v0 lv]
  | 4 => (∃ a' c', vs 7 = .slice a' x.length c') ∧ vs 9 = .tuple #[v0, .int .i64 st] ∧ (∃ a' c', vs 11 = .slice a' (lv ++ [(vs 7, x)]).length c') ∧ T = [own8 (vs 7) 5 x, .blk mb E1, vsH (vs 11) (lv ++ [(vs 7, x)])]
  | _ => False
theorem pS_9 {x : List UInt8} {lv : List (Value × List UInt8)} {v0 : Value} {E0 E1 : Obj} {mb st c : Nat} {vs : Nat → Value} {T : List HA} (h : pS x lv v0 E0 E1 mb st c vs T) (hc : 2 < c) : vs 9 = .tuple #[v0, .int .i64 st] := by
  match c, hc, h with
  | 3, _, h => exact h.2.2.1
  | 4, _, h => exact h.2.1
theorem po_SendOk (pb mb : Nat) (rp rm n : Int) (es : List EnT) (clk : Nat) (k : LkT) (a : Option Addr) (c : Nat) (x : List UInt8) (hc : sendC rp rm n k x = 0) (hI : InvE es clk) (hn : 0 ≤ n ∧ n ≤ 100000) (hb : (ltE es k).length ≤ 1000000) (g : FH) (w : World) (hr : BS g a c x) (HO : St w (poH pb mb rp rm n es clk).fp g g [poH pb mb rp rm n es clk] w) :
    Spec Try.prog 15 #[pt pb, .agg (ltL k (.slice a x.length c)).toArray] w (poH pb mb rp rm n es clk).fp g (fun v' h' L' => h' = g ∧ ∃ es' clk', v' = .int .i64 0 ∧ L' = [poH pb mb rp rm (n + 1) es' clk'] ∧ InvE es' clk' ∧ ∀ k', ltE es' k' = if k' = k then ltE es k ++ [x] else ltE es k') := by
  have H := HO.split3
  have g1 : (poL rp rm n mb)[0 + 1]? = some (.int .i64 rm) := rfl
  have g2 : (poL rp rm n mb)[0 + 2]? = some (.int .i64 n) := rfl
  have g3 : (poL rp rm n mb)[0 + 3]? = some (.map (some mb)) := rfl
  have q0 : (ltL k (.slice a x.length c))[0 + 0]? = some (.int .u8 k.1.toNat) := rfl
  have q1 : (ltL k (.slice a x.length c))[0 + 1]? = some (.int .u8 k.2.toNat) := rfl
  have q2 : (ltL k (.slice a x.length c))[0 + 2]? = some (.slice a x.length c) := rfl
  have lk2 : (lkL k).length = 2 := rfl
  have hfc := faultC_cases rp k
  obtain ⟨hC, hx5, hrm⟩ : faultC rp k = 0 ∧ ¬ 5000 < x.length ∧ ¬ rm ≤ n := by
    unfold sendC at hc
    by_cases h1 : faultC rp k ≠ 0
    · rw [if_pos h1] at hc; exact absurd hc h1
    · rw [if_neg h1] at hc
      by_cases h2 : 5000 < x.length
      · rw [if_pos h2] at hc; cases hc
      · rw [if_neg h2] at hc
        by_cases h3 : rm ≤ n
        · rw [if_pos h3] at hc; cases hc
        · exact ⟨Classical.not_not.1 h1, h2, h3⟩
  have hfl := fun w hs hb => hC ▸ po_fault pb mb rp rm n k (full w) w hs hb
  generalize hF9 : (poH pb mb rp rm n es clk).fp = F9 at H ⊢
  unfold Spec
  refine calls_of Try.func15 rfl Try.ntmps15 (by simp) ?_
  repeat' (first | ((first | refine WL.p rfl ?_ | refine WL.u ?_); first | (refine opk 1 rfl ?_; (refine ost_V H rfl (hfl _ (sat_full _) H.bI) rfl ?_; clear H; intro wk H)) | refine pvQ ?_ | (refine opk 3 rfl ?_; (refine ost_cmp rfl rfl rfl rfl (fun hc => ?_) (fun hc => ?_) <;> (simp only [cmpP] at hc; try exact prIQ))) | (refine opk 4 rfl ?_; (refine ost_cmp rfl rfl rfl rfl (fun hc => ?_) (fun hc => ?_) <;> (simp only [cmpP] at hc; try exact prIQ))) | (refine opk 8 rfl ?_; first | (refine ost_store1 H rfl rfl vlQ gvQ ixQ (by first | decide | (simp; omega) | (simp; done) | omega) ?_; clear H; intro wk H; simp only [List.set_cons_zero, List.set_cons_succ, Nat.reduceAdd] at H) | (refine ost_storeW H rfl rfl rfl rfl lQ ixQ lQ okQ ?_; clear H; intro wk H; simp only [List.set_cons_zero, List.set_cons_succ, Nat.reduceAdd] at H)) | (refine opk 9 rfl ?_; first | (refine ost_boxq H rfl ?_; clear H; intro bk wk H) | (refine ost_allocA H rfl ?_; clear H; intro bk wk H) | (refine ost_build1 H rfl rfl rfl evQ lsQ rfl ?_; clear H; intro bk wk H))) | refine Wc.seq ?_ | refine then_n ?_ | refine WL.nil ?_ | refine Wc.region ?_ | refine Wc.block ?_ | refine then_r ?_ | refine then_e ?_ | refine inb_e rfl ?_ | refine inb_o rfl ?_ | refine inb_n ?_ | refine inb_r ?_ | refine Wc.skip ?_ | refine Wc.exit ?_ | refine Wc.ret ?_ | refine Wc.cond_true rfl ?_ | refine Wc.cond_false rfl ?_ | (refine Wc.drawn (id := 7) 8 (by kernel_rfl) ?_) | (refine rgs_nil ?_; intro vs wk hE; replace H := H.ext hE; clear hE) | (refine RGs.bq (fun _ => rfl) rfl (by intro vs w hE hP; have H := H.ext hE; first | exact dbQ | fail) (fun hc => ?_) (fun hc => ?_) <;> ((try simp only [cmpP, decide_eq_true_eq, decide_eq_false_iff_not, dcd_iff, dcd_no] at hc); try exact prDQ)) | refine RGs.pq (fun _ => rfl) rfl (by intro vs w hE hP; have H := H.ext hE; first | exact dvQ | fail) ?_)
  all_goals first | (exfalso; omega) | skip
  obtain ⟨bk, ebk⟩ := H.nameB idx0
  subst ebk
  obtain ⟨bl, ebl⟩ := H.nameB idx1
  subst ebl
  -- the entry, or a new one
  obtain ⟨lv, av, cv, E1, clk1, st, j, R, hgm, hen, hbo, hj, hlv, hopen, hshut⟩ : ∃ (lv : List (Value × List UInt8)) (av : Option Addr) (cv : Nat) (E1 : List (ME LkT)) (clk1 st j : Nat) (R : List HA),
      getM (.slice none 0 0) (es.map EnT.me) k = .slice av lv.length cv ∧ entM (.slice none 0 0) (es.map EnT.me) clk k = (E1, clk1) ∧ bornM (es.map EnT.me) clk k = st ∧
      E1.findIdx? (fun y : ME LkT => ((y.b : Nat) : Int) == (st : Nat)) = some j ∧ lv.map (·.2) = ltE es k ∧
      St w F9 g g [.blk mb (mpO cLk (es.map EnT.me) clk), vsH (.slice av lv.length cv) lv, .blk bk (.cells (lkL k).toArray 64 (0, 0)), .blk bl (.cells (ltL k (.slice a x.length c)).toArray 35 (0, 0)), poB pb mb rp rm n, lvH lv, HA.all R] wk ∧
      (∀ (v' : Value) (lv' : List (Value × List UInt8)), lv'.map (·.2) = ltE es k ++ [x] → ∃ es', InvE es' clk1 ∧ (E1.modify j fun y => { y with v := v' }) = es'.map EnT.me ∧ (∀ k', ltE es' k' = if k' = k then ltE es k ++ [x] else ltE es k') ∧
        ∀ {w' : World} {L : List HA}, St w F9 g g (vsH v' lv' :: lvH lv' :: poB pb mb rp rm (n + 1) :: moB mb es' clk1 :: HA.all R :: L) w' → St w F9 g g (poH pb mb rp rm (n + 1) es' clk1 :: L) w') := by
    cases hi : idxE es k with
    | some i =>
      obtain ⟨e, he, hk9, hil⟩ := idxE_some hi
      have hlt := ltE_some hi he
      have H2 : St w F9 g g [poB pb mb rp rm n, moB mb es clk, HA.all (es.map enH), .blk bk (.cells (lkL k).toArray 64 (0, 0)), .blk bl (.cells (ltL k (.slice a x.length c)).toArray 35 (0, 0))] wk := H.picks [2, 3, 4, 0, 1] rfl (by decide)
      have H3 := H2.entry he
      obtain ⟨av, cv, ev9⟩ := H3.vsForm (i := 0) rfl
      rw [ev9] at H3
      refine ⟨e.lv, av, cv, es.map EnT.me, clk, e.b, i, (es.map enH).eraseIdx i, (getM_some hi he).trans ev9, entM_some hi, bornM_some hi he, born_at hI.bs he, hlt.symm, H3.picks [3, 0, 5, 6, 2, 1, 4] rfl (by decide), fun v' lv' hl' => ⟨es.set i (e.put v' lv'), hI.set he, me_set he, fun k' => ?_, fun H9 => H9.shut (e' := e.put v' lv') hil⟩⟩
      rw [ltE_set hi he, hl']
    | none =>
      refine ⟨[], none, 0, es.map EnT.me ++ [(⟨k, .slice none 0 0, clk⟩ : ME LkT)], clk + 1, clk, es.length, es.map enH, getM_none hi, entM_none hi, bornM_none hi, born_new hI.lt, (ltE_none hi).symm, ?_, fun v' lv' hl' => ⟨es ++ [(⟨k, v', clk, lv'⟩ : EnT)], hI.snoc hi, me_new es clk k _ v' lv', fun k' => ?_, fun {w' L} H9 => ?_⟩⟩
      · exact ((H.nilOwn0).nilOwn 31 1).picks [5, 0, 2, 3, 4, 1, 6] rfl (by decide)
      · rw [ltE_snoc hi, hl']
      · have H8 : St w F9 g g (enH (⟨k, v', clk, lv'⟩ : EnT) :: poB pb mb rp rm (n + 1) :: moB mb (es ++ [(⟨k, v', clk, lv'⟩ : EnT)]) (clk + 1) :: HA.all (es.map enH) :: L) w' := H9.join
        have H7 : St w F9 g g (enH (⟨k, v', clk, lv'⟩ : EnT) :: HA.all (es.map enH) :: poB pb mb rp rm (n + 1) :: moB mb (es ++ [(⟨k, v', clk, lv'⟩ : EnT)]) (clk + 1) :: L) w' := H8.perm ((((List.Perm.swap _ _ _).cons _).trans (List.Perm.swap _ _ _)).cons _)
        have H6 := H7.allSnoc
        have e9 : es.map enH ++ [enH (⟨k, v', clk, lv'⟩ : EnT)] = (es ++ [(⟨k, v', clk, lv'⟩ : EnT)]).map enH := by rw [List.map_append]; rfl
        rw [e9] at H6
        exact (H6.perm ((List.Perm.swap _ _ _).trans ((List.Perm.swap _ _ _).cons _))).join3
  clear H
  have H := hopen
  clear hopen
  generalize hv0 : Value.slice av lv.length cv = v0 at H hgm
  generalize hE0 : mpO cLk (es.map EnT.me) clk = E0 at H
  have hone := H.lvOne (i := 5) rfl
  have hu1 : ∀ (a' : Option Addr) (c' : Nat), (Value.slice a' x.length c').oneCell' = true := fun _ _ => rfl
  have hlvl : lv.length ≤ 1000000 := by
    have := congrArg List.length hlv
    rw [List.length_map] at this; omega
  refine Wc.drawX (id := 9) 13 [7, 8, 9, 11] (piN [7, 8, 9, 11] [.blk bk (.cells (lkL k).toArray 64 (0, 0)), .blk bl (.cells (ltL k (.slice a x.length c)).toArray 35 (0, 0)), poB pb mb rp rm n, lvH lv, HA.all R] (pS x lv v0 E0 (mpO cLk E1 clk1) mb st)) H (by kernel_rfl) (by kernel_rfl) (piN_0 (A := [_, _]) rfl) ?_
  refine RGx.p rfl (by intro vs w dn L hd hP9 H; exact dvQ) ?_
  refine RGx.p rfl (by intro vs w dn L hd hP9 H; exact dvQ) ?_
  refine RGx.p rfl (by intro vs w dn L hd hP9 H; exact dvQ) ?_
  refine RGx.p rfl (by intro vs w dn L hd hP9 H; obtain ⟨T9, rfl⟩ := piN_B hP9; exact ost_load1 rfl rfl rfl (H.okB (j := 2) rfl) g3 ⟨Fr.refl _ _, rfl⟩) ?_
  refine RGx.p rfl (by intro vs w dn L hd hP9 H; obtain ⟨T9, rfl⟩ := piN_B hP9; exact ost_loadW rfl rfl rfl (H.okB (j := 0) rfl) lk2 ⟨Fr.refl _ _, rfl⟩) ?_
  refine RGx.p rfl (by intro vs w dn L hd hP9 H; exact dvQ) ?_
  refine RGx.p rfl (by intro vs w dn L hd hP9 H; obtain ⟨T9, rfl⟩ := piN_B hP9; exact ost_load1 rfl rfl rfl (H.okB (j := 1) rfl) q2 ⟨Fr.refl _ _, rfl⟩) ?_
  refine RGx.m rfl (by
    intro vs w dn L h1 hd hP9 H
    obtain ⟨T9, rfl, rfl, hn9⟩ := piN_step (by decide) hP9 0 7 rfl h1 (.inl rfl)
    refine ost_C H rfl (clone8 _ _ _ x _ (sat_full _) (hr.full H) (by omega)) rfl ?_
    rintro v w' h' L' ⟨a', c', rfl, -, rfl⟩ H2
    exact ⟨_, hn9 _ [_, _, _] ⟨⟨a', c', rfl⟩, rfl⟩, H2⟩) ?_
  refine RGx.m rfl (by
    intro vs w dn L h1 hd hP9 H
    obtain ⟨T9, rfl, ⟨⟨a', c', e1⟩, rfl⟩, hn9⟩ := piN_step (by decide) hP9 1 8 rfl h1 (.inr ⟨7, rfl, hd 7 (by kernel_rfl) rfl⟩)
    have e8 : vs (0 + 1 + 1 + 1 + 1 + 1 + 1 + 1) = _ := e1
    rw [e8]
    refine ost_buildR (rows := [[Value.slice a' x.length c']]) H rfl (by decide) rfl (by rfl) (evP1 vxQ) (.cons rfl .nil) rfl (by simp) ?_
    intro bk wk H2
    refine ⟨_, hn9 (.slice (some ⟨bk, 0, none⟩) 1 1) [_, _, _, _] ⟨⟨a', c', e1⟩, ⟨bk, rfl⟩, rfl⟩, ?_⟩
    simp only [if_true, if_neg (show ¬ (7 = 8) by decide)]
    rw [e1] at H2 ⊢
    exact H2) ?_
  refine RGx.m rfl (by
    intro vs w dn L h1 hd hP9 H
    obtain ⟨T9, rfl, ⟨hu, hv, rfl⟩, hn9⟩ := piN_step (by decide) hP9 2 9 rfl h1 (.inr ⟨8, rfl, hd 8 (by kernel_rfl) rfl⟩)
    subst hE0
    refine ost_mapEntry (k := k) (i := 2) H rfl rfl rfl rfl ?_
    intro w' H2
    rw [hen] at H2
    rw [hgm, hbo]
    exact ⟨_, hn9 _ [_, _, _, _] ⟨hu, hv, rfl, rfl⟩, H2⟩) ?_
  refine RGx.p rfl (by
    intro vs w dn L hd hP9 H
    obtain ⟨c9, T9, hc9, -, rfl, hp9⟩ := piN_at hP9 2 9 rfl (hd 9 (by kernel_rfl) rfl)
    exact ost_extract rfl (pS_9 hp9 hc9) rfl ⟨Fr.refl _ _, rfl⟩) ?_
  refine RGx.m rfl (by
    intro vs w dn L h1 hd hP9 H
    obtain ⟨T9, rfl, ⟨⟨a', c', e7⟩, ⟨b', e8⟩, e9, rfl⟩, hn9⟩ := piN_step (by decide) hP9 3 11 rfl h1 (.inr ⟨9, rfl, hd 9 (by kernel_rfl) rfl⟩)
    rw [e8] at H
    refine ost_append (i := 3) (news := [vs 7]) H rfl e8 rfl rfl (by rfl) (by decide) (H.ownRdC (i := 0) rfl) rfl (fun h => by cases h) (by rw [e7]; intro u hu; simp at hu; subst hu; rfl) (by omega) (by simp only [maxLen]; omega) ?_
    intro a9 c9 w' H2
    have hll : lv.length + 1 = (lv ++ [(vs 7, x)]).length := by simp
    have hlm : lv.map (·.1) ++ [vs 7] = (lv ++ [(vs 7, x)]).map (·.1) := by simp
    rw [hlm, hll] at H2
    rw [hll]
    refine ⟨_, hn9 (.slice a9 (lv ++ [(vs 7, x)]).length c9) [_, _, _] ⟨⟨a', c', e7⟩, e9, ⟨a9, c9, rfl⟩, rfl⟩, ?_⟩
    exact H2.tl) ?_
  refine RGx.p rfl (by
    intro vs w dn L hd hP9 H
    obtain ⟨c9, T9, hc9, -, rfl, hp9⟩ := piN_at hP9 2 9 rfl (hd 9 (by kernel_rfl) rfl)
    exact ost_extract rfl (pS_9 hp9 hc9) rfl ⟨Fr.refl _ _, rfl⟩) ?_
  refine RGx.nil ?_
  intro vs wk dn L hall hP9 H9
  obtain ⟨T9, rfl, ⟨a', c', e7⟩, e9, ⟨a9, c9, e11⟩, rfl⟩ := piN_end hP9 11 rfl (hall 11 rfl)
  clear H
  have H := H9
  clear H9
  rw [e7] at e11
  rw [e11, e7] at H
  have hv11 : vs (0 + 1 + 1 + 1 + 1 + 1 + 1 + 1 + 1 + 1 + 1 + 1) = _ := e11
  (try dsimp only)
  rw [hv11]
  obtain ⟨es', hI', hmod, hlt', hcl⟩ := hshut (.slice a9 (lv ++ [(Value.slice a' x.length c', x)]).length c9) (lv ++ [(Value.slice a' x.length c', x)]) (by rw [List.map_append, hlv]; rfl)
  clear hP9 e7 e9 e11 hv11 hone
  simp only [List.cons_append, List.nil_append] at H
  generalize hLV : lv ++ [(Value.slice a' x.length c', x)] = LV at H hmod hcl ⊢
  have lp4 : (poL rp rm n mb).length = 4 := rfl
  repeat' (first | ((first | refine WL.p rfl ?_ | refine WL.u ?_); first | (refine opk 13 rfl ?_; (refine ost_entryStore (i := 1) (j := j) (v := .slice a9 LV.length c9) H rfl rfl rfl rfl rfl hj ?_; clear H; intro wk H; rw [hmod] at H; simp only [List.set_cons_zero, List.set_cons_succ] at H)) | refine pvQ ?_ | (refine opk 3 rfl ?_; (refine ost_cmp rfl rfl rfl rfl (fun hc => ?_) (fun hc => ?_) <;> (simp only [cmpP] at hc; try exact prIQ))) | (refine opk 4 rfl ?_; (refine ost_cmp rfl rfl rfl rfl (fun hc => ?_) (fun hc => ?_) <;> (simp only [cmpP] at hc; try exact prIQ))) | (refine opk 8 rfl ?_; first | (refine ost_store1 H rfl rfl vlQ gvQ ixQ (by first | decide | (simp; omega) | (simp; done) | omega) ?_; clear H; intro wk H; simp only [List.set_cons_zero, List.set_cons_succ, Nat.reduceAdd] at H) | (refine ost_storeW H rfl rfl rfl rfl lQ ixQ lQ okQ ?_; clear H; intro wk H; simp only [List.set_cons_zero, List.set_cons_succ, Nat.reduceAdd] at H)) | (refine opk 9 rfl ?_; first | (refine ost_boxq H rfl ?_; clear H; intro bk wk H) | (refine ost_allocA H rfl ?_; clear H; intro bk wk H) | (refine ost_build1 H rfl rfl rfl evQ lsQ rfl ?_; clear H; intro bk wk H))) | refine Wc.seq ?_ | refine then_n ?_ | refine WL.nil ?_ | refine Wc.region ?_ | refine Wc.block ?_ | refine then_r ?_ | refine then_e ?_ | refine inb_e rfl ?_ | refine inb_o rfl ?_ | refine inb_n ?_ | refine inb_r ?_ | refine Wc.skip ?_ | refine Wc.exit ?_ | refine Wc.ret ?_ | refine Wc.cond_true rfl ?_ | refine Wc.cond_false rfl ?_ | (refine Wc.drawn (id := 7) 8 (by kernel_rfl) ?_) | (refine Wc.drawn (id := 9) 13 (by kernel_rfl) ?_) | (refine rgs_nil ?_; intro vs wk hE; replace H := H.ext hE; clear hE) | (refine RGs.bq (fun _ => rfl) rfl (by intro vs w hE hP; have H := H.ext hE; first | exact dbQ | fail) (fun hc => ?_) (fun hc => ?_) <;> ((try simp only [cmpP, decide_eq_true_eq, decide_eq_false_iff_not, dcd_iff, dcd_no] at hc); try exact prDQ)) | refine RGs.pq (fun _ => rfl) rfl (by intro vs w hE hP; have H := H.ext hE; first | exact dvQ | fail) ?_)
  have H3 : St w F9 g g [own8 (.slice a' x.length c') 5 x, HA.all (lv.map fun x => own8 x.1 5 x.2), vsH (.slice a9 LV.length c9) LV, poB pb mb rp rm (n + 1), moB mb es' clk1, HA.all R] _ := H.picks [0, 6, 2, 5, 1, 7] rfl (by decide)
  have H4 := H3.allSnoc
  have e9 : (lv.map fun x => own8 x.1 5 x.2) ++ [own8 (.slice a' x.length c') 5 x] = LV.map fun x => own8 x.1 5 x.2 := by rw [← hLV, List.map_append]; rfl
  rw [e9] at H4
  have H5 := hcl (L := []) (H4.perm (List.Perm.swap _ _ _))
  exact fn_ret1 (v := .int _ _) rfl rfl ⟨_, _, H5, rfl, es', clk1, rfl, rfl, hI', hlt'⟩
end Go.Tg

set_option linter.unusedVariables false
set_option linter.unusedSimpArgs false
set_option maxRecDepth 100000
set_option maxHeartbeats 4000000
namespace Go.Tg
open Go Go.Proofs
def hmL (kind : Int) (at_ : UInt16) (by_ : UInt8) : List Value := [.int .i64 kind, .int .u16 at_.toNat, .int .u8 by_.toNat]
noncomputable def harmC (rp rm n : Int) (len : Nat) (k : LkT) (q kind : Int) : Int := if faultC rp k ≠ 0 then faultC rp k else if kind < 1 ∨ 3 < kind then 2 else if q < 0 ∨ len ≤ q then 7 else if kind = 2 ∧ rm ≤ n then 10 else 0
theorem po_HarmNo (pb mb : Nat) (rp rm n : Int) (es : List EnT) (clk : Nat) (k : LkT) (q kind : Int) (at_ : UInt16) (by_ : UInt8) (hc : harmC rp rm n (ltE es k).length k q kind ≠ 0) (g : FH) (w : World) (HO : St w (poH pb mb rp rm n es clk).fp g g [poH pb mb rp rm n es clk] w) :
    Spec Try.prog 13 #[pt pb, .int .u8 k.1.toNat, .int .u8 k.2.toNat, .int .i64 q, .agg (hmL kind at_ by_).toArray] w (poH pb mb rp rm n es clk).fp g (fun v' h' L' => h' = g ∧ v' = .int .i64 (harmC rp rm n (ltE es k).length k q kind) ∧ L' = [poH pb mb rp rm n es clk]) := by
  have H := HO.split3
  have g1 : (poL rp rm n mb)[0 + 1]? = some (.int .i64 rm) := rfl
  have g2 : (poL rp rm n mb)[0 + 2]? = some (.int .i64 n) := rfl
  have g3 : (poL rp rm n mb)[0 + 3]? = some (.map (some mb)) := rfl
  have q0 : (hmL kind at_ by_)[0 + 0]? = some (.int .i64 kind) := rfl
  have q1 : (hmL kind at_ by_)[0 + 1]? = some (.int .u16 at_.toNat) := rfl
  have q2 : (hmL kind at_ by_)[0 + 2]? = some (.int .u8 by_.toNat) := rfl
  have lk2 : (lkL k).length = 2 := rfl
  have lp4 : (poL rp rm n mb).length = 4 := rfl
  have hfc := faultC_cases rp k
  obtain ⟨a, c, m, hgm, hml⟩ : ∃ a c m, getM (.slice none 0 0) (es.map EnT.me) k = .slice a m c ∧ (ltE es k).length = m := by
    cases hi : idxE es k with
    | none => exact ⟨none, 0, 0, getM_none hi, by rw [ltE_none hi]; rfl⟩
    | some i =>
      obtain ⟨e, he, -, -⟩ := idxE_some hi
      obtain ⟨a, c, e9⟩ := (H.entry he).vsForm (i := 0) rfl
      exact ⟨a, c, e.lv.length, (getM_some hi he).trans e9, by rw [ltE_some hi he, List.length_map]⟩
  rw [hml] at hc ⊢
  have hsc : harmC rp rm n m k q kind = if faultC rp k ≠ 0 then faultC rp k else if kind < 1 ∨ 3 < kind then 2 else if q < 0 ∨ m ≤ q then 7 else if kind = 2 ∧ rm ≤ n then 10 else 0 := rfl
  generalize hF9 : (poH pb mb rp rm n es clk).fp = F9 at H ⊢
  generalize hC : faultC rp k = C at hfc hsc
  generalize harmC rp rm n m k q kind = Z at hc hsc ⊢
  have hfl := fun w hs hb => hC ▸ po_fault pb mb rp rm n k (full w) w hs hb
  unfold Spec
  refine calls_of Try.func13 rfl Try.ntmps13 (by simp) ?_
  by_cases h1 : C ≠ 0
  · rw [if_pos h1] at hsc
    subst hsc
    repeat' (first | ((first | refine WL.p rfl ?_ | refine WL.u ?_ | refine WL.g rfl rfl ?_ | refine WL.gu rfl ?_); first | (refine opk 1 rfl ?_; (refine ost_V H rfl (hfl _ (sat_full _) H.bI) rfl ?_; clear H; intro wk H)) | refine pvQ ?_ | (refine opk 3 rfl ?_; (refine ost_cmp rfl rfl rfl rfl (fun hc => ?_) (fun hc => ?_) <;> (simp only [cmpP] at hc; try exact prIQ))) | (refine opk 4 rfl ?_; (refine ost_cmp rfl rfl rfl rfl (fun hc => ?_) (fun hc => ?_) <;> (simp only [cmpP] at hc; try exact prIQ))) | (refine opk 8 rfl ?_; first | (refine ost_store1 H rfl rfl vlQ gvQ ixQ (by first | decide | (simp; omega) | (simp; done) | omega) ?_; clear H; intro wk H; simp only [List.set_cons_zero, List.set_cons_succ, Nat.reduceAdd] at H) | (refine ost_storeW H rfl rfl rfl rfl lQ ixQ lQ okQ ?_; clear H; intro wk H; simp only [List.set_cons_zero, List.set_cons_succ, Nat.reduceAdd] at H)) | (refine opk 9 rfl ?_; first | (refine ost_boxq H rfl ?_; clear H; intro bk wk H) | (refine ost_allocA H rfl ?_; clear H; intro bk wk H) | (refine ost_build1 H rfl rfl rfl evQ lsQ rfl ?_; clear H; intro bk wk H))) | refine Wc.seq ?_ | refine then_n ?_ | refine WL.nil ?_ | refine Wc.region ?_ | refine Wc.block ?_ | refine then_r ?_ | refine then_e ?_ | refine inb_e rfl ?_ | refine inb_o rfl ?_ | refine inb_n ?_ | refine inb_r ?_ | refine Wc.skip ?_ | refine Wc.exit ?_ | refine Wc.ret ?_ | refine Wc.cond_true rfl ?_ | refine Wc.cond_false rfl ?_ | (refine Wc.drawn (id := 7) 5 (by kernel_rfl) ?_) | (refine Wc.drawn (id := 13) 12 (by kernel_rfl) ?_) | (refine Wc.drawn (id := 16) 15 (by kernel_rfl) ?_) | (refine Wc.drawn (id := 19) 17 (by kernel_rfl) ?_) | refine WL.skp rfl rfl ?_ | refine WL.sku rfl ?_ | (refine rgs_nil ?_; intro vs wk hE; replace H := H.ext hE; clear hE) | refine RGs.skp (fun _ => rfl) rfl ?_ | (refine RGs.bq (fun _ => rfl) rfl (by intro vs w hE hP; have H := H.ext hE; first | exact dbQ | fail) (fun hc => ?_) (fun hc => ?_) <;> ((try simp only [cmpP, decide_eq_true_eq, decide_eq_false_iff_not, dcd_iff, dcd_no] at hc); try exact prDQ)) | refine RGs.pq (fun _ => rfl) rfl (by intro vs w hE hP; have H := H.ext hE; first | exact dvQ | fail) ?_)
    all_goals first | (exfalso; omega) | exact fn_ret1 (v := .int _ _) rfl rfl ⟨_, _, (H.picks [2, 3, 4] rfl (by decide)).join3, rfl, rfl, rfl⟩
  · rw [if_neg h1] at hsc
    by_cases h2 : kind < 1 ∨ 3 < kind
    · rw [if_pos h2] at hsc
      subst hsc
      repeat' (first | ((first | refine WL.p rfl ?_ | refine WL.u ?_ | refine WL.g rfl rfl ?_ | refine WL.gu rfl ?_); first | (refine opk 1 rfl ?_; (refine ost_V H rfl (hfl _ (sat_full _) H.bI) rfl ?_; clear H; intro wk H)) | refine pvQ ?_ | (refine opk 3 rfl ?_; (refine ost_cmp rfl rfl rfl rfl (fun hc => ?_) (fun hc => ?_) <;> (simp only [cmpP] at hc; try exact prIQ))) | (refine opk 4 rfl ?_; (refine ost_cmp rfl rfl rfl rfl (fun hc => ?_) (fun hc => ?_) <;> (simp only [cmpP] at hc; try exact prIQ))) | (refine opk 8 rfl ?_; first | (refine ost_store1 H rfl rfl vlQ gvQ ixQ (by first | decide | (simp; omega) | (simp; done) | omega) ?_; clear H; intro wk H; simp only [List.set_cons_zero, List.set_cons_succ, Nat.reduceAdd] at H) | (refine ost_storeW H rfl rfl rfl rfl lQ ixQ lQ okQ ?_; clear H; intro wk H; simp only [List.set_cons_zero, List.set_cons_succ, Nat.reduceAdd] at H)) | (refine opk 9 rfl ?_; first | (refine ost_boxq H rfl ?_; clear H; intro bk wk H) | (refine ost_allocA H rfl ?_; clear H; intro bk wk H) | (refine ost_build1 H rfl rfl rfl evQ lsQ rfl ?_; clear H; intro bk wk H))) | refine Wc.seq ?_ | refine then_n ?_ | refine WL.nil ?_ | refine Wc.region ?_ | refine Wc.block ?_ | refine then_r ?_ | refine then_e ?_ | refine inb_e rfl ?_ | refine inb_o rfl ?_ | refine inb_n ?_ | refine inb_r ?_ | refine Wc.skip ?_ | refine Wc.exit ?_ | refine Wc.ret ?_ | refine Wc.cond_true rfl ?_ | refine Wc.cond_false rfl ?_ | (refine Wc.drawn (id := 7) 5 (by kernel_rfl) ?_) | (refine Wc.drawn (id := 13) 12 (by kernel_rfl) ?_) | (refine Wc.drawn (id := 16) 15 (by kernel_rfl) ?_) | (refine Wc.drawn (id := 19) 17 (by kernel_rfl) ?_) | refine WL.skp rfl rfl ?_ | refine WL.sku rfl ?_ | (refine rgs_nil ?_; intro vs wk hE; replace H := H.ext hE; clear hE) | refine RGs.skp (fun _ => rfl) rfl ?_ | (refine RGs.bq (fun _ => rfl) rfl (by intro vs w hE hP; have H := H.ext hE; first | exact dbQ | fail) (fun hc => ?_) (fun hc => ?_) <;> ((try simp only [cmpP, decide_eq_true_eq, decide_eq_false_iff_not, dcd_iff, dcd_no] at hc); try exact prDQ)) | refine RGs.pq (fun _ => rfl) rfl (by intro vs w hE hP; have H := H.ext hE; first | exact dvQ | fail) ?_)
      all_goals first | (exfalso; omega) | exact fn_ret1 (v := .int _ _) rfl rfl ⟨_, _, (H.picks [2, 3, 4] rfl (by decide)).join3, rfl, rfl, rfl⟩
    · rw [if_neg h2] at hsc
      by_cases h3 : q < 0 ∨ m ≤ q
      · rw [if_pos h3] at hsc
        subst hsc
        repeat' (first | ((first | refine WL.p rfl ?_ | refine WL.u ?_ | refine WL.g rfl rfl ?_ | refine WL.gu rfl ?_); first | (refine opk 1 rfl ?_; (refine ost_V H rfl (hfl _ (sat_full _) H.bI) rfl ?_; clear H; intro wk H)) | (refine opk 13 rfl ?_; (refine ost_lookup0 (k := k) rfl rfl rfl H.bI ?_; rw [hgm])) | refine pvQ ?_ | (refine opk 3 rfl ?_; (refine ost_cmp rfl rfl rfl rfl (fun hc => ?_) (fun hc => ?_) <;> (simp only [cmpP] at hc; try exact prIQ))) | (refine opk 4 rfl ?_; (refine ost_cmp rfl rfl rfl rfl (fun hc => ?_) (fun hc => ?_) <;> (simp only [cmpP] at hc; try exact prIQ))) | (refine opk 8 rfl ?_; first | (refine ost_store1 H rfl rfl vlQ gvQ ixQ (by first | decide | (simp; omega) | (simp; done) | omega) ?_; clear H; intro wk H; simp only [List.set_cons_zero, List.set_cons_succ, Nat.reduceAdd] at H) | (refine ost_storeW H rfl rfl rfl rfl lQ ixQ lQ okQ ?_; clear H; intro wk H; simp only [List.set_cons_zero, List.set_cons_succ, Nat.reduceAdd] at H)) | (refine opk 9 rfl ?_; first | (refine ost_boxq H rfl ?_; clear H; intro bk wk H) | (refine ost_allocA H rfl ?_; clear H; intro bk wk H) | (refine ost_build1 H rfl rfl rfl evQ lsQ rfl ?_; clear H; intro bk wk H))) | refine Wc.seq ?_ | refine then_n ?_ | refine WL.nil ?_ | refine Wc.region ?_ | refine Wc.block ?_ | refine then_r ?_ | refine then_e ?_ | refine inb_e rfl ?_ | refine inb_o rfl ?_ | refine inb_n ?_ | refine inb_r ?_ | refine Wc.skip ?_ | refine Wc.exit ?_ | refine Wc.ret ?_ | refine Wc.cond_true rfl ?_ | refine Wc.cond_false rfl ?_ | (refine Wc.drawn (id := 7) 5 (by kernel_rfl) ?_) | (refine Wc.drawn (id := 13) 12 (by kernel_rfl) ?_) | (refine Wc.drawn (id := 16) 15 (by kernel_rfl) ?_) | (refine Wc.drawn (id := 19) 17 (by kernel_rfl) ?_) | refine WL.skp rfl rfl ?_ | refine WL.sku rfl ?_ | (refine rgs_nil ?_; intro vs wk hE; replace H := H.ext hE; clear hE) | refine RGs.skp (fun _ => rfl) rfl ?_ | (refine RGs.bq (fun _ => rfl) rfl (by intro vs w hE hP; have H := H.ext hE; first | exact dbQ | fail) (fun hc => ?_) (fun hc => ?_) <;> ((try simp only [cmpP, decide_eq_true_eq, decide_eq_false_iff_not, dcd_iff, dcd_no] at hc); try exact prDQ)) | refine RGs.pq (fun _ => rfl) rfl (by intro vs w hE hP; have H := H.ext hE; first | exact dvQ | fail) ?_)
        all_goals first | (exfalso; omega) | exact fn_ret1 (v := .int _ _) rfl rfl ⟨_, _, (H.picks [2, 3, 4] rfl (by decide)).join3, rfl, rfl, rfl⟩
      · rw [if_neg h3] at hsc
        by_cases h4 : kind = 2 ∧ rm ≤ n
        · rw [if_pos h4] at hsc
          subst hsc
          obtain ⟨rfl, h4⟩ := h4
          repeat' (first | ((first | refine WL.p rfl ?_ | refine WL.u ?_ | refine WL.g rfl rfl ?_ | refine WL.gu rfl ?_); first | (refine opk 1 rfl ?_; (refine ost_V H rfl (hfl _ (sat_full _) H.bI) rfl ?_; clear H; intro wk H)) | (refine opk 13 rfl ?_; (refine ost_lookup0 (k := k) rfl rfl rfl H.bI ?_; rw [hgm])) | refine pvQ ?_ | (refine opk 3 rfl ?_; (refine ost_cmp rfl rfl rfl rfl (fun hc => ?_) (fun hc => ?_) <;> (simp only [cmpP] at hc; try exact prIQ))) | (refine opk 4 rfl ?_; (refine ost_cmp rfl rfl rfl rfl (fun hc => ?_) (fun hc => ?_) <;> (simp only [cmpP] at hc; try exact prIQ))) | (refine opk 8 rfl ?_; first | (refine ost_store1 H rfl rfl vlQ gvQ ixQ (by first | decide | (simp; omega) | (simp; done) | omega) ?_; clear H; intro wk H; simp only [List.set_cons_zero, List.set_cons_succ, Nat.reduceAdd] at H) | (refine ost_storeW H rfl rfl rfl rfl lQ ixQ lQ okQ ?_; clear H; intro wk H; simp only [List.set_cons_zero, List.set_cons_succ, Nat.reduceAdd] at H)) | (refine opk 9 rfl ?_; first | (refine ost_boxq H rfl ?_; clear H; intro bk wk H) | (refine ost_allocA H rfl ?_; clear H; intro bk wk H) | (refine ost_build1 H rfl rfl rfl evQ lsQ rfl ?_; clear H; intro bk wk H))) | refine Wc.seq ?_ | refine then_n ?_ | refine WL.nil ?_ | refine Wc.region ?_ | refine Wc.block ?_ | refine then_r ?_ | refine then_e ?_ | refine inb_e rfl ?_ | refine inb_o rfl ?_ | refine inb_n ?_ | refine inb_r ?_ | refine Wc.skip ?_ | refine Wc.exit ?_ | refine Wc.ret ?_ | refine Wc.cond_true rfl ?_ | refine Wc.cond_false rfl ?_ | (refine Wc.drawn (id := 7) 5 (by kernel_rfl) ?_) | (refine Wc.drawn (id := 13) 12 (by kernel_rfl) ?_) | (refine Wc.drawn (id := 16) 15 (by kernel_rfl) ?_) | (refine Wc.drawn (id := 19) 17 (by kernel_rfl) ?_) | refine WL.skp rfl rfl ?_ | refine WL.sku rfl ?_ | (refine rgs_nil ?_; intro vs wk hE; replace H := H.ext hE; clear hE) | refine RGs.skp (fun _ => rfl) rfl ?_ | (refine RGs.bq (fun _ => rfl) rfl (by intro vs w hE hP; have H := H.ext hE; first | exact dbQ | fail) (fun hc => ?_) (fun hc => ?_) <;> ((try simp only [cmpP, decide_eq_true_eq, decide_eq_false_iff_not, dcd_iff, dcd_no] at hc); try exact prDQ)) | refine RGs.pq (fun _ => rfl) rfl (by intro vs w hE hP; have H := H.ext hE; first | exact dvQ | fail) ?_)
          all_goals first | (exfalso; omega) | exact fn_ret1 (v := .int _ _) rfl rfl ⟨_, _, (H.picks [2, 3, 4] rfl (by decide)).join3, rfl, rfl, rfl⟩
        · rw [if_neg h4] at hsc
          exact absurd hsc hc
theorem po_HarmLost (pb mb : Nat) (rp rm n : Int) (es : List EnT) (clk : Nat) (k : LkT) (j : Nat) (x : List UInt8) (at_ : UInt16) (by_ : UInt8) (hC : faultC rp k = 0) (hI : InvE es clk) (hx : (ltE es k)[j]? = some x) (hn : 0 ≤ n ∧ n ≤ 100000) (hb : (ltE es k).length ≤ 1000000) (g : FH) (w : World) (HO : St w (poH pb mb rp rm n es clk).fp g g [poH pb mb rp rm n es clk] w) :
    Spec Try.prog 13 #[pt pb, .int .u8 k.1.toNat, .int .u8 k.2.toNat, .int .i64 j, .agg (hmL 1 at_ by_).toArray] w (poH pb mb rp rm n es clk).fp g (fun v' h' L' => h' = g ∧ ∃ es', v' = .int .i64 0 ∧ L' = [poH pb mb rp rm (n - 1) es' clk] ∧ InvE es' clk ∧ ∀ k', ltE es' k' = if k' = k then (ltE es k).eraseIdx j else ltE es k') := by
  have H := HO.split3
  obtain ⟨kind, hkind⟩ : ∃ kind : Int, kind = 1 := ⟨1, rfl⟩
  rw [show hmL 1 at_ by_ = hmL kind at_ by_ by rw [hkind]]
  have g1 : (poL rp rm n mb)[0 + 1]? = some (.int .i64 rm) := rfl
  have g2 : (poL rp rm n mb)[0 + 2]? = some (.int .i64 n) := rfl
  have g3 : (poL rp rm n mb)[0 + 3]? = some (.map (some mb)) := rfl
  have q0 : (hmL kind at_ by_)[0 + 0]? = some (.int .i64 kind) := rfl
  have q1 : (hmL kind at_ by_)[0 + 1]? = some (.int .u16 at_.toNat) := rfl
  have q2 : (hmL kind at_ by_)[0 + 2]? = some (.int .u8 by_.toNat) := rfl
  have lk2 : (lkL k).length = 2 := rfl
  have lp4 : (poL rp rm n mb).length = 4 := rfl
  have hjl := (List.getElem?_eq_some_iff.1 hx).1
  obtain ⟨a, c, hgm⟩ : ∃ a c, getM (.slice none 0 0) (es.map EnT.me) k = .slice a (ltE es k).length c := by
    cases hi : idxE es k with
    | none => exact ⟨none, 0, by rw [ltE_none hi]; exact getM_none hi⟩
    | some i =>
      obtain ⟨e, he, -, -⟩ := idxE_some hi
      obtain ⟨a, c, e9⟩ := (H.entry he).vsForm (i := 0) rfl
      exact ⟨a, c, by rw [ltE_some hi he, List.length_map]; exact (getM_some hi he).trans e9⟩
  generalize hF9 : (poH pb mb rp rm n es clk).fp = F9 at H ⊢
  have hfl := fun w hs hb => hC ▸ po_fault pb mb rp rm n k (full w) w hs hb
  unfold Spec
  refine calls_of Try.func13 rfl Try.ntmps13 (by simp) ?_
  repeat' (first | ((first | refine WL.p rfl ?_ | refine WL.u ?_ | refine WL.g rfl rfl ?_ | refine WL.gu rfl ?_); first | (refine opk 1 rfl ?_; (refine ost_V H rfl (hfl _ (sat_full _) H.bI) rfl ?_; clear H; intro wk H)) | (refine opk 13 rfl ?_; (refine ost_lookup0 (k := k) rfl rfl rfl H.bI ?_; rw [hgm])) | refine pvQ ?_ | (refine opk 3 rfl ?_; (refine ost_cmp rfl rfl rfl rfl (fun hc => ?_) (fun hc => ?_) <;> (simp only [cmpP] at hc; try exact prIQ))) | (refine opk 4 rfl ?_; (refine ost_cmp rfl rfl rfl rfl (fun hc => ?_) (fun hc => ?_) <;> (simp only [cmpP] at hc; try exact prIQ))) | (refine opk 8 rfl ?_; first | (refine ost_store1 H rfl rfl vlQ gvQ ixQ (by first | decide | (simp; omega) | (simp; done) | omega) ?_; clear H; intro wk H; simp only [List.set_cons_zero, List.set_cons_succ, Nat.reduceAdd] at H) | (refine ost_storeW H rfl rfl rfl rfl lQ ixQ lQ okQ ?_; clear H; intro wk H; simp only [List.set_cons_zero, List.set_cons_succ, Nat.reduceAdd] at H)) | (refine opk 9 rfl ?_; first | (refine ost_boxq H rfl ?_; clear H; intro bk wk H) | (refine ost_allocA H rfl ?_; clear H; intro bk wk H) | (refine ost_build1 H rfl rfl rfl evQ lsQ rfl ?_; clear H; intro bk wk H))) | refine Wc.seq ?_ | refine then_n ?_ | refine WL.nil ?_ | refine Wc.region ?_ | refine Wc.block ?_ | refine then_r ?_ | refine then_e ?_ | refine inb_e rfl ?_ | refine inb_o rfl ?_ | refine inb_n ?_ | refine inb_r ?_ | refine Wc.skip ?_ | refine Wc.exit ?_ | refine Wc.ret ?_ | refine Wc.cond_true rfl ?_ | refine Wc.cond_false rfl ?_ | (refine Wc.drawn (id := 7) 5 (by kernel_rfl) ?_) | (refine Wc.drawn (id := 13) 12 (by kernel_rfl) ?_) | (refine Wc.drawn (id := 16) 15 (by kernel_rfl) ?_) | (refine Wc.drawn (id := 19) 17 (by kernel_rfl) ?_) | refine WL.skp rfl rfl ?_ | refine WL.sku rfl ?_ | (refine rgs_nil ?_; intro vs wk hE; replace H := H.ext hE; clear hE) | refine RGs.skp (fun _ => rfl) rfl ?_ | (refine RGs.bq (fun _ => rfl) rfl (by intro vs w hE hP; have H := H.ext hE; first | exact dbQ | fail) (fun hc => ?_) (fun hc => ?_) <;> ((try simp only [cmpP, decide_eq_true_eq, decide_eq_false_iff_not, dcd_iff, dcd_no] at hc); try exact prDQ)) | refine RGs.pq (fun _ => rfl) rfl (by intro vs w hE hP; have H := H.ext hE; first | exact dvQ | fail) ?_)
  all_goals first | (exfalso; omega) | skip
  have H2 : St w F9 g g [poH pb mb rp rm n es clk] wk := (H.picks [2, 3, 4] rfl (by decide)).join3
  clear H
  have H := H2
  clear H2
  repeat' (first | ((first | refine WL.p rfl ?_ | refine WL.u ?_ | refine WL.g rfl rfl ?_ | refine WL.gu rfl ?_); first | (refine opk 1 rfl ?_; (refine ost_O H rfl idx0 (fun HO => po_takeOk pb mb rp rm n es clk k j x hI hx hn hb _ _ HO) rfl ?_; clear H; rintro vk wk hfk Lk ⟨e9, a8, c8, es8, rfl, rfl, hI8, hlt8⟩ H; simp only [List.cons_append, List.nil_append, List.eraseIdx_cons_zero, List.eraseIdx_cons_succ] at H)) | refine pvQ ?_ | (refine opk 3 rfl ?_; (refine ost_cmp rfl rfl rfl rfl (fun hc => ?_) (fun hc => ?_) <;> (simp only [cmpP] at hc; try exact prIQ))) | (refine opk 4 rfl ?_; (refine ost_cmp rfl rfl rfl rfl (fun hc => ?_) (fun hc => ?_) <;> (simp only [cmpP] at hc; try exact prIQ))) | (refine opk 8 rfl ?_; first | (refine ost_store1 H rfl rfl vlQ gvQ ixQ (by first | decide | (simp; omega) | (simp; done) | omega) ?_; clear H; intro wk H; simp only [List.set_cons_zero, List.set_cons_succ, Nat.reduceAdd] at H) | (refine ost_storeW H rfl rfl rfl rfl lQ ixQ lQ okQ ?_; clear H; intro wk H; simp only [List.set_cons_zero, List.set_cons_succ, Nat.reduceAdd] at H)) | (refine opk 9 rfl ?_; first | (refine ost_boxq H rfl ?_; clear H; intro bk wk H) | (refine ost_allocA H rfl ?_; clear H; intro bk wk H) | (refine ost_build1 H rfl rfl rfl evQ lsQ rfl ?_; clear H; intro bk wk H))) | refine Wc.seq ?_ | refine then_n ?_ | refine WL.nil ?_ | refine Wc.region ?_ | refine Wc.block ?_ | refine then_r ?_ | refine then_e ?_ | refine inb_e rfl ?_ | refine inb_o rfl ?_ | refine inb_n ?_ | refine inb_r ?_ | refine Wc.skip ?_ | refine Wc.exit ?_ | refine Wc.ret ?_ | refine Wc.cond_true rfl ?_ | refine Wc.cond_false rfl ?_ | (refine Wc.drawn (id := 7) 5 (by kernel_rfl) ?_) | (refine Wc.drawn (id := 13) 12 (by kernel_rfl) ?_) | (refine Wc.drawn (id := 16) 15 (by kernel_rfl) ?_) | (refine Wc.drawn (id := 19) 17 (by kernel_rfl) ?_) | refine WL.skp rfl rfl ?_ | refine WL.sku rfl ?_ | (refine rgs_nil ?_; intro vs wk hE; replace H := H.ext hE; clear hE) | refine RGs.skp (fun _ => rfl) rfl ?_ | (refine RGs.bq (fun _ => rfl) rfl (by intro vs w hE hP; have H := H.ext hE; first | exact dbQ | fail) (fun hc => ?_) (fun hc => ?_) <;> ((try simp only [cmpP, decide_eq_true_eq, decide_eq_false_iff_not, dcd_iff, dcd_no] at hc); try exact prDQ)) | refine RGs.pq (fun _ => rfl) rfl (by intro vs w hE hP; have H := H.ext hE; first | exact dvQ | fail) ?_)
  exact fn_ret1 (v := .int _ _) rfl rfl ⟨_, _, H.pick 1 rfl, rfl, es8, rfl, rfl, hI8, hlt8⟩
end Go.Tg

set_option linter.unusedVariables false
set_option linter.unusedSimpArgs false
set_option maxRecDepth 100000
set_option maxHeartbeats 4000000
namespace Go.Tg
open Go Go.Proofs
abbrev insV (a : Option Addr) (c : Nat) (lv : List (Value × List UInt8)) (b9 : Nat) (u : Value) : HA := .both (vsH (.slice a lv.length c) lv) (.own (.slice (some ⟨b9, 0, none⟩) 1 1) 31 1 1 [u])
theorem ins_lv (a : Option Addr) (c : Nat) (lv : List (Value × List UInt8)) (j : Nat) (hj : j ≤ lv.length) (b9 : Nat) (u : Value) (x : List UInt8) (h1 : ∀ v ∈ lv.map (·.1), v.oneCell' = true) (hu : u.oneCell' = true) (hb : lv.length ≤ 1000000) (g : FH) (w : World)
    (HO : St w (insV a c lv b9 u).fp g g [insV a c lv b9 u] w) :
    Spec Try.prog 26 #[.slice a lv.length c, .int .i64 j, .slice (some ⟨b9, 0, none⟩) 1 1] w (insV a c lv b9 u).fp g (fun v' h' L' => h' = g ∧ ∃ a' c', v' = .slice a' (lv.take j ++ (u, x) :: lv.drop j).length c' ∧ L' = [vsH v' (lv.take j ++ (u, x) :: lv.drop j)]) := by
  have hl : (lv.map (·.1)).length = lv.length := List.length_map ..
  have := ins_sl a c (lv.map (·.1)) j (by omega) b9 u h1 hu (by omega) g w (by unfold insA; rw [hl]; exact HO)
  unfold insA at this
  rw [hl] at this
  refine this.mono fun v h' L' ⟨e1, a', c', e2, e3⟩ => ⟨e1, a', c', ?_, ?_⟩
  · rw [e2]; congr 1; simp; omega
  · rw [e3]
    unfold vsH
    have e4 : (lv.take j ++ (u, x) :: lv.drop j).length = lv.length + 1 := by simp; omega
    rw [e4]
    simp
def pH (x : List UInt8) (lv : List (Value × List UInt8)) (v0 : Value) (a8 : Option Addr) (c8 : Nat) (j : Nat) (c : Nat) (vs : Nat → Value) (T : List HA) : Prop := match c with
  | 0 => T = [vsH v0 lv]
  | 1 => vs 11 = .slice a8 x.length c8 ∧ T = [vsH v0 lv]
  | 2 => (∃ a' c', vs 12 = .slice a' x.length c') ∧ T = [own8 (vs 12) 5 x, vsH v0 lv]
  | 3 => (∃ a' c', vs 12 = .slice a' x.length c') ∧ (∃ b, vs 13 = .slice (some ⟨b, 0, none⟩) 1 1) ∧ T = [.own (vs 13) 31 1 1 [vs 12], own8 (vs 12) 5 x, vsH v0 lv]
  | 4 => (∃ a' c', vs 12 = .slice a' x.length c') ∧ (∃ a' c', vs 14 = .slice a' (lv.take (j + 1) ++ (vs 12, x) :: lv.drop (j + 1)).length c') ∧ T = [own8 (vs 12) 5 x, vsH (vs 14) (lv.take (j + 1) ++ (vs 12, x) :: lv.drop (j + 1))]
  | _ => False
theorem po_HarmTwice (pb mb : Nat) (rp rm n : Int) (es : List EnT) (clk : Nat) (k : LkT) (j : Nat) (x : List UInt8) (at_ : UInt16) (by_ : UInt8) (hC : faultC rp k = 0) (hrm : ¬ rm ≤ n) (hI : InvE es clk) (hx : (ltE es k)[j]? = some x) (hxl : x.length ≤ 1000000) (hn : 0 ≤ n ∧ n ≤ 100000) (hb : (ltE es k).length ≤ 100000) (g : FH) (w : World) (HO : St w (poH pb mb rp rm n es clk).fp g g [poH pb mb rp rm n es clk] w) :
    Spec Try.prog 13 #[pt pb, .int .u8 k.1.toNat, .int .u8 k.2.toNat, .int .i64 j, .agg (hmL 2 at_ by_).toArray] w (poH pb mb rp rm n es clk).fp g (fun v' h' L' => h' = g ∧ ∃ es', v' = .int .i64 0 ∧ L' = [poH pb mb rp rm (n + 1) es' clk] ∧ InvE es' clk ∧ ∀ k', ltE es' k' = if k' = k then (ltE es k).take (j + 1) ++ x :: (ltE es k).drop (j + 1) else ltE es k') := by
  have H := HO.split3
  obtain ⟨kind, hkind⟩ : ∃ kind : Int, kind = 2 := ⟨2, rfl⟩
  rw [show hmL 2 at_ by_ = hmL kind at_ by_ by rw [hkind]]
  have g1 : (poL rp rm n mb)[0 + 1]? = some (.int .i64 rm) := rfl
  have g2 : (poL rp rm n mb)[0 + 2]? = some (.int .i64 n) := rfl
  have g3 : (poL rp rm n mb)[0 + 3]? = some (.map (some mb)) := rfl
  have q0 : (hmL kind at_ by_)[0 + 0]? = some (.int .i64 kind) := rfl
  have lk2 : (lkL k).length = 2 := rfl
  have lp4 : (poL rp rm n mb).length = 4 := rfl
  generalize hF9 : (poH pb mb rp rm n es clk).fp = F9 at H ⊢
  obtain ⟨i, hi⟩ : ∃ i, idxE es k = some i := by
    cases hi : idxE es k with
    | none => rw [ltE_none hi] at hx; simp at hx
    | some i => exact ⟨i, rfl⟩
  obtain ⟨e, he, hk9, hil⟩ := idxE_some hi
  have hlt := ltE_some hi he
  rw [hlt, List.getElem?_map] at hx
  obtain ⟨y, hy, hyx⟩ := Option.map_eq_some_iff.1 hx
  have hjl := (List.getElem?_eq_some_iff.1 hy).1
  rw [hlt, List.length_map] at hb
  replace H := H.entry he
  have hone := H.lvOne (i := 1) rfl
  obtain ⟨a8, c8, ey, -⟩ := H.lvForm (i := 1) rfl y (List.mem_of_getElem? hy)
  obtain ⟨a, c, ev9⟩ := H.vsForm (i := 0) rfl
  have hgm : getM (.slice none 0 0) (es.map EnT.me) k = .slice a e.lv.length c := (getM_some hi he).trans ev9
  have hset := fun v lv => InvE.set (v := v) (lv := lv) hI he
  have hlts := fun v lv => ltE_set (v := v) (lv := lv) hi he
  have hsm := fun v lv => setM_some (clk := clk) (v := v) (lv := lv) hi he
  rw [hlt]
  rw [ev9] at H
  rw [hyx] at ey
  have hyl : ∃ l1, e.lv.map (·.1) = l1 ∧ l1[j]? = some (.slice a8 x.length c8) := ⟨_, rfl, by rw [List.getElem?_map, hy]; simp [ey]⟩
  have hfl := fun w hs hb => hC ▸ po_fault pb mb rp rm n k (full w) w hs hb
  obtain ⟨g0, hg0⟩ : ∃ g0, a = some (⟨g0, 0, none⟩ : Addr) := by
    obtain ⟨g0, cur, e1, -⟩ := H.ownBlk (i := 0) rfl (by omega)
    exact ⟨g0, e1⟩
  subst hg0
  have hnc : e.lv.length ≤ c ∧ c ≤ 9223372036854775807 := by
    have h9 : (maxLen : Nat) ≤ 9223372036854775807 := by decide
    obtain ⟨_, _, e1, h1, h2, _⟩ := H.ownRd (i := 0) rfl
    injection e1 with _ _ e3
    omega
  unfold Spec
  refine calls_of Try.func13 rfl Try.ntmps13 (by simp) ?_
  repeat' (first | ((first | refine WL.p rfl ?_ | refine WL.u ?_ | refine WL.g rfl rfl ?_ | refine WL.gu rfl ?_); first | (refine opk 1 rfl ?_; (refine ost_V H rfl (hfl _ (sat_full _) H.bI) rfl ?_; clear H; intro wk H)) | (refine opk 13 rfl ?_; (refine ost_lookup0 (k := k) rfl rfl rfl H.bI ?_; rw [hgm])) | refine pvQ ?_ | (refine opk 3 rfl ?_; (refine ost_cmp rfl rfl rfl rfl (fun hc => ?_) (fun hc => ?_) <;> (simp only [cmpP] at hc; try exact prIQ))) | (refine opk 4 rfl ?_; (refine ost_cmp rfl rfl rfl rfl (fun hc => ?_) (fun hc => ?_) <;> (simp only [cmpP] at hc; try exact prIQ))) | (refine opk 8 rfl ?_; first | (refine ost_store1 H rfl rfl vlQ gvQ ixQ (by first | decide | (simp; omega) | (simp; done) | omega) ?_; clear H; intro wk H; simp only [List.set_cons_zero, List.set_cons_succ, Nat.reduceAdd] at H) | (refine ost_storeW H rfl rfl rfl rfl lQ ixQ lQ okQ ?_; clear H; intro wk H; simp only [List.set_cons_zero, List.set_cons_succ, Nat.reduceAdd] at H)) | (refine opk 9 rfl ?_; first | (refine ost_boxq H rfl ?_; clear H; intro bk wk H) | (refine ost_allocA H rfl ?_; clear H; intro bk wk H) | (refine ost_build1 H rfl rfl rfl evQ lsQ rfl ?_; clear H; intro bk wk H))) | refine Wc.seq ?_ | refine then_n ?_ | refine WL.nil ?_ | refine Wc.region ?_ | refine Wc.block ?_ | refine then_r ?_ | refine then_e ?_ | refine inb_e rfl ?_ | refine inb_o rfl ?_ | refine inb_n ?_ | refine inb_r ?_ | refine Wc.skip ?_ | refine Wc.exit ?_ | refine Wc.ret ?_ | refine Wc.cond_true rfl ?_ | refine Wc.cond_false rfl ?_ | (refine Wc.drawn (id := 7) 5 (by kernel_rfl) ?_) | (refine Wc.drawn (id := 13) 12 (by kernel_rfl) ?_) | (refine Wc.drawn (id := 19) 17 (by kernel_rfl) ?_) | refine WL.skp rfl rfl ?_ | refine WL.sku rfl ?_ | (refine rgs_nil ?_; intro vs wk hE; replace H := H.ext hE; clear hE) | refine RGs.skp (fun _ => rfl) rfl ?_ | (refine RGs.bq (fun _ => rfl) rfl (by intro vs w hE hP; have H := H.ext hE; first | exact dbQ | fail) (fun hc => ?_) (fun hc => ?_) <;> ((try simp only [cmpP, decide_eq_true_eq, decide_eq_false_iff_not, dcd_iff, dcd_no] at hc); try exact prDQ)) | refine RGs.pq (fun _ => rfl) rfl (by intro vs w hE hP; have H := H.ext hE; first | exact dvQ | fail) ?_)
  all_goals first | (exfalso; omega) | skip
  obtain ⟨bk, ebk⟩ := H.nameB idx0
  subst ebk
  obtain ⟨bh, ebh⟩ := H.nameB idx1
  subst ebh
  have H2 : St w F9 g g [vsH (.slice (some ⟨g0, 0, none⟩) e.lv.length c) e.lv, .blk bk (.cells (lkL k).toArray 64 (0, 0)), .blk bh (.cells (hmL kind at_ by_).toArray 46 (0, 0)), poB pb mb rp rm n, moB mb es clk, lvH e.lv, HA.all ((es.map enH).eraseIdx i)] wk := H.picks [2, 0, 1, 4, 5, 3, 6] rfl (by decide)
  clear H
  have H := H2
  clear H2
  refine Wc.drawX (id := 16) 15 [11, 12, 13, 14] (piN [11, 12, 13, 14] [.blk bk (.cells (lkL k).toArray 64 (0, 0)), .blk bh (.cells (hmL kind at_ by_).toArray 46 (0, 0)), poB pb mb rp rm n, moB mb es clk, lvH e.lv, HA.all ((es.map enH).eraseIdx i)] (pH x e.lv (.slice (some ⟨g0, 0, none⟩) e.lv.length c) a8 c8 j)) H (by kernel_rfl) (by kernel_rfl) (piN_0 (A := [_]) rfl) ?_
  refine RGx.p rfl (by intro vs w dn L hd hP9 H; exact dvQ) ?_
  refine RGx.p rfl (by intro vs w dn L hd hP9 H; exact dvQ) ?_
  refine RGx.p rfl (by intro vs w dn L hd hP9 H; exact dvQ) ?_
  refine RGx.p rfl (by intro vs w dn L hd hP9 H; obtain ⟨T9, rfl⟩ := piN_B hP9; exact ost_load1 rfl rfl rfl (H.okB (j := 2) rfl) g3 ⟨Fr.refl _ _, rfl⟩) ?_
  refine RGx.p rfl (by intro vs w dn L hd hP9 H; obtain ⟨T9, rfl⟩ := piN_B hP9; exact ost_loadW rfl rfl rfl (H.okB (j := 0) rfl) lk2 ⟨Fr.refl _ _, rfl⟩) ?_
  refine RGx.p rfl (by intro vs w dn L hd hP9 H; exact dvQ) ?_
  refine RGx.p rfl (by intro vs w dn L hd hP9 H; exact dvQ) ?_
  refine RGx.p rfl (by intro vs w dn L hd hP9 H; exact dvQ) ?_
  refine RGx.p rfl (by intro vs w dn L hd hP9 H; exact dvQ) ?_
  refine RGx.p rfl (by intro vs w dn L hd hP9 H; exact dvQ) ?_
  refine RGx.p rfl (by intro vs w dn L hd hP9 H; exact dvQ) ?_
  refine RGx.m rfl (by
    intro vs w dn L h1 hd hP9 H
    obtain ⟨T9, rfl, rfl, hn9⟩ := piN_step (by decide) hP9 0 11 rfl h1 (.inl rfl)
    obtain ⟨b, off, l, T, fr, c9, e9, eb, -, -, eg⟩ := H.vsCell (i := 0) (v := .slice (some ⟨g0, 0, none⟩) e.lv.length c) (lv := e.lv) rfl (by omega)
    injection e9 with e9 _ _
    injection e9 with e9
    injection e9 with e9 e10 _
    subst e9; subst e10
    have g9 := eg (j : Int) j y rfl hy
    rw [ey] at g9
    exact ost_load1 rfl rfl rfl eb g9 ⟨_, hn9 _ [_] ⟨rfl, rfl⟩, H⟩) ?_
  refine RGx.m rfl (by
    intro vs w dn L h1 hd hP9 H
    obtain ⟨T9, rfl, ⟨e1, rfl⟩, hn9⟩ := piN_step (by decide) hP9 1 12 rfl h1 (.inr ⟨11, rfl, hd 11 (by kernel_rfl) rfl⟩)
    have e8 : vs (0 + 1 + 1 + 1 + 1 + 1 + 1 + 1 + 1 + 1 + 1 + 1) = _ := e1
    obtain ⟨a7, c7, e7, hr7⟩ := H.lvForm (i := 5) (lv := e.lv) rfl y (List.mem_of_getElem? hy)
    rw [ey] at e7
    injection e7 with e71 _ e73
    subst e71; subst e73
    rw [hyx] at hr7
    rw [e8]
    refine ost_C H rfl (clone8 _ _ _ x _ (sat_full _) hr7 (by omega)) rfl ?_
    rintro v w' h' L' ⟨a', c', rfl, -, rfl⟩ H2
    exact ⟨_, hn9 _ [_, _] ⟨⟨a', c', rfl⟩, rfl⟩, H2⟩) ?_
  refine RGx.m rfl (by
    intro vs w dn L h1 hd hP9 H
    obtain ⟨T9, rfl, ⟨⟨a', c', e1⟩, rfl⟩, hn9⟩ := piN_step (by decide) hP9 2 13 rfl h1 (.inr ⟨12, rfl, hd 12 (by kernel_rfl) rfl⟩)
    have e8 : vs (0 + 1 + 1 + 1 + 1 + 1 + 1 + 1 + 1 + 1 + 1 + 1 + 1) = _ := e1
    rw [e8]
    refine ost_buildR (rows := [[Value.slice a' x.length c']]) H rfl (by decide) rfl (by rfl) (evP1 vxQ) (.cons rfl .nil) rfl (by simp) ?_
    intro bk wk H2
    refine ⟨_, hn9 (.slice (some ⟨bk, 0, none⟩) 1 1) [_, _, _] ⟨⟨a', c', e1⟩, ⟨bk, rfl⟩, rfl⟩, ?_⟩
    simp only [if_true, if_neg (show ¬ (12 = 13) by decide)]
    rw [e1] at H2 ⊢
    exact H2) ?_
  refine RGx.m rfl (by
    intro vs w dn L h1 hd hP9 H
    obtain ⟨T9, rfl, ⟨⟨a', c', e7⟩, ⟨b', e8⟩, rfl⟩, hn9⟩ := piN_step (by decide) hP9 3 14 rfl h1 (.inr ⟨13, rfl, hd 13 (by kernel_rfl) rfl⟩)
    have e6 : vs (0 + 1 + 1 + 1 + 1 + 1 + 1 + 1 + 1 + 1 + 1 + 1 + 1 + 1) = _ := e8
    rw [e6]
    rw [e8] at H
    have hu : (vs 12).oneCell' = true := by rw [e7]; rfl
    have H2 : St _ F9 g g [vsH (.slice (some ⟨g0, 0, none⟩) e.lv.length c) e.lv, .own (.slice (some ⟨b', 0, none⟩) 1 1) 31 1 1 [vs 12], own8 (vs 12) 5 x, .blk bk (.cells (lkL k).toArray 64 (0, 0)), .blk bh (.cells (hmL kind at_ by_).toArray 46 (0, 0)), poB pb mb rp rm n, moB mb es clk, lvH e.lv, HA.all ((es.map enH).eraseIdx i)] w := H.picks [2, 0, 1, 3, 4, 5, 6, 7, 8] rfl (by decide)
    have H3 := H2.join
    refine ost_O (i := 0) (A := insV (some ⟨g0, 0, none⟩) c e.lv b' (vs 12)) H3 rfl rfl (fun HO => ins_lv _ c e.lv (j + 1) (by omega) b' (vs 12) x hone hu (by omega) _ _ HO) rfl ?_
    rintro v w' h' L' ⟨-, a9, c9, rfl, rfl⟩ H4
    exact ⟨_, hn9 _ [_, _] ⟨⟨a', c', e7⟩, ⟨a9, c9, rfl⟩, rfl⟩, H4.picks [1, 0, 2, 3, 4, 5, 6, 7] rfl (by decide)⟩) ?_
  refine RGx.nil ?_
  intro vs wk dn L hall hP9 H9
  obtain ⟨T9, rfl, ⟨a', c', e7⟩, ⟨a9, c9, e11⟩, rfl⟩ := piN_end hP9 14 rfl (hall 14 rfl)
  clear H
  have H := H9
  clear H9
  rw [e7] at e11
  rw [e11, e7] at H
  have hv14 : vs (0 + 1 + 1 + 1 + 1 + 1 + 1 + 1 + 1 + 1 + 1 + 1 + 1 + 1 + 1) = _ := e11
  (try dsimp only)
  rw [hv14]
  clear hP9 e7 e11 hv14 hone
  simp only [List.cons_append, List.nil_append] at H
  have hLVm : (e.lv.take (j + 1) ++ (Value.slice a' x.length c', x) :: e.lv.drop (j + 1)).map (·.2) = (e.lv.map (·.2)).take (j + 1) ++ x :: (e.lv.map (·.2)).drop (j + 1) := by simp
  have hset9 := hset (.slice a9 (e.lv.take (j + 1) ++ (Value.slice a' x.length c', x) :: e.lv.drop (j + 1)).length c9) (e.lv.take (j + 1) ++ (Value.slice a' x.length c', x) :: e.lv.drop (j + 1))
  have hlt9 := hlts (.slice a9 (e.lv.take (j + 1) ++ (Value.slice a' x.length c', x) :: e.lv.drop (j + 1)).length c9) (e.lv.take (j + 1) ++ (Value.slice a' x.length c', x) :: e.lv.drop (j + 1))
  have hsm9 := hsm (.slice a9 (e.lv.take (j + 1) ++ (Value.slice a' x.length c', x) :: e.lv.drop (j + 1)).length c9) (e.lv.take (j + 1) ++ (Value.slice a' x.length c', x) :: e.lv.drop (j + 1))
  have hLVh : (e.lv.take (j + 1) ++ (Value.slice a' x.length c', x) :: e.lv.drop (j + 1)).map (fun x => own8 x.1 5 x.2) = (e.lv.map fun x => own8 x.1 5 x.2).take (j + 1) ++ own8 (.slice a' x.length c') 5 x :: (e.lv.map fun x => own8 x.1 5 x.2).drop (j + 1) := by simp
  generalize hLV : e.lv.take (j + 1) ++ (Value.slice a' x.length c', x) :: e.lv.drop (j + 1) = LV at H hLVm hset9 hlt9 hsm9 hLVh ⊢
  repeat' (first | ((first | refine WL.p rfl ?_ | refine WL.u ?_ | refine WL.g rfl rfl ?_ | refine WL.gu rfl ?_); first | (refine opk 13 rfl ?_; (refine ost_mapUpdate (k := k) (i := 5) (v := .slice a9 LV.length c9) H rfl rfl rfl rfl rfl ?_; clear H; intro wk H; rw [hsm9] at H; simp only [List.set_cons_zero, List.set_cons_succ] at H)) | refine pvQ ?_ | (refine opk 3 rfl ?_; (refine ost_cmp rfl rfl rfl rfl (fun hc => ?_) (fun hc => ?_) <;> (simp only [cmpP] at hc; try exact prIQ))) | (refine opk 4 rfl ?_; (refine ost_cmp rfl rfl rfl rfl (fun hc => ?_) (fun hc => ?_) <;> (simp only [cmpP] at hc; try exact prIQ))) | (refine opk 8 rfl ?_; first | (refine ost_store1 H rfl rfl vlQ gvQ ixQ (by first | decide | (simp; omega) | (simp; done) | omega) ?_; clear H; intro wk H; simp only [List.set_cons_zero, List.set_cons_succ, Nat.reduceAdd] at H) | (refine ost_storeW H rfl rfl rfl rfl lQ ixQ lQ okQ ?_; clear H; intro wk H; simp only [List.set_cons_zero, List.set_cons_succ, Nat.reduceAdd] at H)) | (refine opk 9 rfl ?_; first | (refine ost_boxq H rfl ?_; clear H; intro bk wk H) | (refine ost_allocA H rfl ?_; clear H; intro bk wk H) | (refine ost_build1 H rfl rfl rfl evQ lsQ rfl ?_; clear H; intro bk wk H))) | refine Wc.seq ?_ | refine then_n ?_ | refine WL.nil ?_ | refine Wc.region ?_ | refine Wc.block ?_ | refine then_r ?_ | refine then_e ?_ | refine inb_e rfl ?_ | refine inb_o rfl ?_ | refine inb_n ?_ | refine inb_r ?_ | refine Wc.skip ?_ | refine Wc.exit ?_ | refine Wc.ret ?_ | refine Wc.cond_true rfl ?_ | refine Wc.cond_false rfl ?_ | (refine Wc.drawn (id := 7) 5 (by kernel_rfl) ?_) | (refine Wc.drawn (id := 13) 12 (by kernel_rfl) ?_) | (refine Wc.drawn (id := 16) 15 (by kernel_rfl) ?_) | (refine Wc.drawn (id := 19) 17 (by kernel_rfl) ?_) | refine WL.skp rfl rfl ?_ | refine WL.sku rfl ?_ | (refine rgs_nil ?_; intro vs wk hE; replace H := H.ext hE; clear hE) | refine RGs.skp (fun _ => rfl) rfl ?_ | (refine RGs.bq (fun _ => rfl) rfl (by intro vs w hE hP; have H := H.ext hE; first | exact dbQ | fail) (fun hc => ?_) (fun hc => ?_) <;> ((try simp only [cmpP, decide_eq_true_eq, decide_eq_false_iff_not, dcd_iff, dcd_no] at hc); try exact prDQ)) | refine RGs.pq (fun _ => rfl) rfl (by intro vs w hE hP; have H := H.ext hE; first | exact dvQ | fail) ?_)
  have H3 : St w F9 g g [own8 (.slice a' x.length c') 5 x, HA.all (e.lv.map fun x => own8 x.1 5 x.2), vsH (.slice a9 LV.length c9) LV, poB pb mb rp rm (n + 1), moB mb (es.set i (e.put (.slice a9 LV.length c9) LV)) clk, HA.all ((es.map enH).eraseIdx i)] _ := H.picks [0, 6, 1, 4, 5, 7] rfl (by decide)
  have H4 := H3.allIns (j + 1)
  rw [← hLVh] at H4
  have H5 : St w F9 g g [vsH (.slice a9 LV.length c9) LV, lvH LV, poB pb mb rp rm (n + 1), moB mb (es.set i (e.put (.slice a9 LV.length c9) LV)) clk, HA.all ((es.map enH).eraseIdx i)] _ := H4.perm (List.Perm.swap _ _ _)
  have H6 := H5.shut (e' := e.put (.slice a9 LV.length c9) LV) hil
  exact fn_ret1 (v := .int _ _) rfl rfl ⟨_, _, H6, rfl, _, rfl, rfl, hset9, fun k' => by rw [hlt9, hLVm]⟩
theorem bitv_xor8 (x y : UInt8) : bitv .xor .u8 x.toNat y.toNat = ((x ^^^ y).toNat : Int) := by
  have e : ∀ z : UInt8, BitVec.ofInt IntKind.u8.bits (z.toNat : Int) = z.toBitVec := fun z => by
    apply BitVec.eq_of_toNat_eq
    have := z.toNat_lt
    simp [IntKind.bits]
  simp only [bitv, e]
  have hl := (x ^^^ y).toNat_lt
  have := wrap_in (k := .u8) (n := ((x ^^^ y).toNat : Int)) (by simp only [inK]; omega)
  exact this
def turnB (at_ : UInt16) (by_ : UInt8) (x : List UInt8) : List UInt8 := x.modify (at_.toNat % x.length) fun b => b ^^^ by_
theorem turnB_len (at_ : UInt16) (by_ : UInt8) (x : List UInt8) : (turnB at_ by_ x).length = x.length := by unfold turnB; rw [List.length_modify]
theorem turnB_nil (at_ : UInt16) (by_ : UInt8) : turnB at_ by_ [] = [] := by unfold turnB; simp
theorem turnB_set {at_ : UInt16} {by_ : UInt8} {x : List UInt8} {i : Nat} (hi : at_.toNat % x.length = i) (hl : i < x.length) : turnB at_ by_ x = x.set i (x[i] ^^^ by_) := by
  unfold turnB
  rw [hi]
  apply List.ext_getElem?
  intro q
  rw [List.getElem?_modify, List.getElem?_set]
  by_cases hq : i = q
  · subst hq; simp [hl]
  · simp [hq]
theorem po_HarmTurn (pb mb : Nat) (rp rm n : Int) (es : List EnT) (clk : Nat) (k : LkT) (j : Nat) (x : List UInt8) (at_ : UInt16) (by_ : UInt8) (hC : faultC rp k = 0) (hI : InvE es clk) (hx : (ltE es k)[j]? = some x) (hxl : x.length ≤ 1000000) (hb : (ltE es k).length ≤ 100000) (g : FH) (w : World) (HO : St w (poH pb mb rp rm n es clk).fp g g [poH pb mb rp rm n es clk] w) :
    Spec Try.prog 13 #[pt pb, .int .u8 k.1.toNat, .int .u8 k.2.toNat, .int .i64 j, .agg (hmL 3 at_ by_).toArray] w (poH pb mb rp rm n es clk).fp g (fun v' h' L' => h' = g ∧ ∃ es', v' = .int .i64 0 ∧ L' = [poH pb mb rp rm n es' clk] ∧ InvE es' clk ∧ ∀ k', ltE es' k' = if k' = k then (ltE es k).set j (turnB at_ by_ x) else ltE es k') := by
  have H := HO.split3
  obtain ⟨kind, hkind⟩ : ∃ kind : Int, kind = 3 := ⟨3, rfl⟩
  rw [show hmL 3 at_ by_ = hmL kind at_ by_ by rw [hkind]]
  have g1 : (poL rp rm n mb)[0 + 1]? = some (.int .i64 rm) := rfl
  have g2 : (poL rp rm n mb)[0 + 2]? = some (.int .i64 n) := rfl
  have g3 : (poL rp rm n mb)[0 + 3]? = some (.map (some mb)) := rfl
  have q0 : (hmL kind at_ by_)[0 + 0]? = some (.int .i64 kind) := rfl
  have q1 : (hmL kind at_ by_)[0 + 1]? = some (.int .u16 at_.toNat) := rfl
  have q2 : (hmL kind at_ by_)[0 + 2]? = some (.int .u8 by_.toNat) := rfl
  have lk2 : (lkL k).length = 2 := rfl
  have hat := at_.toNat_lt
  generalize hF9 : (poH pb mb rp rm n es clk).fp = F9 at H ⊢
  obtain ⟨i, hi⟩ : ∃ i, idxE es k = some i := by
    cases hi : idxE es k with
    | none => rw [ltE_none hi] at hx; simp at hx
    | some i => exact ⟨i, rfl⟩
  obtain ⟨e, he, hk9, hil⟩ := idxE_some hi
  have hlt := ltE_some hi he
  rw [hlt, List.getElem?_map] at hx
  obtain ⟨y, hy, hyx⟩ := Option.map_eq_some_iff.1 hx
  have hjl := (List.getElem?_eq_some_iff.1 hy).1
  rw [hlt, List.length_map] at hb
  replace H := H.entry he
  obtain ⟨a8, c8, ey, -⟩ := H.lvForm (i := 1) rfl y (List.mem_of_getElem? hy)
  obtain ⟨a, c, ev9⟩ := H.vsForm (i := 0) rfl
  have hgm : getM (.slice none 0 0) (es.map EnT.me) k = .slice a e.lv.length c := (getM_some hi he).trans ev9
  have hset := fun v lv => InvE.set (v := v) (lv := lv) hI he
  have hlts := fun v lv => ltE_set (v := v) (lv := lv) hi he
  rw [hlt]
  have hput : ∀ lv, es.set i (e.put e.v lv) = es.set i (e.put (.slice a e.lv.length c) lv) := fun lv => by rw [ev9]
  rw [ev9] at H
  rw [hyx] at ey
  have hfl := fun w hs hb => hC ▸ po_fault pb mb rp rm n k (full w) w hs hb
  have hmx : c ≤ maxLen := by
    obtain ⟨_, _, e1, _, h2, _⟩ := H.ownRd (i := 0) rfl
    injection e1 with _ _ e3
    omega
  have h9 : (maxLen : Nat) ≤ 9223372036854775807 := by decide
  -- the letter, taken out
  have hm1 : (e.lv.map fun x => own8 x.1 5 x.2)[j]? = some (own8 y.1 5 y.2) := by rw [List.getElem?_map, hy]; rfl
  have H2 : St w F9 g g [HA.all (e.lv.map fun x => own8 x.1 5 x.2), vsH (.slice a e.lv.length c) e.lv, poB pb mb rp rm n, moB mb es clk, HA.all ((es.map enH).eraseIdx i)] w := H.perm (List.Perm.swap _ _ _)
  have H3 := H2.allTake hm1
  rw [ey, hyx] at H3
  clear H H2
  have H4 : St w F9 g g [vsH (.slice a e.lv.length c) e.lv, own8 (.slice a8 x.length c8) 5 x, HA.all ((e.lv.map fun x => own8 x.1 5 x.2).eraseIdx j), poB pb mb rp rm n, moB mb es clk, HA.all ((es.map enH).eraseIdx i)] w := H3.picks [2, 0, 1, 3, 4, 5] rfl (by decide)
  clear H3
  have hfin : ∀ (w' : World) (x' : List UInt8), x'.length = x.length → St w F9 g g [vsH (.slice a e.lv.length c) e.lv, own8 (.slice a8 x'.length c8) 5 x', HA.all ((e.lv.map fun x => own8 x.1 5 x.2).eraseIdx j), poB pb mb rp rm n, moB mb es clk, HA.all ((es.map enH).eraseIdx i)] w' → ∃ es', St w F9 g g [poH pb mb rp rm n es' clk] w' ∧ InvE es' clk ∧ ∀ k', ltE es' k' = if k' = k then (e.lv.map (·.2)).set j x' else ltE es k' := fun w' x' hxx H => by
    have H5 : St w F9 g g [own8 (.slice a8 x'.length c8) 5 x', HA.all ((e.lv.map fun x => own8 x.1 5 x.2).eraseIdx j), vsH (.slice a e.lv.length c) e.lv, poB pb mb rp rm n, moB mb es clk, HA.all ((es.map enH).eraseIdx i)] w' := H.picks [1, 2, 0, 3, 4, 5] rfl (by decide)
    have H6 := H5.allPut (by rw [List.length_map]; exact hjl)
    have hm2 : (e.lv.map fun x => own8 x.1 5 x.2).set j (own8 (.slice a8 x'.length c8) 5 x') = (e.lv.set j (y.1, x')).map fun x => own8 x.1 5 x.2 := by rw [List.map_set, ey, hxx]
    rw [hm2] at H6
    have hv1 : vsH (.slice a e.lv.length c) e.lv = vsH (.slice a e.lv.length c) (e.lv.set j (y.1, x')) := by
      unfold vsH
      rw [List.length_set, List.map_set]
      congr 1
      apply List.ext_getElem?
      intro q
      rw [List.getElem?_set]
      by_cases hq : j = q
      · subst hq
        rw [if_pos rfl, if_pos (by rw [List.length_map]; exact hjl), List.getElem?_map, hy]; rfl
      · rw [if_neg hq]
    rw [hv1] at H6
    have H7 : St w F9 g g [vsH (.slice a e.lv.length c) (e.lv.set j (y.1, x')), lvH (e.lv.set j (y.1, x')), poB pb mb rp rm n, moB mb es clk, HA.all ((es.map enH).eraseIdx i)] w' := H6.perm (List.Perm.swap _ _ _)
    have hme : es.map EnT.me = (es.set i (e.put (.slice a e.lv.length c) (e.lv.set j (y.1, x')))).map EnT.me := by
      rw [← me_set he, ← ev9]
      apply List.ext_getElem?
      intro q
      rw [List.getElem?_modify, List.getElem?_map]
      by_cases hq : i = q
      · subst hq; rw [he]; simp [EnT.me]
      · simp [hq]
    have hmb : moB mb es clk = moB mb (es.set i (e.put (.slice a e.lv.length c) (e.lv.set j (y.1, x')))) clk := by unfold moB; rw [← hme]
    rw [hmb] at H7
    refine ⟨_, H7.shut (e' := e.put (.slice a e.lv.length c) (e.lv.set j (y.1, x'))) hil, hset _ _, fun k' => ?_⟩
    rw [hlts, List.map_set]
  clear hyx hm1 ev9
  have H := H4
  clear H4
  obtain ⟨g0, cur, rfl, hnc, hcl, hct, H9⟩ := H.ownBlk (i := 0) rfl (by omega)
  clear H; have H := H9; clear H9
  rw [Nat.mul_one] at hcl hct
  simp only [List.set_cons_zero] at H
  have gx : cur[0 + (j : Int).toNat * 1]? = some (.slice a8 x.length c8) := by
    have : 0 + (j : Int).toNat * 1 = j := by omega
    rw [this, ← ey]
    have h1 := congrArg (fun l => l[j]?) hct
    simp only [List.getElem?_take, if_pos hjl, List.getElem?_map, hy, Option.map_some] at h1
    exact h1
  have hback : ∀ {L : List HA} {w' : World}, St w F9 g g (.blk g0 (.cells cur.toArray 31 (0, 0)) :: L) w' → St w F9 g g (vsH (.slice (some ⟨g0, 0, none⟩) e.lv.length c) e.lv :: L) w' := fun {L w'} H => by
    have := H.blkOwnB (i := 0) rfl hcl (n := e.lv.length) hnc hmx
    rw [hct] at this; exact this
  by_cases hxz : x.length = 0
  · have hx0 : x = [] := List.eq_nil_of_length_eq_zero hxz
    unfold Spec
    refine calls_of Try.func13 rfl Try.ntmps13 (by simp) ?_
    repeat' (first | ((first | refine WL.p rfl ?_ | refine WL.u ?_ | refine WL.g rfl rfl ?_ | refine WL.gu rfl ?_); first | (refine opk 1 rfl ?_; (refine ost_V H rfl (hfl _ (sat_full _) H.bI) rfl ?_; clear H; intro wk H)) | (refine opk 13 rfl ?_; (refine ost_lookup0 (k := k) rfl rfl rfl H.bI ?_; rw [hgm])) | refine pvQ ?_ | (refine opk 3 rfl ?_; (refine ost_cmp rfl rfl rfl rfl (fun hc => ?_) (fun hc => ?_) <;> (simp only [cmpP] at hc; try exact prIQ))) | (refine opk 4 rfl ?_; (refine ost_cmp rfl rfl rfl rfl (fun hc => ?_) (fun hc => ?_) <;> (simp only [cmpP] at hc; try exact prIQ))) | (refine opk 8 rfl ?_; first | (refine ost_store1 H rfl rfl vlQ gvQ ixQ (by first | decide | (simp; omega) | (simp; done) | omega) ?_; clear H; intro wk H; simp only [List.set_cons_zero, List.set_cons_succ, Nat.reduceAdd] at H) | (refine ost_storeW H rfl rfl rfl rfl lQ ixQ lQ okQ ?_; clear H; intro wk H; simp only [List.set_cons_zero, List.set_cons_succ, Nat.reduceAdd] at H)) | (refine opk 9 rfl ?_; first | (refine ost_boxq H rfl ?_; clear H; intro bk wk H) | (refine ost_allocA H rfl ?_; clear H; intro bk wk H) | (refine ost_build1 H rfl rfl rfl evQ lsQ rfl ?_; clear H; intro bk wk H))) | refine Wc.seq ?_ | refine then_n ?_ | refine WL.nil ?_ | refine Wc.region ?_ | refine Wc.block ?_ | refine then_r ?_ | refine then_e ?_ | refine inb_e rfl ?_ | refine inb_o rfl ?_ | refine inb_n ?_ | refine inb_r ?_ | refine Wc.skip ?_ | refine Wc.exit ?_ | refine Wc.ret ?_ | refine Wc.cond_true rfl ?_ | refine Wc.cond_false rfl ?_ | (refine Wc.drawn (id := 7) 5 (by kernel_rfl) ?_) | (refine Wc.drawn (id := 13) 12 (by kernel_rfl) ?_) | (refine Wc.drawn (id := 16) 15 (by kernel_rfl) ?_) | (refine Wc.drawn (id := 19) 17 (by kernel_rfl) ?_) | refine WL.skp rfl rfl ?_ | refine WL.sku rfl ?_ | (refine rgs_nil ?_; intro vs wk hE; replace H := H.ext hE; clear hE) | refine RGs.skp (fun _ => rfl) rfl ?_ | (refine RGs.bq (fun _ => rfl) rfl (by intro vs w hE hP; have H := H.ext hE; first | exact dbQ | fail) (fun hc => ?_) (fun hc => ?_) <;> ((try simp only [cmpP, decide_eq_true_eq, decide_eq_false_iff_not, dcd_iff, dcd_no] at hc); try exact prDQ)) | refine RGs.pq (fun _ => rfl) rfl (by intro vs w hE hP; have H := H.ext hE; first | exact dvQ | fail) ?_)
    all_goals first | (exfalso; omega) | skip
    have H2 := hback (H.picks (L' := [_, own8 (.slice a8 x.length c8) 5 x, _, poB pb mb rp rm n, moB mb es clk, _]) [2, 3, 4, 5, 6, 7] rfl (by decide))
    obtain ⟨es', h1, h2, h3⟩ := hfin _ x rfl H2
    subst hx0
    rw [turnB_nil]
    exact fn_ret1 (v := .int _ _) rfl rfl ⟨_, _, h1, rfl, es', rfl, rfl, h2, h3⟩
  · obtain ⟨g8, cur8, rfl, hnc8, hcl8, hct8, H9⟩ := H.ownBlk (i := 1) rfl (by omega)
    have hmx8 : c8 ≤ maxLen := by
      obtain ⟨_, _, e1, _, h2, _⟩ := H.ownRd (i := 1) rfl
      injection e1 with _ _ e3
      omega
    clear H; have H := H9; clear H9
    rw [Nat.mul_one] at hcl8 hct8
    simp only [List.set_cons_zero, List.set_cons_succ] at H
    have hm := Nat.mod_lt at_.toNat (show 0 < x.length by omega)
    have hts := turnB_set (by_ := by_) (at_ := at_) (x := x) rfl hm
    have hmi : (((at_.toNat : Nat) : Int) % ((x.length : Nat) : Int)).toNat = at_.toNat % x.length := by omega
    have hmi2 : ((at_.toNat : Nat) : Int) % ((x.length : Nat) : Int) < x.length := by omega
    have hmi3 : 0 ≤ ((at_.toNat : Nat) : Int) % ((x.length : Nat) : Int) := by omega
    have gb : cur8[0 + (((at_.toNat : Nat) : Int) % ((x.length : Nat) : Int)).toNat * 1]? = some (.int .u8 x[at_.toNat % x.length].toNat) := by
      rw [hmi]
      have h1 := congrArg (fun l => l[at_.toNat % x.length]?) hct8
      simp only [List.getElem?_take, if_pos hm, cB_get hm] at h1
      rw [show 0 + at_.toNat % x.length * 1 = at_.toNat % x.length by omega]
      exact h1
    unfold Spec
    refine calls_of Try.func13 rfl Try.ntmps13 (by simp) ?_
    repeat' (first | ((first | refine WL.p rfl ?_ | refine WL.u ?_ | refine WL.g rfl rfl ?_ | refine WL.gu rfl ?_); first | (refine opk 1 rfl ?_; (refine ost_V H rfl (hfl _ (sat_full _) H.bI) rfl ?_; clear H; intro wk H)) | (refine opk 13 rfl ?_; (refine ost_lookup0 (k := k) rfl rfl rfl H.bI ?_; rw [hgm])) | refine pvQ ?_ | (refine opk 3 rfl ?_; (refine ost_cmp rfl rfl rfl rfl (fun hc => ?_) (fun hc => ?_) <;> (simp only [cmpP] at hc; try exact prIQ))) | (refine opk 4 rfl ?_; (refine ost_cmp rfl rfl rfl rfl (fun hc => ?_) (fun hc => ?_) <;> (simp only [cmpP] at hc; try exact prIQ))) | (refine opk 8 rfl ?_; first | (refine ost_store1 H rfl rfl vlQ gvQ ixQ (by first | decide | (simp; omega) | (simp; done) | omega) ?_; clear H; intro wk H; simp only [List.set_cons_zero, List.set_cons_succ, Nat.reduceAdd] at H) | (refine ost_storeW H rfl rfl rfl rfl lQ ixQ lQ okQ ?_; clear H; intro wk H; simp only [List.set_cons_zero, List.set_cons_succ, Nat.reduceAdd] at H)) | (refine opk 9 rfl ?_; first | (refine ost_boxq H rfl ?_; clear H; intro bk wk H) | (refine ost_allocA H rfl ?_; clear H; intro bk wk H) | (refine ost_build1 H rfl rfl rfl evQ lsQ rfl ?_; clear H; intro bk wk H))) | refine Wc.seq ?_ | refine then_n ?_ | refine WL.nil ?_ | refine Wc.region ?_ | refine Wc.block ?_ | refine then_r ?_ | refine then_e ?_ | refine inb_e rfl ?_ | refine inb_o rfl ?_ | refine inb_n ?_ | refine inb_r ?_ | refine Wc.skip ?_ | refine Wc.exit ?_ | refine Wc.ret ?_ | refine Wc.cond_true rfl ?_ | refine Wc.cond_false rfl ?_ | (refine Wc.drawn (id := 7) 5 (by kernel_rfl) ?_) | (refine Wc.drawn (id := 13) 12 (by kernel_rfl) ?_) | (refine Wc.drawn (id := 16) 15 (by kernel_rfl) ?_) | (refine Wc.drawn (id := 19) 17 (by kernel_rfl) ?_) | refine WL.skp rfl rfl ?_ | refine WL.sku rfl ?_ | (refine rgs_nil ?_; intro vs wk hE; replace H := H.ext hE; clear hE) | refine RGs.skp (fun _ => rfl) rfl ?_ | (refine RGs.bq (fun _ => rfl) rfl (by intro vs w hE hP; have H := H.ext hE; first | exact dbQ | fail) (fun hc => ?_) (fun hc => ?_) <;> ((try simp only [cmpP, decide_eq_true_eq, decide_eq_false_iff_not, dcd_iff, dcd_no] at hc); try exact prDQ)) | refine RGs.pq (fun _ => rfl) rfl (by intro vs w hE hP; have H := H.ext hE; first | exact dvQ | fail) ?_)
    all_goals first | (exfalso; omega) | skip
    rw [hmi, show 0 + at_.toNat % x.length * 1 = at_.toNat % x.length by omega, bitv_xor8] at H
    have hcl9 : (cur8.set (at_.toNat % x.length) (.int .u8 (x[at_.toNat % x.length] ^^^ by_).toNat)).length = c8 := by rw [List.length_set]; exact hcl8
    have H1 := H.blkOwnB (i := 3) rfl hcl9 (n := x.length) hnc8 hmx8
    have hct9 : (cur8.set (at_.toNat % x.length) (.int .u8 (x[at_.toNat % x.length] ^^^ by_).toNat)).take x.length = cB (turnB at_ by_ x) := by
      rw [List.take_set, hct8, hts]
      unfold cB
      rw [List.map_set]; rfl
    rw [hct9] at H1
    have H2 := hback (H1.picks (L' := [_, .own (.slice (some ⟨g8, 0, none⟩) x.length c8) 5 1 x.length (cB (turnB at_ by_ x)), _, poB pb mb rp rm n, moB mb es clk, _]) [2, 3, 4, 5, 6, 7] rfl (by decide))
    obtain ⟨es', h1, h2, h3⟩ := hfin _ (turnB at_ by_ x) (turnB_len _ _ _) (by unfold own8; rw [turnB_len]; exact H2)
    exact fn_ret1 (v := .int _ _) rfl rfl ⟨_, _, h1, rfl, es', rfl, rfl, h2, h3⟩
end Go.Tg

