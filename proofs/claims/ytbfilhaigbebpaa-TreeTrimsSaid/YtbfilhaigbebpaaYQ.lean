/- Proved: the given statement TreeTrimsSaid: the Go law TreeTrims returns true for every input that it is asked of. No conditions. -/
import Derived.Test.YtbfilhaigbebpaaInst
import Derived.Test.YtbfilhaigbebpaaAuto
import Derived.Test.YtbfilhaigbebpaaYN
import Derived.Test.YtbfilhaigbebpaaYO
set_option linter.unusedVariables false
set_option linter.unusedSimpArgs false
set_option maxRecDepth 100000
set_option maxHeartbeats 16000000
namespace Go.Tg
open Go Go.Proofs
theorem trim_TrB {h : FH} {T : TrM} {d : Nat} {s : Sh d} {k : Nat} (H : TrB h T d s k) : TrB h (T.trim (Sh.nums d s) ((Sh.its d s).length : Nat)) d s k := ⟨(trim_inv H.inv).1, H.dp, H.nx, H.ln⟩
theorem idxM_keys {es es' : List (ME UInt32)} (h : es.map ME.k = es'.map ME.k) (k : UInt32) : idxM es k = idxM es' k := by
  have e : ∀ es : List (ME UInt32), idxM es k = (es.map ME.k).findIdx? (fun y => decide (y = k)) := fun es => by
    unfold idxM; rw [List.findIdx?_map]; rfl
  rw [e, e, h]
theorem setM_keys {es es' : List (ME UInt32)} (h : es.map ME.k = es'.map ME.k) (c c' : Nat) (k : UInt32) (v v' : Value) : (setM es c k v).1.map ME.k = (setM es' c' k v').1.map ME.k := by
  have hm : ∀ (es : List (ME UInt32)) (i : Nat) (v : Value), (es.modify i fun x => { x with v := v }).map ME.k = es.map ME.k := fun es i v => by
    apply List.ext_getElem
    · simp
    · intro n h1 h2
      simp only [List.getElem_map, List.getElem_modify]
      split <;> rfl
  unfold setM
  rw [idxM_keys h k]
  cases idxM es' k with
  | none => simp [h]
  | some i => show (es.modify i _).map ME.k = (es'.modify i _).map ME.k; rw [hm, hm, h]
theorem trimP_len2 (es es' : List (ME UInt32)) (z z' : Value) (ns : List UInt32) : (trimP es z ns).1.length = (trimP es' z' ns).1.length := by
  have go : ∀ (ns : List UInt32) (a b : List (ME UInt32) × Nat), a.1.map ME.k = b.1.map ME.k → (ns.foldl (fun a n => setM a.1 a.2 n (getM z es n)) a).1.map ME.k = (ns.foldl (fun a n => setM a.1 a.2 n (getM z' es' n)) b).1.map ME.k := by
    intro ns
    induction ns with
    | nil => intro a b h; exact h
    | cons m ns ih =>
      intro a b h
      rw [List.foldl_cons, List.foldl_cons]
      exact ih _ _ (setM_keys h _ _ _ _ _)
  have := congrArg List.length (go ns ([], 0) ([], 0) rfl)
  rw [List.length_map, List.length_map] at this
  exact this
theorem trim_twice (T : TrM) (ns : List UInt32) (cnt : Int) : IntKind.i64.wrap (((T.trim ns cnt).pages.length : Int) - (((T.trim ns cnt).trim ns cnt).pages.length : Nat)) = 0 := by
  have : (T.trim ns cnt).pages.length = ((T.trim ns cnt).trim ns cnt).pages.length := trimP_len2 _ _ _ _ _
  rw [← this, Int.sub_self]; rfl
theorem St.nameT {ws w : World} {S : List Nat} {h0 h : FH} {L : List HA} {i tb mb rb : Nat} {T : TrM} (H : St ws S h0 h L w) (hi : L[i]? = some (trO tb mb rb T)) : ∃ x y z, x = tb ∧ y = mb ∧ z = rb := ⟨_, _, _, rfl, rfl, rfl⟩
theorem law_TreeTrims (w : World) (a : Option Addr) (c : Nat) (l : List Ac14) (hS : Sl (full w) 6 a c (l.map ac14L)) : SpecV Try.prog 7 #[.slice a l.length c] w (.bool true) := by
  have H := St.start (sat_full w)
  have hs := sat_full w
  have hln := hS.lenM
  unfold SpecV
  refine calls_of Try.func7 rfl Try.ntmps7 (by simp) ?_
  repeat' (first | ((first | refine WL.p rfl ?_ | refine WL.u ?_ | refine WL.g rfl rfl ?_ | refine WL.gu rfl ?_); first | (refine opk 1 rfl ?_; first | (refine ost_V H rfl (law14_alive _) rfl ?_; clear H; intro wk H) | (refine ost_C H rfl (tr_New _ _ (sat_full _)) rfl ?_; clear H; rintro vk wk hfk Lk ⟨rfl, tb, mb, rb, rfl, rfl⟩ H; simp only [List.cons_append, List.nil_append] at H)) | refine pvQ ?_ | (refine opk 3 rfl ?_; first | (refine ost_eqA rfl (by decide) rfl rfl tyQ tyQ (fun hc => ?_) (fun hc => ?_) <;> try exact prEQ) | (refine ost_neA rfl (by decide) rfl rfl tyQ tyQ (fun hc => ?_) (fun hc => ?_) <;> try exact prEQ) | (refine ost_cmp rfl rfl rfl rfl (fun hc => ?_) (fun hc => ?_) <;> (simp only [cmpP] at hc; try exact prIQ)) | (refine ost_ptEq rfl rfl rfl (fun hc => ?_) (fun hc => ?_) <;> try (simp at hc; done)) | (refine ost_ptNe rfl rfl rfl (fun hc => ?_) (fun hc => ?_) <;> try (simp at hc; done))) | (refine opk 4 rfl ?_; (refine ost_cmp rfl rfl rfl rfl (fun hc => ?_) (fun hc => ?_) <;> (simp only [cmpP] at hc; try exact prIQ))) | (refine opk 8 rfl ?_; (refine ost_storeW H rfl rfl rfl rfl lQ ixQ lQ okQ ?_; clear H; intro wk H; simp only [List.set_cons_zero, List.set_cons_succ, Nat.reduceAdd] at H)) | (refine opk 9 rfl ?_; (refine ost_allocA H rfl ?_; clear H; intro bk wk H))) | refine Wc.seq ?_ | refine then_n ?_ | refine WL.nil ?_ | refine Wc.region ?_ | refine Wc.block ?_ | refine then_r ?_ | refine then_e ?_ | refine inb_e rfl ?_ | refine inb_o rfl ?_ | refine inb_n ?_ | refine inb_r ?_ | refine Wc.skip ?_ | refine Wc.exit ?_ | refine Wc.ret ?_ | refine Wc.cond_true rfl ?_ | refine Wc.cond_false rfl ?_ | (refine Wc.drawn (id := 12) 7 (by kernel_rfl) ?_) | (refine Wc.drawn (id := 13) 7 (by kernel_rfl) ?_) | (refine Wc.drawn (id := 23) 8 (by kernel_rfl) ?_) | refine WL.skp rfl rfl ?_ | refine WL.sku rfl ?_ | (refine rgs_nil ?_; intro vs wk hE; replace H := H.ext hE; clear hE) | refine RGs.skp (fun _ => rfl) rfl ?_ | (refine RGs.bq (fun _ => rfl) rfl (by intro vs w hE hP; have H := H.ext hE; first | exact dbQ | fail) (fun hc => ?_) (fun hc => ?_) <;> ((try simp only [cmpP, decide_eq_true_eq, decide_eq_false_iff_not, dcd_iff, dcd_no] at hc); try exact prDQ)) | refine RGs.pq (fun _ => rfl) rfl (by intro vs w hE hP; have H := H.ext hE; first | exact dvQ | fail) ?_)
  all_goals first | (exfalso; omega) | skip
  obtain ⟨ta, ma, ra, e1, e2, e3⟩ := H.nameT (i := 1) rfl
  subst e1; subst e2; subst e3
  refine Wc.loopE (fun s0 m st w' => ∃ (i d1 : Nat) (s1 : Sh d1) (A : TrM) (d2 : Nat) (s2 : Sh d2) (B : TrM) (g' : FH) (ma ra mb rb : Nat), m = l.length - i ∧ i ≤ l.length ∧ i ≤ 120 ∧ Agree [2, 5, 6, 7, 8, 9, 10, 11, 12, 13, 14, 15, 26, 27, 28, 29, 30, 31, 32, 33, 34, 35, 36, 37, 38, 39, 40, 41, 42, 43, 44, 45, 46, 47, 48, 49, 50, 51, 52, 53, 54, 55, 56, 57, 58, 59, 60, 61, 62, 63, 64, 65, 66, 67, 68, 69, 70, 71, 72, 73, 74, 75, 76, 77, 78, 79, 80, 81, 82, 83, 84, 85, 86, 87, 88, 89, 90, 91, 92, 93, 94, 95, 96, 97, 98, 99, 100, 101, 102, 103, 104, 105, 106, 107, 108, 109, 110, 111, 112, 113, 114, 115, 116, 117, 118, 119, 120, 121, 122, 123] st s0 ∧ st 5 = .int .i64 i ∧ FLe (full w) g' ∧ TrB g' A d1 s1 i ∧ TrB g' B d2 s2 i ∧ Sh.its d1 s1 = Sh.its d2 s2 ∧ St w [] (full w) g' [trO tb mb rb B, trO ta ma ra A] w') l.length ⟨0, 0, leafS 1 [], newT, 0, leafS 1 [], newT, full w, ma, ra, mb, rb, rfl, by omega, by omega, Agree.refl _ _, rfl, FLe.refl _, newT_inv _, newT_inv _, rfl, H⟩ ?_
  clear H
  rintro m st w' ⟨i, d1, s1, A, d2, s2, B, g', ma, ra, mb, rb, rfl, hi1, hi2, hA, e1, hle0, hTA, hTB, hits, H⟩
  obtain ⟨j9, rfl⟩ := hA.env1 e1
  clear hA e1
  by_cases hlt : i < l.length ∧ i < 120
  · obtain ⟨b, off, l9, T9, fr, e1, eb, eg⟩ := hS.getM (by decide) (Nat.lt_of_le_of_lt (Nat.zero_le _) hlt.1)
    subst e1
    have g9 := eg (i : Int).toNat i hlt.1 (by omega)
    clear eg
    replace eb := hle0 _ _ eb
    obtain ⟨x, hx9⟩ : ∃ x, x = l[i] := ⟨_, rfl⟩
    rw [← hx9] at g9
    clear hx9
    have l6 := ac14L_len x
    have gk := ac14_key x
    have gl := ac14_loc x
    have gd := ac14_kd x
    have lk := cKey_len x.it.key
    have ll := cLoc_len x.it.loc
    have u0 := x.kd.toNat_lt
    have hlnm := hTA.ln
    by_cases hk3 : 3 ≤ x.kd.toNat % 6
    · have hDa := fun g w hT HO => tr_DropA ta ma ra A d1 s1 i x.it.key g w hT (by omega) HO
      have hDb := fun g w hT HO => tr_DropA tb mb rb B d2 s2 i x.it.key g w hT (by omega) HO
      rw [← hits] at hDb
      generalize dropI (Sh.its d1 s1) x.it.key = Z at hDa hDb
      repeat' (first | ((first | refine WL.p rfl ?_ | refine WL.u ?_ | refine WL.g rfl rfl ?_ | refine WL.gu rfl ?_); first | refine pvQ ?_ | (refine opk 3 rfl ?_; first | (refine ost_eqA rfl (by decide) rfl rfl tyQ tyQ (fun hc => ?_) (fun hc => ?_) <;> try exact prEQ) | (refine ost_neA rfl (by decide) rfl rfl tyQ tyQ (fun hc => ?_) (fun hc => ?_) <;> try exact prEQ) | (refine ost_cmp rfl rfl rfl rfl (fun hc => ?_) (fun hc => ?_) <;> (simp only [cmpP] at hc; try exact prIQ)) | (refine ost_ptEq rfl rfl rfl (fun hc => ?_) (fun hc => ?_) <;> try (simp at hc; done)) | (refine ost_ptNe rfl rfl rfl (fun hc => ?_) (fun hc => ?_) <;> try (simp at hc; done))) | (refine opk 4 rfl ?_; (refine ost_cmp rfl rfl rfl rfl (fun hc => ?_) (fun hc => ?_) <;> (simp only [cmpP] at hc; try exact prIQ))) | (refine opk 8 rfl ?_; (refine ost_storeW H rfl rfl rfl rfl lQ ixQ lQ okQ ?_; clear H; intro wk H; simp only [List.set_cons_zero, List.set_cons_succ, Nat.reduceAdd] at H)) | (refine opk 9 rfl ?_; (refine ost_allocA H rfl ?_; clear H; intro bk wk H))) | refine Wc.seq ?_ | refine then_n ?_ | refine WL.nil ?_ | refine Wc.region ?_ | refine Wc.block ?_ | refine then_r ?_ | refine then_e ?_ | refine inb_e rfl ?_ | refine inb_o rfl ?_ | refine inb_n ?_ | refine inb_r ?_ | refine Wc.skip ?_ | refine Wc.exit ?_ | refine Wc.ret ?_ | refine Wc.cond_true rfl ?_ | refine Wc.cond_false rfl ?_ | refine WL.skp rfl rfl ?_ | refine WL.sku rfl ?_)
      all_goals first | (exfalso; omega) | (exfalso; exact hc rfl) | skip
      obtain ⟨b6, eb6⟩ := H.nameB idx0
      subst eb6
      obtain ⟨h1, hle1, hb6, H1⟩ := H.freezeB
      clear H
      have H := H1
      clear H1
      replace eb := hle1 _ _ eb
      refine Wc.drawF (id := 12) 7 [3] (piF [3] [trO tb mb rb B] fun cc vs g L => match cc with
        | 0 => L = [trO ta ma ra A]
        | _ => ∃ (A' : TrM) (d' : Nat) (s' : Sh d'), vs 3 = .int .i64 Z.2 ∧ L = [trO ta ma ra A'] ∧ TrB g A' d' s' (i + 1) ∧ Sh.its d' s' = Z.1) (H.picks [1, 0] rfl (by decide)) (by kernel_rfl) (by kernel_rfl) (piF_0 (A := [trO ta ma ra A]) rfl) ?_
      clear H
      iterate 3 refine RGf.p rfl (by intro vs w dn g' L hg hd hP H; have h92 := hg _ _ hb6; exact dvQ) ?_
      refine RGf.m rfl (by
        intro vs w dn g' L hg hd hdep hP H
        obtain ⟨T9, rfl, hps, hst⟩ := piF_step (by decide) hP 0 3 rfl hd (.inl rfl)
        subst hps
        refine ost_H H rfl idx0 (fun HO => hDa g' _ (hTA.mono (hle1.trans hg) (Nat.le_refl _)) HO) rfl ?_
        rintro vk wk hfk Lk ⟨A', d', s', rfl, rfl, h3, h4, -⟩ hle9 H2
        exact ⟨hfk, _, hle9, hst _ _ _ ⟨A', d', s', rfl, rfl, h3, h4⟩, H2⟩) ?_
      iterate 3 refine RGf.p rfl (by intro vs w dn g' L hg hd hP H; have h92 := hg _ _ hb6; exact dvQ) ?_
      refine RGf.nil ?_
      intro vs wk dn g1 L hg hdn hP H
      obtain ⟨T8, hL, A1, d1, s1, e3, hT8, hTA0, hits1⟩ := piF_end hP 3 rfl (hdn 3 rfl)
      subst hT8
      subst hL
      simp only [List.cons_append, List.nil_append] at H
      have e3' : vs (0 + 1 + 1 + 1) = _ := e3
      dsimp only
      rw [e3']
      clear e3 e3' hP hdn
      replace hb6 := hg _ _ hb6
      have hTB0 := hTB.mono (hle1.trans hg) (Nat.le_refl _)
      repeat' (first | ((first | refine WL.p rfl ?_ | refine WL.u ?_ | refine WL.g rfl rfl ?_ | refine WL.gu rfl ?_); first | (refine opk 1 rfl ?_; (refine ost_H (A := trO tb mb rb B) H rfl (by (exact ixQ)) (fun HO => hDb _ _ hTB0 HO) rfl ?_; clear H; rintro vk wk hfk Lk ⟨B1, d2, s2, rfl, rfl, hTB1, hits2, -⟩ hle H; simp only [List.cons_append, List.nil_append, List.eraseIdx_cons_zero, List.eraseIdx_cons_succ] at H)) | refine pvQ ?_ | (refine opk 3 rfl ?_; first | (refine ost_eqA rfl (by decide) rfl rfl tyQ tyQ (fun hc => ?_) (fun hc => ?_) <;> try exact prEQ) | (refine ost_neA rfl (by decide) rfl rfl tyQ tyQ (fun hc => ?_) (fun hc => ?_) <;> try exact prEQ) | (refine ost_cmp rfl rfl rfl rfl (fun hc => ?_) (fun hc => ?_) <;> (simp only [cmpP] at hc; try exact prIQ)) | (refine ost_ptEq rfl rfl rfl (fun hc => ?_) (fun hc => ?_) <;> try (simp at hc; done)) | (refine ost_ptNe rfl rfl rfl (fun hc => ?_) (fun hc => ?_) <;> try (simp at hc; done))) | (refine opk 4 rfl ?_; (refine ost_cmp rfl rfl rfl rfl (fun hc => ?_) (fun hc => ?_) <;> (simp only [cmpP] at hc; try exact prIQ))) | (refine opk 8 rfl ?_; (refine ost_storeW H rfl rfl rfl rfl lQ ixQ lQ okQ ?_; clear H; intro wk H; simp only [List.set_cons_zero, List.set_cons_succ, Nat.reduceAdd] at H)) | (refine opk 9 rfl ?_; (refine ost_allocA H rfl ?_; clear H; intro bk wk H))) | refine Wc.seq ?_ | refine then_n ?_ | refine WL.nil ?_ | refine Wc.region ?_ | refine Wc.block ?_ | refine then_r ?_ | refine then_e ?_ | refine inb_e rfl ?_ | refine inb_o rfl ?_ | refine inb_n ?_ | refine inb_r ?_ | refine Wc.skip ?_ | refine Wc.exit ?_ | refine Wc.ret ?_ | refine Wc.cond_true rfl ?_ | refine Wc.cond_false rfl ?_ | refine WL.skp rfl rfl ?_ | refine WL.sku rfl ?_)
      all_goals first | (exfalso; omega) | (exfalso; exact hc rfl) | skip
      replace hb6 := hle _ _ hb6
      have hTA1 := hTA0.mono hle (Nat.le_refl _)
      rw [← hits2] at hits1
      have hln1 := hTA1.ln
      have hln2 := hTB1.ln
      have hTr := fun g w hT HO => tr_Trim tb mb rb B1 d2 s2 g w hT (hTB1.nodes (by omega)) HO
      have hB2 := fun h (hT : TrB h B1 d2 s2 (i + 1)) => trim_TrB hT
      have hT2 := fun mb rb g w (hT : TrI g (B1.trim (Sh.nums d2 s2) ((Sh.its d2 s2).length : Nat)) d2 s2) HO => tr_Trim tb mb rb _ d2 s2 g w hT (hTB1.nodes (by omega)) HO
      rw [trim_twice] at hT2
      have hB3 := fun h (hT : TrB h (B1.trim (Sh.nums d2 s2) ((Sh.its d2 s2).length : Nat)) d2 s2 (i + 1)) => trim_TrB hT
      generalize (B1.trim (Sh.nums d2 s2) ((Sh.its d2 s2).length : Nat)).trim (Sh.nums d2 s2) ((Sh.its d2 s2).length : Nat) = B3 at hT2 hB3
      generalize B1.trim (Sh.nums d2 s2) ((Sh.its d2 s2).length : Nat) = B2 at hTr hB2 hT2 hB3
      repeat' (first | ((first | refine WL.p rfl ?_ | refine WL.u ?_ | refine WL.g rfl rfl ?_ | refine WL.gu rfl ?_); first | (refine opk 1 rfl ?_; (refine ost_H (A := trO tb mb rb B1) H rfl (by (exact ixQ)) (fun HO => hTr _ _ hTB1.inv HO) rfl ?_; clear H; rintro vk wk hfk Lk ⟨mb, rb, rfl, rfl⟩ hle H; simp only [List.cons_append, List.nil_append, List.eraseIdx_cons_zero, List.eraseIdx_cons_succ] at H)) | refine pvQ ?_ | (refine opk 3 rfl ?_; first | (refine ost_eqA rfl (by decide) rfl rfl tyQ tyQ (fun hc => ?_) (fun hc => ?_) <;> try exact prEQ) | (refine ost_neA rfl (by decide) rfl rfl tyQ tyQ (fun hc => ?_) (fun hc => ?_) <;> try exact prEQ) | (refine ost_cmp rfl rfl rfl rfl (fun hc => ?_) (fun hc => ?_) <;> (simp only [cmpP] at hc; try exact prIQ)) | (refine ost_ptEq rfl rfl rfl (fun hc => ?_) (fun hc => ?_) <;> try (simp at hc; done)) | (refine ost_ptNe rfl rfl rfl (fun hc => ?_) (fun hc => ?_) <;> try (simp at hc; done))) | (refine opk 4 rfl ?_; (refine ost_cmp rfl rfl rfl rfl (fun hc => ?_) (fun hc => ?_) <;> (simp only [cmpP] at hc; try exact prIQ))) | (refine opk 8 rfl ?_; (refine ost_storeW H rfl rfl rfl rfl lQ ixQ lQ okQ ?_; clear H; intro wk H; simp only [List.set_cons_zero, List.set_cons_succ, Nat.reduceAdd] at H)) | (refine opk 9 rfl ?_; (refine ost_allocA H rfl ?_; clear H; intro bk wk H))) | refine Wc.seq ?_ | refine then_n ?_ | refine WL.nil ?_ | refine Wc.region ?_ | refine Wc.block ?_ | refine then_r ?_ | refine then_e ?_ | refine inb_e rfl ?_ | refine inb_o rfl ?_ | refine inb_n ?_ | refine inb_r ?_ | refine Wc.skip ?_ | refine Wc.exit ?_ | refine Wc.ret ?_ | refine Wc.cond_true rfl ?_ | refine Wc.cond_false rfl ?_ | (refine Wc.drawn (id := 12) 7 (by kernel_rfl) ?_) | (refine Wc.drawn (id := 13) 7 (by kernel_rfl) ?_) | refine WL.skp rfl rfl ?_ | refine WL.sku rfl ?_ | (refine rgs_nil ?_; intro vs wk hE; replace H := H.ext hE; clear hE) | refine RGs.skp (fun _ => rfl) rfl ?_ | (refine RGs.bq (fun _ => rfl) rfl (by intro vs w hE hP; have H := H.ext hE; first | exact dbQ | fail) (fun hc => ?_) (fun hc => ?_) <;> ((try simp only [cmpP, decide_eq_true_eq, decide_eq_false_iff_not, dcd_iff, dcd_no] at hc); try exact prDQ)) | refine RGs.pq (fun _ => rfl) rfl (by intro vs w hE hP; have H := H.ext hE; first | exact dvQ | fail) ?_)
      all_goals first | (exfalso; omega) | (exfalso; exact hc rfl) | skip
      have hTB2 := hB2 _ (hTB1.mono hle (Nat.le_refl _))
      have hTA2 := hTA1.mono hle (Nat.le_refl _)
      replace hb6 := hle _ _ hb6
      have hga := fun w hs hF hR => tr_Get ta ma ra A1 d1 s1 x.it.key (full w) w hs hF hTA2.inv.ok hTA2.inv.srt hR hTA2.inv.root
      have hgb := fun w hs hF hR => tr_Get tb mb rb B2 d2 s2 x.it.key (full w) w hs hF hTB2.inv.ok hTB2.inv.srt hR hTB2.inv.root
      have hra := fun w hs hF hR => tr_Range ta ma ra A1 d1 s1 leastK greatK (full w) w hs hF hTA2.inv.ok hTA2.inv.srt hR hTA2.inv.root (by omega)
      have hrb := fun w hs hF hR => tr_Range tb mb rb B2 d2 s2 leastK greatK (full w) w hs hF hTB2.inv.ok hTB2.inv.srt hR hTB2.inv.root (by omega)
      rw [rangeI_all] at hra hrb
      rw [← hits1] at hgb hrb
      have lg := cLoc_len (getI (Sh.its d1 s1) x.it.key).1
      repeat' (first | ((first | refine WL.p rfl ?_ | refine WL.u ?_ | refine WL.g rfl rfl ?_ | refine WL.gu rfl ?_); first | (refine opk 1 rfl ?_; first | (refine ost_V H rfl (hga _ (sat_full _) (H.trF (i := 1) rfl) (hTA2.inv.rep.mono H.sat.le)) rfl ?_; clear H; intro wk H) | (refine ost_V H rfl (hgb _ (sat_full _) (H.trF (i := 1) rfl) (hTB2.inv.rep.mono H.sat.le)) rfl ?_; clear H; intro wk H) | (refine ost_V H rfl (law14_least _) rfl ?_; clear H; intro wk H) | (refine ost_V H rfl (law14_greatest _) rfl ?_; clear H; intro wk H) | (refine ost_C H rfl (hra _ (sat_full _) (H.trF (i := 3) rfl) (hTA2.inv.rep.mono H.sat.le)) rfl ?_; clear H; rintro vk wk hfk Lk ⟨aa, ca, rfl, rfl⟩ H; simp only [List.cons_append, List.nil_append] at H) | (refine ost_C H rfl (hrb _ (sat_full _) (H.trF (i := 3) rfl) (hTB2.inv.rep.mono H.sat.le)) rfl ?_; clear H; rintro vk wk hfk Lk ⟨ab, cb, rfl, rfl⟩ H; simp only [List.cons_append, List.nil_append] at H) | (refine ost_H (A := trO tb mb rb B2) H rfl (by (exact ixQ)) (fun HO => hT2 _ _ _ _ hTB2.inv HO) rfl ?_; clear H; rintro vk wk hfk Lk ⟨mb, rb, rfl, rfl⟩ hle H; simp only [List.cons_append, List.nil_append, List.eraseIdx_cons_zero, List.eraseIdx_cons_succ] at H)) | refine pvQ ?_ | (refine opk 3 rfl ?_; first | (refine ost_eqA rfl (by decide) rfl rfl tyQ tyQ (fun hc => ?_) (fun hc => ?_) <;> try exact prEQ) | (refine ost_neA rfl (by decide) rfl rfl tyQ tyQ (fun hc => ?_) (fun hc => ?_) <;> try exact prEQ) | (refine ost_cmp rfl rfl rfl rfl (fun hc => ?_) (fun hc => ?_) <;> (simp only [cmpP] at hc; try exact prIQ)) | (refine ost_ptEq rfl rfl rfl (fun hc => ?_) (fun hc => ?_) <;> try (simp at hc; done)) | (refine ost_ptNe rfl rfl rfl (fun hc => ?_) (fun hc => ?_) <;> try (simp at hc; done))) | (refine opk 4 rfl ?_; (refine ost_cmp rfl rfl rfl rfl (fun hc => ?_) (fun hc => ?_) <;> (simp only [cmpP] at hc; try exact prIQ))) | (refine opk 8 rfl ?_; (refine ost_storeW H rfl rfl rfl rfl lQ ixQ lQ okQ ?_; clear H; intro wk H; simp only [List.set_cons_zero, List.set_cons_succ, Nat.reduceAdd] at H)) | (refine opk 9 rfl ?_; (refine ost_allocA H rfl ?_; clear H; intro bk wk H))) | refine Wc.seq ?_ | refine then_n ?_ | refine WL.nil ?_ | refine Wc.region ?_ | refine Wc.block ?_ | refine then_r ?_ | refine then_e ?_ | refine inb_e rfl ?_ | refine inb_o rfl ?_ | refine inb_n ?_ | refine inb_r ?_ | refine Wc.skip ?_ | refine Wc.exit ?_ | refine Wc.ret ?_ | refine Wc.cond_true rfl ?_ | refine Wc.cond_false rfl ?_ | (refine Wc.drawn (id := 12) 7 (by kernel_rfl) ?_) | (refine Wc.drawn (id := 13) 7 (by kernel_rfl) ?_) | refine WL.skp rfl rfl ?_ | refine WL.sku rfl ?_ | (refine rgs_nil ?_; intro vs wk hE; replace H := H.ext hE; clear hE) | refine RGs.skp (fun _ => rfl) rfl ?_ | (refine RGs.bq (fun _ => rfl) rfl (by intro vs w hE hP; have H := H.ext hE; first | exact dbQ | fail) (fun hc => ?_) (fun hc => ?_) <;> ((try simp only [cmpP, decide_eq_true_eq, decide_eq_false_iff_not, dcd_iff, dcd_no] at hc); try exact prDQ)) | refine RGs.pq (fun _ => rfl) rfl (by intro vs w hE hP; have H := H.ext hE; first | exact dvQ | fail) ?_)
      all_goals first | (exfalso; omega) | (exfalso; exact hc rfl) | skip
      have hTB3 := hB3 _ (hTB2.mono hle (Nat.le_refl _))
      have hTA3 := hTA2.mono hle (Nat.le_refl _)
      obtain ⟨a9, c9, h9, e9, hle9, hN9, H9⟩ := (H.picks (L' := [ownR _ _ _ _, ownR _ _ _ _, trO _ _ _ _, trO _ _ _ _]) [2, 1, 0, 5] rfl (by decide)).freezeR (rows_len5 _)
      injection e9 with e91 e92 e93
      subst e91; subst e93
      obtain ⟨a8, c8, h8, e8, hle8, hN8, H8⟩ := H9.freezeR (rows_len5 _)
      injection e8 with e91 e92 e93
      subst e91; subst e93
      clear H H9
      have H := H8
      clear H8
      replace hN9 := hN9.mono hle8
      replace hTA3 := hTA3.mono (hle9.trans hle8) (Nat.le_refl _)
      replace hTB3 := hTB3.mono (hle9.trans hle8) (Nat.le_refl _)
      have q1 := hN9.lenM
      have q2 := hN8.lenM
      refine Wc.loopE (fun s0 m s w' => ∃ k : Nat, m = (Sh.its d1 s1).length - k ∧ k ≤ (Sh.its d1 s1).length ∧ Agree [2, 15, 111, 112, 113, 114, 115, 116, 117, 118, 119, 120, 121, 122, 123] s s0 ∧ s 111 = .int .i64 k ∧ St w [] (full w) h8 [trO tb mb rb B3, trO ta ma ra A1] w') (Sh.its d1 s1).length ⟨0, rfl, by omega, Agree.refl _ _, rfl, H⟩ ?_
      clear H
      rintro m s w' ⟨k, rfl, hk, hA, e1, H⟩
      obtain ⟨jk, rfl⟩ := hA.env1 e1
      clear hA e1
      by_cases hlk : k < (Sh.its d1 s1).length
      · obtain ⟨bx, ox, Lx, Tx, fx, e1, ebx, egx⟩ := hN9.getM (by decide) (Nat.lt_of_le_of_lt (Nat.zero_le _) hlk)
        subst e1
        have g1 := egx (k : Int).toNat k hlk (by omega)
        obtain ⟨bz, oz, Lz, Tz, fz, e1, ebz, egz⟩ := hN8.getM (by decide) (Nat.lt_of_le_of_lt (Nat.zero_le _) hlk)
        subst e1
        have g2 := egz (k : Int).toNat k hlk (by omega)
        clear egx egz
        generalize (Sh.its d1 s1)[k] = y at g1 g2
        have ly := cItem_len y
        repeat' (first | ((first | refine WL.p rfl ?_ | refine WL.u ?_ | refine WL.g rfl rfl ?_ | refine WL.gu rfl ?_); first | refine pvQ ?_ | (refine opk 3 rfl ?_; first | (refine ost_eqA rfl (by decide) rfl rfl tyQ tyQ (fun hc => ?_) (fun hc => ?_) <;> try exact prEQ) | (refine ost_neA rfl (by decide) rfl rfl tyQ tyQ (fun hc => ?_) (fun hc => ?_) <;> try exact prEQ) | (refine ost_cmp rfl rfl rfl rfl (fun hc => ?_) (fun hc => ?_) <;> (simp only [cmpP] at hc; try exact prIQ)) | (refine ost_ptEq rfl rfl rfl (fun hc => ?_) (fun hc => ?_) <;> try (simp at hc; done)) | (refine ost_ptNe rfl rfl rfl (fun hc => ?_) (fun hc => ?_) <;> try (simp at hc; done))) | (refine opk 4 rfl ?_; (refine ost_cmp rfl rfl rfl rfl (fun hc => ?_) (fun hc => ?_) <;> (simp only [cmpP] at hc; try exact prIQ))) | (refine opk 8 rfl ?_; (refine ost_storeW H rfl rfl rfl rfl lQ ixQ lQ okQ ?_; clear H; intro wk H; simp only [List.set_cons_zero, List.set_cons_succ, Nat.reduceAdd] at H)) | (refine opk 9 rfl ?_; (refine ost_allocA H rfl ?_; clear H; intro bk wk H))) | refine Wc.seq ?_ | refine then_n ?_ | refine WL.nil ?_ | refine Wc.region ?_ | refine Wc.block ?_ | refine then_r ?_ | refine then_e ?_ | refine inb_e rfl ?_ | refine inb_o rfl ?_ | refine inb_n ?_ | refine inb_r ?_ | refine Wc.skip ?_ | refine Wc.exit ?_ | refine Wc.ret ?_ | refine Wc.cond_true rfl ?_ | refine Wc.cond_false rfl ?_ | (refine Wc.drawn (id := 12) 7 (by kernel_rfl) ?_) | (refine Wc.drawn (id := 13) 7 (by kernel_rfl) ?_) | (refine Wc.drawn (id := 23) 8 (by kernel_rfl) ?_) | refine WL.skp rfl rfl ?_ | refine WL.sku rfl ?_ | (refine rgs_nil ?_; intro vs wk hE; replace H := H.ext hE; clear hE) | refine RGs.skp (fun _ => rfl) rfl ?_ | (refine RGs.bq (fun _ => rfl) rfl (by intro vs w hE hP; have H := H.ext hE; first | exact dbQ | fail) (fun hc => ?_) (fun hc => ?_) <;> ((try simp only [cmpP, decide_eq_true_eq, decide_eq_false_iff_not, dcd_iff, dcd_no] at hc); try exact prDQ)) | refine RGs.pq (fun _ => rfl) rfl (by intro vs w hE hP; have H := H.ext hE; first | exact dvQ | fail) ?_)
        all_goals first | (exfalso; omega) | (exfalso; exact hc rfl) | skip
        exact ⟨(Sh.its d1 s1).length - (k + 1), by omega, k + 1, rfl, by omega, by (repeat' (first | exact Agree.refl _ _ | exact Agree.havoc | refine Agree.upd rfl ?_ | refine Agree.hav2 rfl ?_)), rfl, H⟩
      · repeat' (first | ((first | refine WL.p rfl ?_ | refine WL.u ?_ | refine WL.g rfl rfl ?_ | refine WL.gu rfl ?_); first | refine pvQ ?_ | (refine opk 3 rfl ?_; first | (refine ost_eqA rfl (by decide) rfl rfl tyQ tyQ (fun hc => ?_) (fun hc => ?_) <;> try exact prEQ) | (refine ost_neA rfl (by decide) rfl rfl tyQ tyQ (fun hc => ?_) (fun hc => ?_) <;> try exact prEQ) | (refine ost_cmp rfl rfl rfl rfl (fun hc => ?_) (fun hc => ?_) <;> (simp only [cmpP] at hc; try exact prIQ)) | (refine ost_ptEq rfl rfl rfl (fun hc => ?_) (fun hc => ?_) <;> try (simp at hc; done)) | (refine ost_ptNe rfl rfl rfl (fun hc => ?_) (fun hc => ?_) <;> try (simp at hc; done))) | (refine opk 4 rfl ?_; (refine ost_cmp rfl rfl rfl rfl (fun hc => ?_) (fun hc => ?_) <;> (simp only [cmpP] at hc; try exact prIQ))) | (refine opk 8 rfl ?_; (refine ost_storeW H rfl rfl rfl rfl lQ ixQ lQ okQ ?_; clear H; intro wk H; simp only [List.set_cons_zero, List.set_cons_succ, Nat.reduceAdd] at H)) | (refine opk 9 rfl ?_; (refine ost_allocA H rfl ?_; clear H; intro bk wk H))) | refine Wc.seq ?_ | refine then_n ?_ | refine WL.nil ?_ | refine Wc.region ?_ | refine Wc.block ?_ | refine then_r ?_ | refine then_e ?_ | refine inb_e rfl ?_ | refine inb_o rfl ?_ | refine inb_n ?_ | refine inb_r ?_ | refine Wc.skip ?_ | refine Wc.exit ?_ | refine Wc.ret ?_ | refine Wc.cond_true rfl ?_ | refine Wc.cond_false rfl ?_ | (refine Wc.drawn (id := 12) 7 (by kernel_rfl) ?_) | (refine Wc.drawn (id := 13) 7 (by kernel_rfl) ?_) | (refine Wc.drawn (id := 23) 8 (by kernel_rfl) ?_) | refine WL.skp rfl rfl ?_ | refine WL.sku rfl ?_ | (refine rgs_nil ?_; intro vs wk hE; replace H := H.ext hE; clear hE) | refine RGs.skp (fun _ => rfl) rfl ?_ | (refine RGs.bq (fun _ => rfl) rfl (by intro vs w hE hP; have H := H.ext hE; first | exact dbQ | fail) (fun hc => ?_) (fun hc => ?_) <;> ((try simp only [cmpP, decide_eq_true_eq, decide_eq_false_iff_not, dcd_iff, dcd_no] at hc); try exact prDQ)) | refine RGs.pq (fun _ => rfl) rfl (by intro vs w hE hP; have H := H.ext hE; first | exact dvQ | fail) ?_)
        all_goals first | (exfalso; omega) | (exfalso; exact hc rfl) | skip
        exact ⟨l.length - (i + 1), by omega, i + 1, d1, s1, A1, d2, s2, B3, h8, ma, ra, mb, rb, rfl, by omega, by omega, by (repeat' (first | exact Agree.refl _ _ | exact Agree.havoc | refine Agree.upd rfl ?_ | refine Agree.hav2 rfl ?_)), rfl, H.le hs, hTA3, hTB3, hits1, H⟩
    · have hPa := fun g w hT HO => tr_PutA ta ma ra A d1 s1 i x.it g w hT (by omega) HO
      have hPb := fun g w hT HO => tr_PutA tb mb rb B d2 s2 i x.it g w hT (by omega) HO
      have hI := law14_item x
      rw [← hits] at hPb
      generalize putI (Sh.its d1 s1) x.it = Z at hPa hPb
      repeat' (first | ((first | refine WL.p rfl ?_ | refine WL.u ?_ | refine WL.g rfl rfl ?_ | refine WL.gu rfl ?_); first | refine pvQ ?_ | (refine opk 3 rfl ?_; first | (refine ost_eqA rfl (by decide) rfl rfl tyQ tyQ (fun hc => ?_) (fun hc => ?_) <;> try exact prEQ) | (refine ost_neA rfl (by decide) rfl rfl tyQ tyQ (fun hc => ?_) (fun hc => ?_) <;> try exact prEQ) | (refine ost_cmp rfl rfl rfl rfl (fun hc => ?_) (fun hc => ?_) <;> (simp only [cmpP] at hc; try exact prIQ)) | (refine ost_ptEq rfl rfl rfl (fun hc => ?_) (fun hc => ?_) <;> try (simp at hc; done)) | (refine ost_ptNe rfl rfl rfl (fun hc => ?_) (fun hc => ?_) <;> try (simp at hc; done))) | (refine opk 4 rfl ?_; (refine ost_cmp rfl rfl rfl rfl (fun hc => ?_) (fun hc => ?_) <;> (simp only [cmpP] at hc; try exact prIQ))) | (refine opk 8 rfl ?_; (refine ost_storeW H rfl rfl rfl rfl lQ ixQ lQ okQ ?_; clear H; intro wk H; simp only [List.set_cons_zero, List.set_cons_succ, Nat.reduceAdd] at H)) | (refine opk 9 rfl ?_; (refine ost_allocA H rfl ?_; clear H; intro bk wk H))) | refine Wc.seq ?_ | refine then_n ?_ | refine WL.nil ?_ | refine Wc.region ?_ | refine Wc.block ?_ | refine then_r ?_ | refine then_e ?_ | refine inb_e rfl ?_ | refine inb_o rfl ?_ | refine inb_n ?_ | refine inb_r ?_ | refine Wc.skip ?_ | refine Wc.exit ?_ | refine Wc.ret ?_ | refine Wc.cond_true rfl ?_ | refine Wc.cond_false rfl ?_ | refine WL.skp rfl rfl ?_ | refine WL.sku rfl ?_)
      all_goals first | (exfalso; omega) | (exfalso; exact hc rfl) | skip
      obtain ⟨b6, eb6⟩ := H.nameB idx0
      subst eb6
      obtain ⟨h1, hle1, hb6, H1⟩ := H.freezeB
      clear H
      have H := H1
      clear H1
      replace eb := hle1 _ _ eb
      refine Wc.drawF (id := 13) 7 [3] (piF [3] [trO tb mb rb B] fun cc vs g L => match cc with
        | 0 => L = [trO ta ma ra A]
        | _ => ∃ (A' : TrM) (d' : Nat) (s' : Sh d'), vs 3 = .int .i64 Z.2 ∧ L = [trO ta ma ra A'] ∧ TrB g A' d' s' (i + 1) ∧ Sh.its d' s' = Z.1) (H.picks [1, 0] rfl (by decide)) (by kernel_rfl) (by kernel_rfl) (piF_0 (A := [trO ta ma ra A]) rfl) ?_
      clear H
      iterate 2 refine RGf.p rfl (by intro vs w dn g' L hg hd hP H; have h92 := hg _ _ hb6; exact dvQ) ?_
      refine RGf.p rfl (by intro vs w dn g' L hg hd hP H; exact ost_V0d rfl (hI _) rfl) ?_
      refine RGf.m rfl (by
        intro vs w dn g' L hg hd hdep hP H
        obtain ⟨T9, rfl, hps, hst⟩ := piF_step (by decide) hP 0 3 rfl hd (.inl rfl)
        subst hps
        refine ost_H H rfl idx0 (fun HO => hPa g' _ (hTA.mono (hle1.trans hg) (Nat.le_refl _)) HO) rfl ?_
        rintro vk wk hfk Lk ⟨A', d', s', rfl, rfl, h3, h4, -⟩ hle9 H2
        exact ⟨hfk, _, hle9, hst _ _ _ ⟨A', d', s', rfl, rfl, h3, h4⟩, H2⟩) ?_
      iterate 2 refine RGf.p rfl (by intro vs w dn g' L hg hd hP H; have h92 := hg _ _ hb6; exact dvQ) ?_
      refine RGf.p rfl (by intro vs w dn g' L hg hd hP H; exact ost_V0d rfl (hI _) rfl) ?_
      refine RGf.nil ?_
      intro vs wk dn g1 L hg hdn hP H
      obtain ⟨T8, hL, A1, d1, s1, e3, hT8, hTA0, hits1⟩ := piF_end hP 3 rfl (hdn 3 rfl)
      subst hT8
      subst hL
      simp only [List.cons_append, List.nil_append] at H
      have e3' : vs (0 + 1 + 1 + 1) = _ := e3
      dsimp only
      rw [e3']
      clear e3 e3' hP hdn
      replace hb6 := hg _ _ hb6
      have hTB0 := hTB.mono (hle1.trans hg) (Nat.le_refl _)
      repeat' (first | ((first | refine WL.p rfl ?_ | refine WL.u ?_ | refine WL.g rfl rfl ?_ | refine WL.gu rfl ?_); first | (refine opk 1 rfl ?_; first | (refine ost_V H rfl (hI _) rfl ?_; clear H; intro wk H) | (refine ost_H (A := trO tb mb rb B) H rfl (by (exact ixQ)) (fun HO => hPb _ _ hTB0 HO) rfl ?_; clear H; rintro vk wk hfk Lk ⟨B1, d2, s2, rfl, rfl, hTB1, hits2, -⟩ hle H; simp only [List.cons_append, List.nil_append, List.eraseIdx_cons_zero, List.eraseIdx_cons_succ] at H)) | refine pvQ ?_ | (refine opk 3 rfl ?_; first | (refine ost_eqA rfl (by decide) rfl rfl tyQ tyQ (fun hc => ?_) (fun hc => ?_) <;> try exact prEQ) | (refine ost_neA rfl (by decide) rfl rfl tyQ tyQ (fun hc => ?_) (fun hc => ?_) <;> try exact prEQ) | (refine ost_cmp rfl rfl rfl rfl (fun hc => ?_) (fun hc => ?_) <;> (simp only [cmpP] at hc; try exact prIQ)) | (refine ost_ptEq rfl rfl rfl (fun hc => ?_) (fun hc => ?_) <;> try (simp at hc; done)) | (refine ost_ptNe rfl rfl rfl (fun hc => ?_) (fun hc => ?_) <;> try (simp at hc; done))) | (refine opk 4 rfl ?_; (refine ost_cmp rfl rfl rfl rfl (fun hc => ?_) (fun hc => ?_) <;> (simp only [cmpP] at hc; try exact prIQ))) | (refine opk 8 rfl ?_; (refine ost_storeW H rfl rfl rfl rfl lQ ixQ lQ okQ ?_; clear H; intro wk H; simp only [List.set_cons_zero, List.set_cons_succ, Nat.reduceAdd] at H)) | (refine opk 9 rfl ?_; (refine ost_allocA H rfl ?_; clear H; intro bk wk H))) | refine Wc.seq ?_ | refine then_n ?_ | refine WL.nil ?_ | refine Wc.region ?_ | refine Wc.block ?_ | refine then_r ?_ | refine then_e ?_ | refine inb_e rfl ?_ | refine inb_o rfl ?_ | refine inb_n ?_ | refine inb_r ?_ | refine Wc.skip ?_ | refine Wc.exit ?_ | refine Wc.ret ?_ | refine Wc.cond_true rfl ?_ | refine Wc.cond_false rfl ?_ | refine WL.skp rfl rfl ?_ | refine WL.sku rfl ?_)
      all_goals first | (exfalso; omega) | (exfalso; exact hc rfl) | skip
      replace hb6 := hle _ _ hb6
      have hTA1 := hTA0.mono hle (Nat.le_refl _)
      rw [← hits2] at hits1
      have hln1 := hTA1.ln
      have hln2 := hTB1.ln
      have hTr := fun g w hT HO => tr_Trim tb mb rb B1 d2 s2 g w hT (hTB1.nodes (by omega)) HO
      have hB2 := fun h (hT : TrB h B1 d2 s2 (i + 1)) => trim_TrB hT
      have hT2 := fun mb rb g w (hT : TrI g (B1.trim (Sh.nums d2 s2) ((Sh.its d2 s2).length : Nat)) d2 s2) HO => tr_Trim tb mb rb _ d2 s2 g w hT (hTB1.nodes (by omega)) HO
      rw [trim_twice] at hT2
      have hB3 := fun h (hT : TrB h (B1.trim (Sh.nums d2 s2) ((Sh.its d2 s2).length : Nat)) d2 s2 (i + 1)) => trim_TrB hT
      generalize (B1.trim (Sh.nums d2 s2) ((Sh.its d2 s2).length : Nat)).trim (Sh.nums d2 s2) ((Sh.its d2 s2).length : Nat) = B3 at hT2 hB3
      generalize B1.trim (Sh.nums d2 s2) ((Sh.its d2 s2).length : Nat) = B2 at hTr hB2 hT2 hB3
      repeat' (first | ((first | refine WL.p rfl ?_ | refine WL.u ?_ | refine WL.g rfl rfl ?_ | refine WL.gu rfl ?_); first | (refine opk 1 rfl ?_; (refine ost_H (A := trO tb mb rb B1) H rfl (by (exact ixQ)) (fun HO => hTr _ _ hTB1.inv HO) rfl ?_; clear H; rintro vk wk hfk Lk ⟨mb, rb, rfl, rfl⟩ hle H; simp only [List.cons_append, List.nil_append, List.eraseIdx_cons_zero, List.eraseIdx_cons_succ] at H)) | refine pvQ ?_ | (refine opk 3 rfl ?_; first | (refine ost_eqA rfl (by decide) rfl rfl tyQ tyQ (fun hc => ?_) (fun hc => ?_) <;> try exact prEQ) | (refine ost_neA rfl (by decide) rfl rfl tyQ tyQ (fun hc => ?_) (fun hc => ?_) <;> try exact prEQ) | (refine ost_cmp rfl rfl rfl rfl (fun hc => ?_) (fun hc => ?_) <;> (simp only [cmpP] at hc; try exact prIQ)) | (refine ost_ptEq rfl rfl rfl (fun hc => ?_) (fun hc => ?_) <;> try (simp at hc; done)) | (refine ost_ptNe rfl rfl rfl (fun hc => ?_) (fun hc => ?_) <;> try (simp at hc; done))) | (refine opk 4 rfl ?_; (refine ost_cmp rfl rfl rfl rfl (fun hc => ?_) (fun hc => ?_) <;> (simp only [cmpP] at hc; try exact prIQ))) | (refine opk 8 rfl ?_; (refine ost_storeW H rfl rfl rfl rfl lQ ixQ lQ okQ ?_; clear H; intro wk H; simp only [List.set_cons_zero, List.set_cons_succ, Nat.reduceAdd] at H)) | (refine opk 9 rfl ?_; (refine ost_allocA H rfl ?_; clear H; intro bk wk H))) | refine Wc.seq ?_ | refine then_n ?_ | refine WL.nil ?_ | refine Wc.region ?_ | refine Wc.block ?_ | refine then_r ?_ | refine then_e ?_ | refine inb_e rfl ?_ | refine inb_o rfl ?_ | refine inb_n ?_ | refine inb_r ?_ | refine Wc.skip ?_ | refine Wc.exit ?_ | refine Wc.ret ?_ | refine Wc.cond_true rfl ?_ | refine Wc.cond_false rfl ?_ | (refine Wc.drawn (id := 12) 7 (by kernel_rfl) ?_) | (refine Wc.drawn (id := 13) 7 (by kernel_rfl) ?_) | refine WL.skp rfl rfl ?_ | refine WL.sku rfl ?_ | (refine rgs_nil ?_; intro vs wk hE; replace H := H.ext hE; clear hE) | refine RGs.skp (fun _ => rfl) rfl ?_ | (refine RGs.bq (fun _ => rfl) rfl (by intro vs w hE hP; have H := H.ext hE; first | exact dbQ | fail) (fun hc => ?_) (fun hc => ?_) <;> ((try simp only [cmpP, decide_eq_true_eq, decide_eq_false_iff_not, dcd_iff, dcd_no] at hc); try exact prDQ)) | refine RGs.pq (fun _ => rfl) rfl (by intro vs w hE hP; have H := H.ext hE; first | exact dvQ | fail) ?_)
      all_goals first | (exfalso; omega) | (exfalso; exact hc rfl) | skip
      have hTB2 := hB2 _ (hTB1.mono hle (Nat.le_refl _))
      have hTA2 := hTA1.mono hle (Nat.le_refl _)
      replace hb6 := hle _ _ hb6
      have hga := fun w hs hF hR => tr_Get ta ma ra A1 d1 s1 x.it.key (full w) w hs hF hTA2.inv.ok hTA2.inv.srt hR hTA2.inv.root
      have hgb := fun w hs hF hR => tr_Get tb mb rb B2 d2 s2 x.it.key (full w) w hs hF hTB2.inv.ok hTB2.inv.srt hR hTB2.inv.root
      have hra := fun w hs hF hR => tr_Range ta ma ra A1 d1 s1 leastK greatK (full w) w hs hF hTA2.inv.ok hTA2.inv.srt hR hTA2.inv.root (by omega)
      have hrb := fun w hs hF hR => tr_Range tb mb rb B2 d2 s2 leastK greatK (full w) w hs hF hTB2.inv.ok hTB2.inv.srt hR hTB2.inv.root (by omega)
      rw [rangeI_all] at hra hrb
      rw [← hits1] at hgb hrb
      have lg := cLoc_len (getI (Sh.its d1 s1) x.it.key).1
      repeat' (first | ((first | refine WL.p rfl ?_ | refine WL.u ?_ | refine WL.g rfl rfl ?_ | refine WL.gu rfl ?_); first | (refine opk 1 rfl ?_; first | (refine ost_V H rfl (hga _ (sat_full _) (H.trF (i := 1) rfl) (hTA2.inv.rep.mono H.sat.le)) rfl ?_; clear H; intro wk H) | (refine ost_V H rfl (hgb _ (sat_full _) (H.trF (i := 1) rfl) (hTB2.inv.rep.mono H.sat.le)) rfl ?_; clear H; intro wk H) | (refine ost_V H rfl (law14_least _) rfl ?_; clear H; intro wk H) | (refine ost_V H rfl (law14_greatest _) rfl ?_; clear H; intro wk H) | (refine ost_C H rfl (hra _ (sat_full _) (H.trF (i := 3) rfl) (hTA2.inv.rep.mono H.sat.le)) rfl ?_; clear H; rintro vk wk hfk Lk ⟨aa, ca, rfl, rfl⟩ H; simp only [List.cons_append, List.nil_append] at H) | (refine ost_C H rfl (hrb _ (sat_full _) (H.trF (i := 3) rfl) (hTB2.inv.rep.mono H.sat.le)) rfl ?_; clear H; rintro vk wk hfk Lk ⟨ab, cb, rfl, rfl⟩ H; simp only [List.cons_append, List.nil_append] at H) | (refine ost_H (A := trO tb mb rb B2) H rfl (by (exact ixQ)) (fun HO => hT2 _ _ _ _ hTB2.inv HO) rfl ?_; clear H; rintro vk wk hfk Lk ⟨mb, rb, rfl, rfl⟩ hle H; simp only [List.cons_append, List.nil_append, List.eraseIdx_cons_zero, List.eraseIdx_cons_succ] at H)) | refine pvQ ?_ | (refine opk 3 rfl ?_; first | (refine ost_eqA rfl (by decide) rfl rfl tyQ tyQ (fun hc => ?_) (fun hc => ?_) <;> try exact prEQ) | (refine ost_neA rfl (by decide) rfl rfl tyQ tyQ (fun hc => ?_) (fun hc => ?_) <;> try exact prEQ) | (refine ost_cmp rfl rfl rfl rfl (fun hc => ?_) (fun hc => ?_) <;> (simp only [cmpP] at hc; try exact prIQ)) | (refine ost_ptEq rfl rfl rfl (fun hc => ?_) (fun hc => ?_) <;> try (simp at hc; done)) | (refine ost_ptNe rfl rfl rfl (fun hc => ?_) (fun hc => ?_) <;> try (simp at hc; done))) | (refine opk 4 rfl ?_; (refine ost_cmp rfl rfl rfl rfl (fun hc => ?_) (fun hc => ?_) <;> (simp only [cmpP] at hc; try exact prIQ))) | (refine opk 8 rfl ?_; (refine ost_storeW H rfl rfl rfl rfl lQ ixQ lQ okQ ?_; clear H; intro wk H; simp only [List.set_cons_zero, List.set_cons_succ, Nat.reduceAdd] at H)) | (refine opk 9 rfl ?_; (refine ost_allocA H rfl ?_; clear H; intro bk wk H))) | refine Wc.seq ?_ | refine then_n ?_ | refine WL.nil ?_ | refine Wc.region ?_ | refine Wc.block ?_ | refine then_r ?_ | refine then_e ?_ | refine inb_e rfl ?_ | refine inb_o rfl ?_ | refine inb_n ?_ | refine inb_r ?_ | refine Wc.skip ?_ | refine Wc.exit ?_ | refine Wc.ret ?_ | refine Wc.cond_true rfl ?_ | refine Wc.cond_false rfl ?_ | (refine Wc.drawn (id := 12) 7 (by kernel_rfl) ?_) | (refine Wc.drawn (id := 13) 7 (by kernel_rfl) ?_) | refine WL.skp rfl rfl ?_ | refine WL.sku rfl ?_ | (refine rgs_nil ?_; intro vs wk hE; replace H := H.ext hE; clear hE) | refine RGs.skp (fun _ => rfl) rfl ?_ | (refine RGs.bq (fun _ => rfl) rfl (by intro vs w hE hP; have H := H.ext hE; first | exact dbQ | fail) (fun hc => ?_) (fun hc => ?_) <;> ((try simp only [cmpP, decide_eq_true_eq, decide_eq_false_iff_not, dcd_iff, dcd_no] at hc); try exact prDQ)) | refine RGs.pq (fun _ => rfl) rfl (by intro vs w hE hP; have H := H.ext hE; first | exact dvQ | fail) ?_)
      all_goals first | (exfalso; omega) | (exfalso; exact hc rfl) | skip
      have hTB3 := hB3 _ (hTB2.mono hle (Nat.le_refl _))
      have hTA3 := hTA2.mono hle (Nat.le_refl _)
      obtain ⟨a9, c9, h9, e9, hle9, hN9, H9⟩ := (H.picks (L' := [ownR _ _ _ _, ownR _ _ _ _, trO _ _ _ _, trO _ _ _ _]) [2, 1, 0, 5] rfl (by decide)).freezeR (rows_len5 _)
      injection e9 with e91 e92 e93
      subst e91; subst e93
      obtain ⟨a8, c8, h8, e8, hle8, hN8, H8⟩ := H9.freezeR (rows_len5 _)
      injection e8 with e91 e92 e93
      subst e91; subst e93
      clear H H9
      have H := H8
      clear H8
      replace hN9 := hN9.mono hle8
      replace hTA3 := hTA3.mono (hle9.trans hle8) (Nat.le_refl _)
      replace hTB3 := hTB3.mono (hle9.trans hle8) (Nat.le_refl _)
      have q1 := hN9.lenM
      have q2 := hN8.lenM
      refine Wc.loopE (fun s0 m s w' => ∃ k : Nat, m = (Sh.its d1 s1).length - k ∧ k ≤ (Sh.its d1 s1).length ∧ Agree [2, 15, 111, 112, 113, 114, 115, 116, 117, 118, 119, 120, 121, 122, 123] s s0 ∧ s 111 = .int .i64 k ∧ St w [] (full w) h8 [trO tb mb rb B3, trO ta ma ra A1] w') (Sh.its d1 s1).length ⟨0, rfl, by omega, Agree.refl _ _, rfl, H⟩ ?_
      clear H
      rintro m s w' ⟨k, rfl, hk, hA, e1, H⟩
      obtain ⟨jk, rfl⟩ := hA.env1 e1
      clear hA e1
      by_cases hlk : k < (Sh.its d1 s1).length
      · obtain ⟨bx, ox, Lx, Tx, fx, e1, ebx, egx⟩ := hN9.getM (by decide) (Nat.lt_of_le_of_lt (Nat.zero_le _) hlk)
        subst e1
        have g1 := egx (k : Int).toNat k hlk (by omega)
        obtain ⟨bz, oz, Lz, Tz, fz, e1, ebz, egz⟩ := hN8.getM (by decide) (Nat.lt_of_le_of_lt (Nat.zero_le _) hlk)
        subst e1
        have g2 := egz (k : Int).toNat k hlk (by omega)
        clear egx egz
        generalize (Sh.its d1 s1)[k] = y at g1 g2
        have ly := cItem_len y
        repeat' (first | ((first | refine WL.p rfl ?_ | refine WL.u ?_ | refine WL.g rfl rfl ?_ | refine WL.gu rfl ?_); first | refine pvQ ?_ | (refine opk 3 rfl ?_; first | (refine ost_eqA rfl (by decide) rfl rfl tyQ tyQ (fun hc => ?_) (fun hc => ?_) <;> try exact prEQ) | (refine ost_neA rfl (by decide) rfl rfl tyQ tyQ (fun hc => ?_) (fun hc => ?_) <;> try exact prEQ) | (refine ost_cmp rfl rfl rfl rfl (fun hc => ?_) (fun hc => ?_) <;> (simp only [cmpP] at hc; try exact prIQ)) | (refine ost_ptEq rfl rfl rfl (fun hc => ?_) (fun hc => ?_) <;> try (simp at hc; done)) | (refine ost_ptNe rfl rfl rfl (fun hc => ?_) (fun hc => ?_) <;> try (simp at hc; done))) | (refine opk 4 rfl ?_; (refine ost_cmp rfl rfl rfl rfl (fun hc => ?_) (fun hc => ?_) <;> (simp only [cmpP] at hc; try exact prIQ))) | (refine opk 8 rfl ?_; (refine ost_storeW H rfl rfl rfl rfl lQ ixQ lQ okQ ?_; clear H; intro wk H; simp only [List.set_cons_zero, List.set_cons_succ, Nat.reduceAdd] at H)) | (refine opk 9 rfl ?_; (refine ost_allocA H rfl ?_; clear H; intro bk wk H))) | refine Wc.seq ?_ | refine then_n ?_ | refine WL.nil ?_ | refine Wc.region ?_ | refine Wc.block ?_ | refine then_r ?_ | refine then_e ?_ | refine inb_e rfl ?_ | refine inb_o rfl ?_ | refine inb_n ?_ | refine inb_r ?_ | refine Wc.skip ?_ | refine Wc.exit ?_ | refine Wc.ret ?_ | refine Wc.cond_true rfl ?_ | refine Wc.cond_false rfl ?_ | (refine Wc.drawn (id := 12) 7 (by kernel_rfl) ?_) | (refine Wc.drawn (id := 13) 7 (by kernel_rfl) ?_) | (refine Wc.drawn (id := 23) 8 (by kernel_rfl) ?_) | refine WL.skp rfl rfl ?_ | refine WL.sku rfl ?_ | (refine rgs_nil ?_; intro vs wk hE; replace H := H.ext hE; clear hE) | refine RGs.skp (fun _ => rfl) rfl ?_ | (refine RGs.bq (fun _ => rfl) rfl (by intro vs w hE hP; have H := H.ext hE; first | exact dbQ | fail) (fun hc => ?_) (fun hc => ?_) <;> ((try simp only [cmpP, decide_eq_true_eq, decide_eq_false_iff_not, dcd_iff, dcd_no] at hc); try exact prDQ)) | refine RGs.pq (fun _ => rfl) rfl (by intro vs w hE hP; have H := H.ext hE; first | exact dvQ | fail) ?_)
        all_goals first | (exfalso; omega) | (exfalso; exact hc rfl) | skip
        exact ⟨(Sh.its d1 s1).length - (k + 1), by omega, k + 1, rfl, by omega, by (repeat' (first | exact Agree.refl _ _ | exact Agree.havoc | refine Agree.upd rfl ?_ | refine Agree.hav2 rfl ?_)), rfl, H⟩
      · repeat' (first | ((first | refine WL.p rfl ?_ | refine WL.u ?_ | refine WL.g rfl rfl ?_ | refine WL.gu rfl ?_); first | refine pvQ ?_ | (refine opk 3 rfl ?_; first | (refine ost_eqA rfl (by decide) rfl rfl tyQ tyQ (fun hc => ?_) (fun hc => ?_) <;> try exact prEQ) | (refine ost_neA rfl (by decide) rfl rfl tyQ tyQ (fun hc => ?_) (fun hc => ?_) <;> try exact prEQ) | (refine ost_cmp rfl rfl rfl rfl (fun hc => ?_) (fun hc => ?_) <;> (simp only [cmpP] at hc; try exact prIQ)) | (refine ost_ptEq rfl rfl rfl (fun hc => ?_) (fun hc => ?_) <;> try (simp at hc; done)) | (refine ost_ptNe rfl rfl rfl (fun hc => ?_) (fun hc => ?_) <;> try (simp at hc; done))) | (refine opk 4 rfl ?_; (refine ost_cmp rfl rfl rfl rfl (fun hc => ?_) (fun hc => ?_) <;> (simp only [cmpP] at hc; try exact prIQ))) | (refine opk 8 rfl ?_; (refine ost_storeW H rfl rfl rfl rfl lQ ixQ lQ okQ ?_; clear H; intro wk H; simp only [List.set_cons_zero, List.set_cons_succ, Nat.reduceAdd] at H)) | (refine opk 9 rfl ?_; (refine ost_allocA H rfl ?_; clear H; intro bk wk H))) | refine Wc.seq ?_ | refine then_n ?_ | refine WL.nil ?_ | refine Wc.region ?_ | refine Wc.block ?_ | refine then_r ?_ | refine then_e ?_ | refine inb_e rfl ?_ | refine inb_o rfl ?_ | refine inb_n ?_ | refine inb_r ?_ | refine Wc.skip ?_ | refine Wc.exit ?_ | refine Wc.ret ?_ | refine Wc.cond_true rfl ?_ | refine Wc.cond_false rfl ?_ | (refine Wc.drawn (id := 12) 7 (by kernel_rfl) ?_) | (refine Wc.drawn (id := 13) 7 (by kernel_rfl) ?_) | (refine Wc.drawn (id := 23) 8 (by kernel_rfl) ?_) | refine WL.skp rfl rfl ?_ | refine WL.sku rfl ?_ | (refine rgs_nil ?_; intro vs wk hE; replace H := H.ext hE; clear hE) | refine RGs.skp (fun _ => rfl) rfl ?_ | (refine RGs.bq (fun _ => rfl) rfl (by intro vs w hE hP; have H := H.ext hE; first | exact dbQ | fail) (fun hc => ?_) (fun hc => ?_) <;> ((try simp only [cmpP, decide_eq_true_eq, decide_eq_false_iff_not, dcd_iff, dcd_no] at hc); try exact prDQ)) | refine RGs.pq (fun _ => rfl) rfl (by intro vs w hE hP; have H := H.ext hE; first | exact dvQ | fail) ?_)
        all_goals first | (exfalso; omega) | (exfalso; exact hc rfl) | skip
        exact ⟨l.length - (i + 1), by omega, i + 1, d1, s1, A1, d2, s2, B3, h8, ma, ra, mb, rb, rfl, by omega, by omega, by (repeat' (first | exact Agree.refl _ _ | exact Agree.havoc | refine Agree.upd rfl ?_ | refine Agree.hav2 rfl ?_)), rfl, H.le hs, hTA3, hTB3, hits1, H⟩
  · repeat' (first | ((first | refine WL.p rfl ?_ | refine WL.u ?_ | refine WL.g rfl rfl ?_ | refine WL.gu rfl ?_); first | refine pvQ ?_ | (refine opk 3 rfl ?_; first | (refine ost_eqA rfl (by decide) rfl rfl tyQ tyQ (fun hc => ?_) (fun hc => ?_) <;> try exact prEQ) | (refine ost_neA rfl (by decide) rfl rfl tyQ tyQ (fun hc => ?_) (fun hc => ?_) <;> try exact prEQ) | (refine ost_cmp rfl rfl rfl rfl (fun hc => ?_) (fun hc => ?_) <;> (simp only [cmpP] at hc; try exact prIQ)) | (refine ost_ptEq rfl rfl rfl (fun hc => ?_) (fun hc => ?_) <;> try (simp at hc; done)) | (refine ost_ptNe rfl rfl rfl (fun hc => ?_) (fun hc => ?_) <;> try (simp at hc; done))) | (refine opk 4 rfl ?_; (refine ost_cmp rfl rfl rfl rfl (fun hc => ?_) (fun hc => ?_) <;> (simp only [cmpP] at hc; try exact prIQ))) | (refine opk 8 rfl ?_; (refine ost_storeW H rfl rfl rfl rfl lQ ixQ lQ okQ ?_; clear H; intro wk H; simp only [List.set_cons_zero, List.set_cons_succ, Nat.reduceAdd] at H)) | (refine opk 9 rfl ?_; (refine ost_allocA H rfl ?_; clear H; intro bk wk H))) | refine Wc.seq ?_ | refine then_n ?_ | refine WL.nil ?_ | refine Wc.region ?_ | refine Wc.block ?_ | refine then_r ?_ | refine then_e ?_ | refine inb_e rfl ?_ | refine inb_o rfl ?_ | refine inb_n ?_ | refine inb_r ?_ | refine Wc.skip ?_ | refine Wc.exit ?_ | refine Wc.ret ?_ | refine Wc.cond_true rfl ?_ | refine Wc.cond_false rfl ?_ | refine WL.skp rfl rfl ?_ | refine WL.sku rfl ?_)
    all_goals first | (exfalso; omega) | ((first | refine fn_ret1 (v := .bool _) rfl rfl ⟨?_, H.fr⟩ | refine fn_ret1 (v := .int _ _) rfl rfl ⟨?_, H.fr⟩ | refine fn_ret1 (v := .string _) rfl rfl ⟨?_, H.fr⟩); rfl)
end Go.Tg
namespace Go.Proofs.Ytbfilhaigbebpaa
open Go.ChangeShapes Go.WideShapes Go.ChangeAt Go.RowKit Go.Tg
theorem treeTrims_lifted (os : Os) (started : os.Started) (H : Type) (enc : TypeId × Value → H) :
    ReturnsInHanded {} Try.checked os 7 .any (Rows.treeTrimsSpec.pre6 enc Try.prog Try.f7 Rows.treeTrimsRow.domain false) (Rows.treeTrimsSpec.post enc Try.prog Try.f7 false true false false) := by
  refine returnsInHanded_of_change (C := Try.checked) own_ started (by kernel_rfl) Try.func7
    (ChangeSpec.witness6 (enc := enc) (C := Try.checked) false ⟨#[], #[.slice none 0 0], []⟩ 8 (by kernel_rfl) (by kernel_rfl) (by kernel_rfl) (by kernel_rfl)) ?_
  intro W base args ds gs before hval0 hW hcnd _
  have hval : ∀ (j : Nat) t v, Try.f7.params[j]? = some t → args[j]? = some v → Value.okWide Try.prog W .any base t v := hval0
  have hW' := hW
  obtain ⟨p, q, hA0, -, -, -, -⟩ := hW'
  have hA : DataW.TrodAll enc Try.prog W 0 (fun _ => true) true Try.f7.params.toList args.toList ds p := hA0
  rw [Try.params7] at hA hval
  obtain ⟨v0, d0, rfl, rfl, h0⟩ := trodAll_one hA
  obtain ⟨la, lc, l, e0, lr⟩ := acs14_of (Td.of h0)
  obtain rfl := val_of1 e0 (okWide_slice Try.underlying22 (hval 0 _ v0 rfl rfl))
  refine (law_TreeTrims (w := W) la lc l lr).mono fun e W' ⟨v, he, hv, hE⟩ => ⟨v, he, ?_⟩
  subst hv
  exact law_post rfl hW hE rfl (by kernel_rfl) Try.underlying4 laid_ (by kernel_rfl)
theorem treeTrims_holds : Rows.TreeTrimsSaid :=
  OpenClaim.holds_of_wide 7 Try.f7 rfl rfl rfl rfl rfl rfl rfl ⟨rfl, rfl, rfl, rfl, rfl⟩ rfl rfl rfl rfl rfl (by kernel_rfl) Try.func7 (by kernel_rfl)
    (of_decide_eq_true (by kernel_rfl)) (by unfold Func.isWrapper; first | (rw [if_pos (by decide +kernel)]; kernel_rfl) | (rw [if_neg (by decide +kernel)]; exact ⟨rfl, rfl⟩))
    (fun os started H enc _ => treeTrims_lifted os started H enc)
end Go.Proofs.Ytbfilhaigbebpaa

