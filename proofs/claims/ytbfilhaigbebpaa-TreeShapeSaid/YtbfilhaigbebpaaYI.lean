/- Contracts of Go functions that the laws reach: what each call answers and leaves in memory, for all arguments within the bounds that each theorem names. -/
import Derived.Test.YtbfilhaigbebpaaInst
import Derived.Test.YtbfilhaigbebpaaAuto
import Derived.Test.YtbfilhaigbebpaaY8
import Derived.Test.YtbfilhaigbebpaaMp2
set_option linter.unusedVariables false
set_option linter.unusedSimpArgs false
set_option maxRecDepth 100000
set_option maxHeartbeats 4000000
namespace Go.Tg
open Go Go.Proofs
def one1 {α β : Type} (l : List α) (f : α → β) (e : β) : β := match l with
  | [c] => f c
  | _ => e
def clps : (d : Nat) → Sh d → (d : Nat) × Sh d
  | 0, s => ⟨0, s⟩
  | d + 1, s => one1 (s.2 : List (Sh d)) (clps d) ⟨d + 1, s⟩
theorem one1_ne {α β : Type} {l : List α} {f : α → β} {e : β} (h : l.length ≠ 1) : one1 l f e = e := by
  match l with
  | [] => rfl
  | [c] => exact absurd rfl h
  | _ :: _ :: _ => rfl
theorem clps_ne {d : Nat} {s : Sh (d + 1)} (h : (s.2 : List (Sh d)).length ≠ 1) : clps (d + 1) s = ⟨d + 1, s⟩ := one1_ne h
theorem clps_one {d : Nat} {s : Sh (d + 1)} {c : Sh d} (h : (s.2 : List (Sh d)) = [c]) : clps (d + 1) s = clps d c := by
  show one1 (s.2 : List (Sh d)) _ _ = _
  rw [h]; rfl
def grw (d : Nat) (R : List (Sh d)) (nx : UInt32) : ((d : Nat) × Sh d) × UInt32 := match R with
  | [] => (⟨0, (nx + 1, ([] : List ItemT))⟩, nx + 1)
  | [s] => (clps d s, nx)
  | l => (⟨d + 1, (nx + 1, l)⟩, nx + 1)
theorem grw_two {d : Nat} {R : List (Sh d)} {nx : UInt32} (h : R.length = 2) : grw d R nx = (⟨d + 1, (nx + 1, R)⟩, nx + 1) := by
  match R with
  | [x, y] => rfl
theorem tr_grow (tb mb rb : Nat) (T : TrM) (d : Nat) (R : List (Sh d)) (items : Int) (a : Option Addr) (c : Nat) (g : FH) (w : World) (hR2 : R.length ≤ 2) (hRok : ∀ r ∈ R, Sh.Ok d r ∧ Sh.its d r ≠ []) (hRep : ∀ r ∈ R, Rep g T d r) (hN : Sl g 4 a c ((R.map (refS d)).map cRef)) (hfr : Fresh T) (hn : T.next.toNat + 3 < 4294967296) (HO : St w (trO tb mb rb T).fp g g [trO tb mb rb T] w) :
    Spec Try.prog 31 #[pT tb, .slice a R.length c, .int .i64 items] w (trO tb mb rb T).fp g (fun v h' L' => ∃ T1, L' = [trO tb mb rb (T1.reroot (Sh.num (grw d R T.next).1.1 (grw d R T.next).1.2) items)] ∧ Grown T T1 ∧ T1.next = (grw d R T.next).2 ∧ Rep h' T1 (grw d R T.next).1.1 (grw d R T.next).1.2) := by
  have H := HO
  have hl0 : (trO tb mb rb T).fp = (trO tb mb rb T).fp := rfl
  generalize hF9 : (trO tb mb rb T).fp = F9 at H ⊢
  clear hl0
  generalize hG : grw d R T.next = G
  unfold Spec
  refine calls_of Try.func31 rfl Try.ntmps31 (by simp) ?_
  refine Wc.seq ?_
  refine Wc.block ?_
  refine Wc.loopE (fun s0 m s w' => ∃ (d' : Nat) (R' : List (Sh d')) (T' : TrM) (a' : Option Addr) (c' : Nat) (g' : FH), m = R'.length ∧ Agree [1, 6, 8, 11, 12, 13, 14, 15, 16, 17, 18, 19, 20, 21, 22, 23, 24, 25, 26, 27, 28, 29, 30, 31, 32, 33, 34, 35, 36, 37] s s0 ∧ s 1 = .slice a' R'.length c' ∧ R'.length ≤ 2 ∧ (∀ r ∈ R', Sh.Ok d' r ∧ Sh.its d' r ≠ []) ∧ (∀ r ∈ R', Rep g' T' d' r) ∧ Sl g' 4 a' c' ((R'.map (refS d')).map cRef) ∧ FLe g g' ∧ Grown T T' ∧ T'.next.toNat + R'.length ≤ T.next.toNat + 2 ∧ grw d' R' T'.next = G ∧ St w F9 g g' [trO tb mb rb T'] w') R.length ⟨d, R, T, a, c, g, rfl, Agree.refl _ _, rfl, hR2, hRok, hRep, hN, FLe.refl _, Grown.refl hfr, by omega, hG, H⟩ ?_
  clear H
  rintro m s w' ⟨d', R', T', a', c', g', rfl, hA, e1, hR2', hRok', hRep', hN', hle, hgr, hn', hG', H⟩
  obtain ⟨j9, rfl⟩ := hA.env1 e1
  clear hA e1
  by_cases h1 : 1 < R'.length
  · have hrl : (R'.map (refS d')).length = R'.length := List.length_map ..
    have hpg : (Sh.page (d' + 1) ((0, R') : UInt32 × List (Sh d'))) = ⟨false, (R'.map (refS d')).map (·.key), [], (R'.map (refS d')).map (·.n)⟩ := by
      show PageT.mk _ _ _ _ = PageT.mk _ _ _ _
      rw [List.map_map, List.map_map]; rfl
    rw [← hrl]
    generalize hrs : R'.map (refS d') = rs at *
    repeat' (first | ((first | refine WL.p rfl ?_ | refine WL.u ?_ | refine WL.g rfl rfl ?_ | refine WL.gu rfl ?_); first | refine pvQ ?_ | (refine opk 3 rfl ?_; (refine ost_cmp rfl rfl rfl rfl (fun hc => ?_) (fun hc => ?_) <;> (simp only [cmpP] at hc; try exact prIQ))) | (refine opk 4 rfl ?_; (refine ost_cmp rfl rfl rfl rfl (fun hc => ?_) (fun hc => ?_) <;> (simp only [cmpP] at hc; try exact prIQ))) | (refine opk 8 rfl ?_; first | (refine ost_store1 H rfl rfl vlQ gvQ ixQ (by first | decide | (simp; omega) | (simp; done) | omega) ?_; clear H; intro wk H; simp only [List.set_cons_zero, List.set_cons_succ, Nat.reduceAdd] at H) | (refine ost_storeW H rfl rfl rfl rfl lQ ixQ lQ okQ ?_; clear H; intro wk H; simp only [List.set_cons_zero, List.set_cons_succ, Nat.reduceAdd] at H)) | (refine opk 9 rfl ?_; first | (refine ost_allocA H rfl ?_; clear H; intro bk wk H) | (refine ost_build1 H rfl rfl rfl evQ lsQ rfl ?_; clear H; intro bk wk H))) | refine Wc.seq ?_ | refine then_n ?_ | refine WL.nil ?_ | refine Wc.region ?_ | refine Wc.block ?_ | refine then_r ?_ | refine then_e ?_ | refine inb_e rfl ?_ | refine inb_o rfl ?_ | refine inb_n ?_ | refine inb_r ?_ | refine Wc.skip ?_ | refine Wc.exit ?_ | refine Wc.ret ?_ | refine Wc.cond_true rfl ?_ | refine Wc.cond_false rfl ?_ | refine WL.skp rfl rfl ?_ | refine WL.sku rfl ?_)
    obtain ⟨b6, e6⟩ := H.nameB idx0
    subst e6
    replace H := (H.nilOwn 42 3).nilOwn 24 1
    refine Wc.loopE (fun s0 m s w' => ∃ (j : Nat) (a1 : Option Addr) (c1 : Nat) (a2 : Option Addr) (c2 : Nat), m = rs.length - j ∧ j ≤ rs.length ∧ Agree [8, 16, 17, 18, 19, 20, 21, 22, 23, 24, 25, 26, 27, 28, 29, 30, 31, 32, 33, 34] s s0 ∧ s 16 = .int .i64 j ∧
      St w F9 g g' [ownR (.slice a2 (rs.take j).length c2) 24 1 ((rs.take j).map fun r => cKid r.n), ownR (.slice a1 (rs.take j).length c1) 42 3 ((rs.take j).map fun r => cKey r.key), .blk b6 (.cells [Value.bool false, .slice a1 (rs.take j).length c1, .slice none 0 0, .slice a2 (rs.take j).length c2].toArray 85 (0, 0)), trO tb mb rb T'] w') rs.length ⟨0, none, 0, none, 0, rfl, by omega, Agree.refl _ _, rfl, H⟩ ?_
    · clear H
      rintro m s w' ⟨j, a1, c1, a2, c2, rfl, hj, hA, e1, H⟩
      obtain ⟨j8, rfl⟩ := hA.env1 e1
      clear hA e1
      by_cases hlt : j < rs.length
      · have hsucc : rs.take (j + 1) = rs.take j ++ [rs[j]] := by rw [List.take_add_one, List.getElem?_eq_getElem hlt]; rfl
        obtain ⟨b, off, L9, T9, fr, e2, eb, eg⟩ := hN'.getM (by decide) (Nat.lt_of_le_of_lt (Nat.zero_le _) hlt)
        subst e2
        have g1 := eg (j : Int).toNat j hlt (by omega)
        have htl : (rs.take j).length ≤ 10 := by rw [List.length_take]; omega
        have htl1 : ((rs.take j).map fun r => cKey r.key).length ≤ 10 := by rw [List.length_map]; exact htl
        have htl2 : ((rs.take j).map fun r => cKid r.n).length ≤ 10 := by rw [List.length_map]; exact htl
        clear eg
        generalize rs[j] = r at g1 hsucc
        have lr := cRef_len r
        have gk := cRef_key r
        have gn := cRef_n r
        have lk := cKey_len r.key
        have ok := allOne_of (cKey_one r.key)
        have em : ∀ (f : RefT → List Value), (rs.take j).map f ++ [f r] = (rs.take (j + 1)).map f := fun f => by rw [hsucc, List.map_append]; rfl
        have el : ∀ (f : RefT → List Value), ((rs.take j).map f ++ [f r]).length = (rs.take (j + 1)).length := fun f => by rw [em, List.length_map]
        have e0 : ∀ (f : RefT → List Value), ((rs.take j).map f).length = (rs.take j).length := fun f => List.length_map ..
        have ok2 : ∀ v ∈ cKid r.n, v.oneCell' = true := by intro v hv; simp [cKid] at hv; subst hv; rfl
        repeat' (first | ((first | refine WL.p rfl ?_ | refine WL.u ?_ | refine WL.g rfl rfl ?_ | refine WL.gu rfl ?_); first | (refine opk 1 rfl ?_; (refine ost_appR (i := 3) (j := 0) (sz := 3) (rows := (rs.take j).map fun r => cKey r.key) (row := cKey r.key) H rfl rfl rfl rfl rfl (by rfl) (by decide) rfl ok rfl (by omega) ?_; clear H; intro aa ca wk H; simp only [List.set_cons_zero, List.set_cons_succ] at H)) | (refine opk 9 rfl ?_; (refine ost_buildR (rows := [cKey r.key]) H rfl (by decide) rfl (by rfl) (evP1 vxQ) (.cons rfl .nil) rfl (fun r hr => by rw [List.mem_singleton.1 hr]; rfl) ?_; clear H; intro bk wk H)) | refine pvQ ?_ | (refine opk 3 rfl ?_; (refine ost_cmp rfl rfl rfl rfl (fun hc => ?_) (fun hc => ?_) <;> (simp only [cmpP] at hc; try exact prIQ))) | (refine opk 4 rfl ?_; (refine ost_cmp rfl rfl rfl rfl (fun hc => ?_) (fun hc => ?_) <;> (simp only [cmpP] at hc; try exact prIQ))) | (refine opk 8 rfl ?_; first | (refine ost_store1 H rfl rfl vlQ gvQ ixQ (by first | decide | (simp; omega) | (simp; done) | omega) ?_; clear H; intro wk H; simp only [List.set_cons_zero, List.set_cons_succ, Nat.reduceAdd] at H) | (refine ost_storeW H rfl rfl rfl rfl lQ ixQ lQ okQ ?_; clear H; intro wk H; simp only [List.set_cons_zero, List.set_cons_succ, Nat.reduceAdd] at H)) | (refine opk 9 rfl ?_; first | (refine ost_allocA H rfl ?_; clear H; intro bk wk H) | (refine ost_build1 H rfl rfl rfl evQ lsQ rfl ?_; clear H; intro bk wk H))) | refine Wc.seq ?_ | refine then_n ?_ | refine WL.nil ?_ | refine Wc.region ?_ | refine Wc.block ?_ | refine then_r ?_ | refine then_e ?_ | refine inb_e rfl ?_ | refine inb_o rfl ?_ | refine inb_n ?_ | refine inb_r ?_ | refine Wc.skip ?_ | refine Wc.exit ?_ | refine Wc.ret ?_ | refine Wc.cond_true rfl ?_ | refine Wc.cond_false rfl ?_ | refine WL.skp rfl rfl ?_ | refine WL.sku rfl ?_)
        repeat' (first | ((first | refine WL.p rfl ?_ | refine WL.u ?_ | refine WL.g rfl rfl ?_ | refine WL.gu rfl ?_); first | (refine opk 1 rfl ?_; (refine ost_appR (i := 3) (j := 0) (sz := 1) (rows := (rs.take j).map fun r => cKid r.n) (row := cKid r.n) H rfl rfl rfl rfl rfl (by rfl) (by decide) rfl ok2 rfl (by omega) ?_; clear H; intro ab cb wk H; simp only [List.set_cons_zero, List.set_cons_succ] at H)) | refine pvQ ?_ | (refine opk 3 rfl ?_; (refine ost_cmp rfl rfl rfl rfl (fun hc => ?_) (fun hc => ?_) <;> (simp only [cmpP] at hc; try exact prIQ))) | (refine opk 4 rfl ?_; (refine ost_cmp rfl rfl rfl rfl (fun hc => ?_) (fun hc => ?_) <;> (simp only [cmpP] at hc; try exact prIQ))) | (refine opk 8 rfl ?_; first | (refine ost_store1 H rfl rfl vlQ gvQ ixQ (by first | decide | (simp; omega) | (simp; done) | omega) ?_; clear H; intro wk H; simp only [List.set_cons_zero, List.set_cons_succ, Nat.reduceAdd] at H) | (refine ost_storeW H rfl rfl rfl rfl lQ ixQ lQ okQ ?_; clear H; intro wk H; simp only [List.set_cons_zero, List.set_cons_succ, Nat.reduceAdd] at H)) | (refine opk 9 rfl ?_; first | (refine ost_allocA H rfl ?_; clear H; intro bk wk H) | (refine ost_build1 H rfl rfl rfl evQ lsQ rfl ?_; clear H; intro bk wk H))) | refine Wc.seq ?_ | refine then_n ?_ | refine WL.nil ?_ | refine Wc.region ?_ | refine Wc.block ?_ | refine then_r ?_ | refine then_e ?_ | refine inb_e rfl ?_ | refine inb_o rfl ?_ | refine inb_n ?_ | refine inb_r ?_ | refine Wc.skip ?_ | refine Wc.exit ?_ | refine Wc.ret ?_ | refine Wc.cond_true rfl ?_ | refine Wc.cond_false rfl ?_ | refine WL.skp rfl rfl ?_ | refine WL.sku rfl ?_)
        simp only [el, em, List.length_map] at H
        exact ⟨rs.length - (j + 1), by omega, j + 1, aa, ca, ab, cb, rfl, by omega, by (repeat' (first | exact Agree.refl _ _ | exact Agree.havoc | refine Agree.upd rfl ?_ | refine Agree.hav2 rfl ?_)), rfl, H.picks [3, 4, 5, 6] rfl (by decide)⟩
      · obtain rfl : j = rs.length := by omega
        rw [List.take_length] at H
        have eD : rs.map (fun r => cKid r.n) = (rs.map (·.n)).map cKid := by rw [List.map_map]; rfl
        have eK : rs.map (fun r => cKey r.key) = (rs.map (·.key)).map cKey := by rw [List.map_map]; rfl
        have lD : rs.length = (rs.map (·.n)).length := (List.length_map ..).symm
        have lK : rs.length = (rs.map (·.key)).length := (List.length_map ..).symm
        rw [eD, eK] at H
        repeat' (first | ((first | refine WL.p rfl ?_ | refine WL.u ?_ | refine WL.g rfl rfl ?_ | refine WL.gu rfl ?_); first | refine pvQ ?_ | (refine opk 3 rfl ?_; (refine ost_cmp rfl rfl rfl rfl (fun hc => ?_) (fun hc => ?_) <;> (simp only [cmpP] at hc; try exact prIQ))) | (refine opk 4 rfl ?_; (refine ost_cmp rfl rfl rfl rfl (fun hc => ?_) (fun hc => ?_) <;> (simp only [cmpP] at hc; try exact prIQ))) | (refine opk 8 rfl ?_; first | (refine ost_store1 H rfl rfl vlQ gvQ ixQ (by first | decide | (simp; omega) | (simp; done) | omega) ?_; clear H; intro wk H; simp only [List.set_cons_zero, List.set_cons_succ, Nat.reduceAdd] at H) | (refine ost_storeW H rfl rfl rfl rfl lQ ixQ lQ okQ ?_; clear H; intro wk H; simp only [List.set_cons_zero, List.set_cons_succ, Nat.reduceAdd] at H)) | (refine opk 9 rfl ?_; first | (refine ost_allocA H rfl ?_; clear H; intro bk wk H) | (refine ost_build1 H rfl rfl rfl evQ lsQ rfl ?_; clear H; intro bk wk H))) | refine Wc.seq ?_ | refine then_n ?_ | refine WL.nil ?_ | refine Wc.region ?_ | refine Wc.block ?_ | refine then_r ?_ | refine then_e ?_ | refine inb_e rfl ?_ | refine inb_o rfl ?_ | refine inb_n ?_ | refine inb_r ?_ | refine Wc.skip ?_ | refine Wc.exit ?_ | refine Wc.ret ?_ | refine Wc.cond_true rfl ?_ | refine Wc.cond_false rfl ?_ | refine WL.skp rfl rfl ?_ | refine WL.sku rfl ?_)
        obtain ⟨h2, hle2, hPn, H7⟩ := (((H.nilOwn 48 2)).picks (L' := pgO ⟨false, rs.map (·.key), [], rs.map (·.n)⟩ ⟨a1, c1, none, 0, a2, c2⟩ ++ [trO tb mb rb T']) [2, 0, 1, 4] (by simp only [pgO, ← lK, ← lD]; rfl) (by decide)).freezePg
        clear H; have H := H7; clear H7
        have hsp := fun w HO => tr_spread tb mb rb T' ⟨false, rs.map (·.key), [], rs.map (·.n)⟩ ⟨a1, c1, none, 0, a2, c2⟩ h2 w hPn (by show (rs.map _).length ≤ _; rw [List.length_map]; omega) (by intro e; cases e) (by intro _; show (rs.map _).length = (rs.map _).length; rw [List.length_map, List.length_map]) hgr.fresh (by omega) HO
        rw [← hpg] at hsp hPn
        have hv : [Value.bool false, .slice a1 rs.length c1, .slice none 0 0, .slice a2 rs.length c2] = pgV (Sh.page (d' + 1) ((0, R') : UInt32 × List (Sh d'))) ⟨a1, c1, none, 0, a2, c2⟩ := by rw [hpg]; simp only [pgV, ← lK, ← lD]; rfl
        rw [hv]
        repeat' (first | ((first | refine WL.p rfl ?_ | refine WL.u ?_ | refine WL.g rfl rfl ?_ | refine WL.gu rfl ?_); first | (refine opk 1 rfl ?_; (refine ost_H (A := trO tb mb rb T') H rfl (by (exact ixQ)) (fun HO => hsp _ HO) rfl ?_; clear H; rintro vk wk hfk Lk ⟨T9, a9, c9, rfl, rfl, hl9, hN9⟩ hle H; simp only [List.cons_append, List.nil_append, List.eraseIdx_cons_zero, List.eraseIdx_cons_succ] at H)) | refine pvQ ?_ | (refine opk 3 rfl ?_; (refine ost_cmp rfl rfl rfl rfl (fun hc => ?_) (fun hc => ?_) <;> (simp only [cmpP] at hc; try exact prIQ))) | (refine opk 4 rfl ?_; (refine ost_cmp rfl rfl rfl rfl (fun hc => ?_) (fun hc => ?_) <;> (simp only [cmpP] at hc; try exact prIQ))) | (refine opk 8 rfl ?_; first | (refine ost_store1 H rfl rfl vlQ gvQ ixQ (by first | decide | (simp; omega) | (simp; done) | omega) ?_; clear H; intro wk H; simp only [List.set_cons_zero, List.set_cons_succ, Nat.reduceAdd] at H) | (refine ost_storeW H rfl rfl rfl rfl lQ ixQ lQ okQ ?_; clear H; intro wk H; simp only [List.set_cons_zero, List.set_cons_succ, Nat.reduceAdd] at H)) | (refine opk 9 rfl ?_; first | (refine ost_allocA H rfl ?_; clear H; intro bk wk H) | (refine ost_build1 H rfl rfl rfl evQ lsQ rfl ?_; clear H; intro bk wk H))) | refine Wc.seq ?_ | refine then_n ?_ | refine WL.nil ?_ | refine Wc.region ?_ | refine Wc.block ?_ | refine then_r ?_ | refine then_e ?_ | refine inb_e rfl ?_ | refine inb_o rfl ?_ | refine inb_n ?_ | refine inb_r ?_ | refine Wc.skip ?_ | refine Wc.exit ?_ | refine Wc.ret ?_ | refine Wc.cond_true rfl ?_ | refine Wc.cond_false rfl ?_ | refine WL.skp rfl rfl ?_ | refine WL.sku rfl ?_)
        have h2l : R'.length = 2 := by omega
        have hsd : sprd T'.next R' = [(T'.next + 1, R')] := by unfold sprd; rw [if_neg (by omega), if_pos (by omega)]
        have hne : ∀ x ∈ R', Sh.its d' x ≠ [] := fun x hx => (hRok' x hx).2
        have hed := Laid.node (n := 0) (l := R') hl9 (by omega) hne (by omega) (fun x hx => (hRep' x hx).mono (hle2.trans hle))
        have e2 : sprdP (Sh.page (d' + 1) ((0, R') : UInt32 × List (Sh d'))) = (sprd T'.next R').map fun r => Sh.page (d' + 1) r := sprd_node 0 T'.next R'
        have e3 : refsP T'.next ((sprd T'.next R').map fun r => Sh.page (d' + 1) r) = (sprd T'.next R').map (refS (d' + 1)) := refs_node T'.next R' hne
        rw [e2, e3] at hN9
        have el2 : (sprdP (Sh.page (d' + 1) ((0, R') : UInt32 × List (Sh d')))).length = 1 := by
          rw [congrArg List.length e2, hsd]; rfl
        rw [hsd] at hN9 hed
        rw [el2]
        have hR9 : ∀ r ∈ ([(T'.next + 1, R')] : List (Sh (d' + 1))), Sh.Ok (d' + 1) r ∧ Sh.its (d' + 1) r ≠ [] := fun r hr => by
          obtain rfl : r = (T'.next + 1, R') := List.mem_singleton.1 hr
          have : Sh.Ok (d' + 1) ((T'.next + 1, R') : UInt32 × List (Sh d')) := ⟨by show 1 ≤ R'.length; omega, by show R'.length ≤ 8; omega, hRok'⟩
          exact ⟨this, Sh.ok_ne _ _ this⟩
        have hnx9 : T9.next = T'.next + 1 := hed.nx
        have hG9 : grw (d' + 1) ([(T'.next + 1, R')] : List (Sh (d' + 1))) T9.next = G := by
          rw [← hG', hnx9]
          show (clps (d' + 1) ((T'.next + 1, R') : UInt32 × List (Sh d')), T'.next + 1) = _
          rw [clps_ne (s := ((T'.next + 1, R') : UInt32 × List (Sh d'))) (by show R'.length ≠ 1; omega)]
          exact (grw_two h2l).symm
        refine ⟨1, by omega, d' + 1, [(T'.next + 1, R')], T9, a9, c9, hfk, rfl, by (repeat' (first | exact Agree.refl _ _ | exact Agree.havoc | refine Agree.upd rfl ?_ | refine Agree.hav2 rfl ?_)), rfl, (by show 1 ≤ 2; decide), hR9, hed.rep, hN9, ?_, hgr.trans hed.gr, ?_, hG9, H⟩
        · exact FLe.trans ‹FLe g g'› (hle2.trans hle)
        · have := u32_up1 (n := T'.next) (by omega)
          rw [hnx9, this]
          show T'.next.toNat + 1 + 1 ≤ _
          omega
  · have hgr' := hgr.fresh
    by_cases h0 : R'.length = 0
    · obtain rfl : R' = [] := List.eq_nil_of_length_eq_zero h0
      have hlay := fun g w HO => tr_lay tb mb rb T' ⟨true, [], [], []⟩ ⟨none, 0, none, 0, none, 0⟩ g w HO
      obtain ⟨hg1, hl1⟩ := lay_grown hgr' (by have : ([] : List (Sh d')).length = 0 := rfl; omega) (.agg (pgV ⟨true, [], [], []⟩ ⟨none, 0, none, 0, none, 0⟩).toArray)
      obtain ⟨T1, hT1⟩ : ∃ T1, T1 = T'.lay (.agg (pgV ⟨true, [], [], []⟩ ⟨none, 0, none, 0, none, 0⟩).toArray) := ⟨_, rfl⟩
      rw [← hT1] at hlay hg1 hl1
      obtain ⟨s1, hs1⟩ : ∃ s1 : Sh 0, s1 = ((T'.next + 1, []) : UInt32 × List ItemT) := ⟨_, rfl⟩
      have hRep1 : Rep g' T1 0 s1 := fun x hx => by
        rw [hs1] at hx
        obtain rfl : x = (T'.next + 1, Sh.page 0 ((T'.next + 1, []) : UInt32 × List ItemT)) := List.mem_singleton.1 hx
        exact ⟨_, hl1, ⟨Sl.nil _ _, Sl.nil _ _, Sl.nil _ _⟩⟩
      have hG1 : clps 0 s1 = G.1 := by rw [← hG', hs1]; rfl
      have hG2 : T1.next = G.2 := by rw [← hG', hT1]; rfl
      have hgr1 := hgr.trans hg1
      have hnum : Sh.num 0 s1 = T'.next + 1 := by rw [hs1]; rfl
      repeat' (first | ((first | refine WL.p rfl ?_ | refine WL.u ?_ | refine WL.g rfl rfl ?_ | refine WL.gu rfl ?_); first | (refine opk 1 rfl ?_; (refine ost_O (A := trO tb mb rb T') H rfl (by (exact ixQ)) (fun HO => hlay _ _ HO) rfl ?_; clear H; rintro vk wk hfk Lk ⟨rfl, rfl, rfl⟩ H; simp only [List.cons_append, List.nil_append, List.eraseIdx_cons_zero, List.eraseIdx_cons_succ] at H)) | (refine opk 9 rfl ?_; (refine ost_buildS rfl (evP_cons (rfl : _ = Value.bool _) evP_nil) rfl (rfl : _ = [_, _, _, _]) ?_)) | refine pvQ ?_ | (refine opk 3 rfl ?_; (refine ost_cmp rfl rfl rfl rfl (fun hc => ?_) (fun hc => ?_) <;> (simp only [cmpP] at hc; try exact prIQ))) | (refine opk 4 rfl ?_; (refine ost_cmp rfl rfl rfl rfl (fun hc => ?_) (fun hc => ?_) <;> (simp only [cmpP] at hc; try exact prIQ))) | (refine opk 8 rfl ?_; first | (refine ost_store1 H rfl rfl vlQ gvQ ixQ (by first | decide | (simp; omega) | (simp; done) | omega) ?_; clear H; intro wk H; simp only [List.set_cons_zero, List.set_cons_succ, Nat.reduceAdd] at H) | (refine ost_storeW H rfl rfl rfl rfl lQ ixQ lQ okQ ?_; clear H; intro wk H; simp only [List.set_cons_zero, List.set_cons_succ, Nat.reduceAdd] at H)) | (refine opk 9 rfl ?_; first | (refine ost_allocA H rfl ?_; clear H; intro bk wk H) | (refine ost_build1 H rfl rfl rfl evQ lsQ rfl ?_; clear H; intro bk wk H))) | refine Wc.seq ?_ | refine then_n ?_ | refine WL.nil ?_ | refine Wc.region ?_ | refine Wc.block ?_ | refine then_r ?_ | refine then_e ?_ | refine inb_e rfl ?_ | refine inb_o rfl ?_ | refine inb_n ?_ | refine inb_r ?_ | refine Wc.skip ?_ | refine Wc.exit ?_ | refine Wc.ret ?_ | refine Wc.cond_true rfl ?_ | refine Wc.cond_false rfl ?_ | refine WL.skp rfl rfl ?_ | refine WL.sku rfl ?_)
      clear hlay hg1 hl1 hT1 hs1
      obtain ⟨d1, s1, hRep1, hG1, hnum⟩ : ∃ (d1 : Nat) (s1 : Sh d1), Rep g' T1 d1 s1 ∧ clps d1 s1 = G.1 ∧ Sh.num d1 s1 = T'.next + 1 := ⟨0, s1, hRep1, hG1, hnum⟩
      rw [← hnum]
      have hRep0 := hRep1
      obtain ⟨A1, hlk1, hPg1⟩ := hRep1.top
      have hgm1 := fun z => getM_look z hlk1
      have lp1 := pgV_len (Sh.page d1 s1) A1
      replace H := H.split3
      repeat' (first | ((first | refine WL.p rfl ?_ | refine WL.u ?_ | refine WL.g rfl rfl ?_ | refine WL.gu rfl ?_); first | (refine opk 13 rfl ?_; (refine ost_lookup0 (k := Sh.num d1 s1) rfl rfl rfl H.bI ?_; rw [hgm1])) | refine pvQ ?_ | (refine opk 3 rfl ?_; (refine ost_cmp rfl rfl rfl rfl (fun hc => ?_) (fun hc => ?_) <;> (simp only [cmpP] at hc; try exact prIQ))) | (refine opk 4 rfl ?_; (refine ost_cmp rfl rfl rfl rfl (fun hc => ?_) (fun hc => ?_) <;> (simp only [cmpP] at hc; try exact prIQ))) | (refine opk 8 rfl ?_; first | (refine ost_store1 H rfl rfl vlQ gvQ ixQ (by first | decide | (simp; omega) | (simp; done) | omega) ?_; clear H; intro wk H; simp only [List.set_cons_zero, List.set_cons_succ, Nat.reduceAdd] at H) | (refine ost_storeW H rfl rfl rfl rfl lQ ixQ lQ okQ ?_; clear H; intro wk H; simp only [List.set_cons_zero, List.set_cons_succ, Nat.reduceAdd] at H)) | (refine opk 9 rfl ?_; first | (refine ost_allocA H rfl ?_; clear H; intro bk wk H) | (refine ost_build1 H rfl rfl rfl evQ lsQ rfl ?_; clear H; intro bk wk H))) | refine Wc.seq ?_ | refine then_n ?_ | refine WL.nil ?_ | refine Wc.region ?_ | refine Wc.block ?_ | refine then_r ?_ | refine then_e ?_ | refine inb_e rfl ?_ | refine inb_o rfl ?_ | refine inb_n ?_ | refine inb_r ?_ | refine Wc.skip ?_ | refine Wc.exit ?_ | refine Wc.ret ?_ | refine Wc.cond_true rfl ?_ | refine Wc.cond_false rfl ?_ | refine WL.skp rfl rfl ?_ | refine WL.sku rfl ?_)
      obtain ⟨b10, e10⟩ := H.nameB idx0
      subst e10
      replace H : St w F9 g g' [trO tb mb rb T1, .blk b10 _] _ := (H.picks (L' := [.blk tb _, .blk mb _, .blk rb _, .blk b10 _]) [1, 2, 3, 0] rfl (by decide)).join3
      refine Wc.loopE (fun s0 m s w' => ∃ (d2 : Nat) (s2 : Sh d2) (A2 : PAd) (b2 : Nat), m = d2 ∧ Agree [9, 10, 54, 55, 56, 57, 58, 59, 60, 61, 62, 63, 64, 65, 66, 67, 68, 69, 70, 71, 72, 73] s s0 ∧ s 9 = .int .u32 ((Sh.num d2 s2).toNat : Nat) ∧ s 10 = pT b2 ∧ Rep g' T1 d2 s2 ∧ clps d2 s2 = G.1 ∧ PgR g' (Sh.page d2 s2) A2 ∧ St w F9 g g' [trO tb mb rb T1, .blk b2 (.cells (pgV (Sh.page d2 s2) A2).toArray 85 (0, 0))] w') d1 ⟨d1, s1, A1, b10, rfl, Agree.refl _ _, rfl, rfl, hRep0, hG1, hPg1, H⟩ ?_
      clear H hlk1 hPg1 hgm1 lp1 hRep0
      rintro d2 s w' ⟨d9, s2, A2, b2, rfl, hA, e1, e2, hRep2, hG3, hPg2, H⟩
      obtain ⟨j7, rfl⟩ := hA.env2 e1 e2
      clear hA e1 e2
      have lp2 := pgV_len (Sh.page d2 s2) A2
      cases d2 with
      | zero =>
        have hrr := fun w HO => tr_reroot tb mb rb T1 (Sh.num 0 s2) items (Go.Tg.less w (trO tb mb rb T1).fp) w HO
        have hlf : (Sh.page 0 s2).leaf = true := rfl
        repeat' (first | ((first | refine WL.p rfl ?_ | refine WL.u ?_ | refine WL.g rfl rfl ?_ | refine WL.gu rfl ?_); first | (refine opk 1 rfl ?_; (refine ost_O (A := trO tb mb rb T1) H rfl (by (exact ixQ)) (fun HO => hrr _ HO) rfl ?_; clear H; rintro vk wk hfk Lk ⟨rfl, rfl⟩ H; simp only [List.cons_append, List.nil_append, List.eraseIdx_cons_zero, List.eraseIdx_cons_succ] at H)) | refine pvQ ?_ | (refine opk 3 rfl ?_; (refine ost_cmp rfl rfl rfl rfl (fun hc => ?_) (fun hc => ?_) <;> (simp only [cmpP] at hc; try exact prIQ))) | (refine opk 4 rfl ?_; (refine ost_cmp rfl rfl rfl rfl (fun hc => ?_) (fun hc => ?_) <;> (simp only [cmpP] at hc; try exact prIQ))) | (refine opk 8 rfl ?_; first | (refine ost_store1 H rfl rfl vlQ gvQ ixQ (by first | decide | (simp; omega) | (simp; done) | omega) ?_; clear H; intro wk H; simp only [List.set_cons_zero, List.set_cons_succ, Nat.reduceAdd] at H) | (refine ost_storeW H rfl rfl rfl rfl lQ ixQ lQ okQ ?_; clear H; intro wk H; simp only [List.set_cons_zero, List.set_cons_succ, Nat.reduceAdd] at H)) | (refine opk 9 rfl ?_; first | (refine ost_allocA H rfl ?_; clear H; intro bk wk H) | (refine ost_build1 H rfl rfl rfl evQ lsQ rfl ?_; clear H; intro bk wk H))) | refine Wc.seq ?_ | refine then_n ?_ | refine WL.nil ?_ | refine Wc.region ?_ | refine Wc.block ?_ | refine then_r ?_ | refine then_e ?_ | refine inb_e rfl ?_ | refine inb_o rfl ?_ | refine inb_n ?_ | refine inb_r ?_ | refine Wc.skip ?_ | refine Wc.exit ?_ | refine Wc.ret ?_ | refine Wc.cond_true rfl ?_ | refine Wc.cond_false rfl ?_ | refine WL.skp rfl rfl ?_ | refine WL.sku rfl ?_)
        exact fn_end0 rfl ⟨_, _, H.picks (L' := [_]) [0] rfl (by decide), T1, by rw [← hG3]; rfl, hgr1, hG2, by rw [← hG3]; exact hRep2⟩
      | succ d2 =>
        have hlf : (Sh.page (d2 + 1) s2).leaf = false := rfl
        have hkl : (Sh.page (d2 + 1) s2).kids.length = s2.2.length := List.length_map ..
        by_cases h1k : s2.2.length = 1
        · obtain ⟨k1, hk1⟩ := List.length_eq_one_iff.1 h1k
          have hRk : Rep g' T1 d2 k1 := hRep2.kid (by rw [hk1]; exact List.mem_singleton.2 rfl)
          have hG4 : clps d2 k1 = G.1 := by rw [← clps_one hk1]; exact hG3
          obtain ⟨A3, hlk3, hPg3⟩ := hRk.top
          have hgm3 := fun z => getM_look z hlk3
          have lp3 := pgV_len (Sh.page d2 k1) A3
          obtain ⟨b, off, L9, T9, fr, e2, eb, eg⟩ := hPg2.d.getM (by decide) (show 0 < (Sh.page (d2 + 1) s2).kids.length by omega)
          have g1 := eg 0 0 (by omega) rfl
          have hkn : (Sh.page (d2 + 1) s2).kids[0]'(by omega) = Sh.num d2 k1 := by
            have : (s2.2.map (Sh.num d2))[0]? = some (Sh.num d2 k1) := by rw [hk1]; rfl
            exact (List.getElem?_eq_some_iff.1 this).2
          rw [hkn] at g1
          have gc : L9[off + (0 : Int).toNat * 1]? = some (.int .u32 ((Sh.num d2 k1).toNat : Nat)) := by
            have := row_cell g1 (q := 0) (by simp [cKid])
            simpa [cKid] using this
          clear eg g1 hkn
          obtain ⟨ak, ck, al, cl, ad, cd⟩ := A2
          dsimp only at e2
          subst e2
          replace H := H.split3
          repeat' (first | ((first | refine WL.p rfl ?_ | refine WL.u ?_ | refine WL.g rfl rfl ?_ | refine WL.gu rfl ?_); first | (refine opk 13 rfl ?_; (refine ost_lookup0 (k := Sh.num d2 k1) rfl rfl rfl H.bI ?_; rw [hgm3])) | refine pvQ ?_ | (refine opk 3 rfl ?_; (refine ost_cmp rfl rfl rfl rfl (fun hc => ?_) (fun hc => ?_) <;> (simp only [cmpP] at hc; try exact prIQ))) | (refine opk 4 rfl ?_; (refine ost_cmp rfl rfl rfl rfl (fun hc => ?_) (fun hc => ?_) <;> (simp only [cmpP] at hc; try exact prIQ))) | (refine opk 8 rfl ?_; first | (refine ost_store1 H rfl rfl vlQ gvQ ixQ (by first | decide | (simp; omega) | (simp; done) | omega) ?_; clear H; intro wk H; simp only [List.set_cons_zero, List.set_cons_succ, Nat.reduceAdd] at H) | (refine ost_storeW H rfl rfl rfl rfl lQ ixQ lQ okQ ?_; clear H; intro wk H; simp only [List.set_cons_zero, List.set_cons_succ, Nat.reduceAdd] at H)) | (refine opk 9 rfl ?_; first | (refine ost_allocA H rfl ?_; clear H; intro bk wk H) | (refine ost_build1 H rfl rfl rfl evQ lsQ rfl ?_; clear H; intro bk wk H))) | refine Wc.seq ?_ | refine then_n ?_ | refine WL.nil ?_ | refine Wc.region ?_ | refine Wc.block ?_ | refine then_r ?_ | refine then_e ?_ | refine inb_e rfl ?_ | refine inb_o rfl ?_ | refine inb_n ?_ | refine inb_r ?_ | refine Wc.skip ?_ | refine Wc.exit ?_ | refine Wc.ret ?_ | refine Wc.cond_true rfl ?_ | refine Wc.cond_false rfl ?_ | refine WL.skp rfl rfl ?_ | refine WL.sku rfl ?_)
          obtain ⟨b7, e7⟩ := H.nameB idx0
          subst e7
          exact ⟨d2, by omega, d2, k1, A3, b7, rfl, by (repeat' (first | exact Agree.refl _ _ | exact Agree.havoc | refine Agree.upd rfl ?_ | refine Agree.hav2 rfl ?_)), rfl, rfl, hRk, hG4, hPg3, (H.picks (L' := [.blk tb _, .blk mb _, .blk rb _, .blk b7 _]) [1, 2, 3, 0] rfl (by decide)).join3⟩
        · have hrr := fun w HO => tr_reroot tb mb rb T1 (Sh.num (d2 + 1) s2) items (Go.Tg.less w (trO tb mb rb T1).fp) w HO
          repeat' (first | ((first | refine WL.p rfl ?_ | refine WL.u ?_ | refine WL.g rfl rfl ?_ | refine WL.gu rfl ?_); first | (refine opk 1 rfl ?_; (refine ost_O (A := trO tb mb rb T1) H rfl (by (exact ixQ)) (fun HO => hrr _ HO) rfl ?_; clear H; rintro vk wk hfk Lk ⟨rfl, rfl⟩ H; simp only [List.cons_append, List.nil_append, List.eraseIdx_cons_zero, List.eraseIdx_cons_succ] at H)) | refine pvQ ?_ | (refine opk 3 rfl ?_; (refine ost_cmp rfl rfl rfl rfl (fun hc => ?_) (fun hc => ?_) <;> (simp only [cmpP] at hc; try exact prIQ))) | (refine opk 4 rfl ?_; (refine ost_cmp rfl rfl rfl rfl (fun hc => ?_) (fun hc => ?_) <;> (simp only [cmpP] at hc; try exact prIQ))) | (refine opk 8 rfl ?_; first | (refine ost_store1 H rfl rfl vlQ gvQ ixQ (by first | decide | (simp; omega) | (simp; done) | omega) ?_; clear H; intro wk H; simp only [List.set_cons_zero, List.set_cons_succ, Nat.reduceAdd] at H) | (refine ost_storeW H rfl rfl rfl rfl lQ ixQ lQ okQ ?_; clear H; intro wk H; simp only [List.set_cons_zero, List.set_cons_succ, Nat.reduceAdd] at H)) | (refine opk 9 rfl ?_; first | (refine ost_allocA H rfl ?_; clear H; intro bk wk H) | (refine ost_build1 H rfl rfl rfl evQ lsQ rfl ?_; clear H; intro bk wk H))) | refine Wc.seq ?_ | refine then_n ?_ | refine WL.nil ?_ | refine Wc.region ?_ | refine Wc.block ?_ | refine then_r ?_ | refine then_e ?_ | refine inb_e rfl ?_ | refine inb_o rfl ?_ | refine inb_n ?_ | refine inb_r ?_ | refine Wc.skip ?_ | refine Wc.exit ?_ | refine Wc.ret ?_ | refine Wc.cond_true rfl ?_ | refine Wc.cond_false rfl ?_ | refine WL.skp rfl rfl ?_ | refine WL.sku rfl ?_)
          rw [clps_ne h1k] at hG3
          exact fn_end0 rfl ⟨_, _, H.picks (L' := [_]) [0] rfl (by decide), T1, by rw [← hG3], hgr1, hG2, by rw [← hG3]; exact hRep2⟩
    · obtain ⟨s1, rfl⟩ := List.length_eq_one_iff.1 (show R'.length = 1 by omega)
      obtain ⟨d1, hd1⟩ : ∃ d1, d1 = d' := ⟨_, rfl⟩
      subst hd1
      obtain ⟨T1, hT1⟩ : ∃ T1, T1 = T' := ⟨_, rfl⟩
      subst hT1
      have hRep1 : Rep g' T1 d1 s1 := hRep' s1 (List.mem_singleton.2 rfl)
      have hG1 : clps d1 s1 = G.1 := by rw [← hG']; rfl
      have hG2 : T1.next = G.2 := by rw [← hG']; rfl
      have hgr1 := hgr
      have hN2 : Sl g' 4 a' c' ([refS d1 s1].map cRef) := hN'
      obtain ⟨b, off, L9, T9, fr, e2, eb, eg⟩ := hN2.getM (by decide) (show 0 < [refS d1 s1].length from Nat.one_pos)
      subst e2
      have g1 := eg 0 0 Nat.one_pos rfl
      have gc : L9[off + (0 : Int).toNat * 4 + 3]? = some (.int .u32 ((Sh.num d1 s1).toNat : Nat)) := row_cell g1 (q := 3) (by show 3 < 4; decide)
      have gc2 : L9[off + 0 * 4 + 3]? = some (.int .u32 ((Sh.num d1 s1).toNat : Nat)) := gc
      clear eg g1
      repeat' (first | ((first | refine WL.p rfl ?_ | refine WL.u ?_ | refine WL.g rfl rfl ?_ | refine WL.gu rfl ?_); first | refine pvQ ?_ | (refine opk 3 rfl ?_; (refine ost_cmp rfl rfl rfl rfl (fun hc => ?_) (fun hc => ?_) <;> (simp only [cmpP] at hc; try exact prIQ))) | (refine opk 4 rfl ?_; (refine ost_cmp rfl rfl rfl rfl (fun hc => ?_) (fun hc => ?_) <;> (simp only [cmpP] at hc; try exact prIQ))) | (refine opk 8 rfl ?_; first | (refine ost_store1 H rfl rfl vlQ gvQ ixQ (by first | decide | (simp; omega) | (simp; done) | omega) ?_; clear H; intro wk H; simp only [List.set_cons_zero, List.set_cons_succ, Nat.reduceAdd] at H) | (refine ost_storeW H rfl rfl rfl rfl lQ ixQ lQ okQ ?_; clear H; intro wk H; simp only [List.set_cons_zero, List.set_cons_succ, Nat.reduceAdd] at H)) | (refine opk 9 rfl ?_; first | (refine ost_allocA H rfl ?_; clear H; intro bk wk H) | (refine ost_build1 H rfl rfl rfl evQ lsQ rfl ?_; clear H; intro bk wk H))) | refine Wc.seq ?_ | refine then_n ?_ | refine WL.nil ?_ | refine Wc.region ?_ | refine Wc.block ?_ | refine then_r ?_ | refine then_e ?_ | refine inb_e rfl ?_ | refine inb_o rfl ?_ | refine inb_n ?_ | refine inb_r ?_ | refine Wc.skip ?_ | refine Wc.exit ?_ | refine Wc.ret ?_ | refine Wc.cond_true rfl ?_ | refine Wc.cond_false rfl ?_ | refine WL.skp rfl rfl ?_ | refine WL.sku rfl ?_)
      all_goals first | (exfalso; omega) | skip
      have hRep0 := hRep1
      obtain ⟨A1, hlk1, hPg1⟩ := hRep1.top
      have hgm1 := fun z => getM_look z hlk1
      have lp1 := pgV_len (Sh.page d1 s1) A1
      replace H := H.split3
      repeat' (first | ((first | refine WL.p rfl ?_ | refine WL.u ?_ | refine WL.g rfl rfl ?_ | refine WL.gu rfl ?_); first | (refine opk 13 rfl ?_; (refine ost_lookup0 (k := Sh.num d1 s1) rfl rfl rfl H.bI ?_; rw [hgm1])) | refine pvQ ?_ | (refine opk 3 rfl ?_; (refine ost_cmp rfl rfl rfl rfl (fun hc => ?_) (fun hc => ?_) <;> (simp only [cmpP] at hc; try exact prIQ))) | (refine opk 4 rfl ?_; (refine ost_cmp rfl rfl rfl rfl (fun hc => ?_) (fun hc => ?_) <;> (simp only [cmpP] at hc; try exact prIQ))) | (refine opk 8 rfl ?_; first | (refine ost_store1 H rfl rfl vlQ gvQ ixQ (by first | decide | (simp; omega) | (simp; done) | omega) ?_; clear H; intro wk H; simp only [List.set_cons_zero, List.set_cons_succ, Nat.reduceAdd] at H) | (refine ost_storeW H rfl rfl rfl rfl lQ ixQ lQ okQ ?_; clear H; intro wk H; simp only [List.set_cons_zero, List.set_cons_succ, Nat.reduceAdd] at H)) | (refine opk 9 rfl ?_; first | (refine ost_allocA H rfl ?_; clear H; intro bk wk H) | (refine ost_build1 H rfl rfl rfl evQ lsQ rfl ?_; clear H; intro bk wk H))) | refine Wc.seq ?_ | refine then_n ?_ | refine WL.nil ?_ | refine Wc.region ?_ | refine Wc.block ?_ | refine then_r ?_ | refine then_e ?_ | refine inb_e rfl ?_ | refine inb_o rfl ?_ | refine inb_n ?_ | refine inb_r ?_ | refine Wc.skip ?_ | refine Wc.exit ?_ | refine Wc.ret ?_ | refine Wc.cond_true rfl ?_ | refine Wc.cond_false rfl ?_ | refine WL.skp rfl rfl ?_ | refine WL.sku rfl ?_)
      obtain ⟨b10, e10⟩ := H.nameB idx0
      subst e10
      replace H : St w F9 g g' [trO tb mb rb T1, .blk b10 _] _ := (H.picks (L' := [.blk tb _, .blk mb _, .blk rb _, .blk b10 _]) [1, 2, 3, 0] rfl (by decide)).join3
      refine Wc.loopE (fun s0 m s w' => ∃ (d2 : Nat) (s2 : Sh d2) (A2 : PAd) (b2 : Nat), m = d2 ∧ Agree [9, 10, 54, 55, 56, 57, 58, 59, 60, 61, 62, 63, 64, 65, 66, 67, 68, 69, 70, 71, 72, 73] s s0 ∧ s 9 = .int .u32 ((Sh.num d2 s2).toNat : Nat) ∧ s 10 = pT b2 ∧ Rep g' T1 d2 s2 ∧ clps d2 s2 = G.1 ∧ PgR g' (Sh.page d2 s2) A2 ∧ St w F9 g g' [trO tb mb rb T1, .blk b2 (.cells (pgV (Sh.page d2 s2) A2).toArray 85 (0, 0))] w') d1 ⟨d1, s1, A1, b10, rfl, Agree.refl _ _, rfl, rfl, hRep0, hG1, hPg1, H⟩ ?_
      clear H hlk1 hPg1 hgm1 lp1 hRep0
      rintro d2 s w' ⟨d9, s2, A2, b2, rfl, hA, e1, e2, hRep2, hG3, hPg2, H⟩
      obtain ⟨j7, rfl⟩ := hA.env2 e1 e2
      clear hA e1 e2
      have lp2 := pgV_len (Sh.page d2 s2) A2
      cases d2 with
      | zero =>
        have hrr := fun w HO => tr_reroot tb mb rb T1 (Sh.num 0 s2) items (Go.Tg.less w (trO tb mb rb T1).fp) w HO
        have hlf : (Sh.page 0 s2).leaf = true := rfl
        repeat' (first | ((first | refine WL.p rfl ?_ | refine WL.u ?_ | refine WL.g rfl rfl ?_ | refine WL.gu rfl ?_); first | (refine opk 1 rfl ?_; (refine ost_O (A := trO tb mb rb T1) H rfl (by (exact ixQ)) (fun HO => hrr _ HO) rfl ?_; clear H; rintro vk wk hfk Lk ⟨rfl, rfl⟩ H; simp only [List.cons_append, List.nil_append, List.eraseIdx_cons_zero, List.eraseIdx_cons_succ] at H)) | refine pvQ ?_ | (refine opk 3 rfl ?_; (refine ost_cmp rfl rfl rfl rfl (fun hc => ?_) (fun hc => ?_) <;> (simp only [cmpP] at hc; try exact prIQ))) | (refine opk 4 rfl ?_; (refine ost_cmp rfl rfl rfl rfl (fun hc => ?_) (fun hc => ?_) <;> (simp only [cmpP] at hc; try exact prIQ))) | (refine opk 8 rfl ?_; first | (refine ost_store1 H rfl rfl vlQ gvQ ixQ (by first | decide | (simp; omega) | (simp; done) | omega) ?_; clear H; intro wk H; simp only [List.set_cons_zero, List.set_cons_succ, Nat.reduceAdd] at H) | (refine ost_storeW H rfl rfl rfl rfl lQ ixQ lQ okQ ?_; clear H; intro wk H; simp only [List.set_cons_zero, List.set_cons_succ, Nat.reduceAdd] at H)) | (refine opk 9 rfl ?_; first | (refine ost_allocA H rfl ?_; clear H; intro bk wk H) | (refine ost_build1 H rfl rfl rfl evQ lsQ rfl ?_; clear H; intro bk wk H))) | refine Wc.seq ?_ | refine then_n ?_ | refine WL.nil ?_ | refine Wc.region ?_ | refine Wc.block ?_ | refine then_r ?_ | refine then_e ?_ | refine inb_e rfl ?_ | refine inb_o rfl ?_ | refine inb_n ?_ | refine inb_r ?_ | refine Wc.skip ?_ | refine Wc.exit ?_ | refine Wc.ret ?_ | refine Wc.cond_true rfl ?_ | refine Wc.cond_false rfl ?_ | refine WL.skp rfl rfl ?_ | refine WL.sku rfl ?_)
        exact fn_end0 rfl ⟨_, _, H.picks (L' := [_]) [0] rfl (by decide), T1, by rw [← hG3]; rfl, hgr1, hG2, by rw [← hG3]; exact hRep2⟩
      | succ d2 =>
        have hlf : (Sh.page (d2 + 1) s2).leaf = false := rfl
        have hkl : (Sh.page (d2 + 1) s2).kids.length = s2.2.length := List.length_map ..
        by_cases h1k : s2.2.length = 1
        · obtain ⟨k1, hk1⟩ := List.length_eq_one_iff.1 h1k
          have hRk : Rep g' T1 d2 k1 := hRep2.kid (by rw [hk1]; exact List.mem_singleton.2 rfl)
          have hG4 : clps d2 k1 = G.1 := by rw [← clps_one hk1]; exact hG3
          obtain ⟨A3, hlk3, hPg3⟩ := hRk.top
          have hgm3 := fun z => getM_look z hlk3
          have lp3 := pgV_len (Sh.page d2 k1) A3
          obtain ⟨b, off, L9, T9, fr, e2, eb, eg⟩ := hPg2.d.getM (by decide) (show 0 < (Sh.page (d2 + 1) s2).kids.length by omega)
          have g1 := eg 0 0 (by omega) rfl
          have hkn : (Sh.page (d2 + 1) s2).kids[0]'(by omega) = Sh.num d2 k1 := by
            have : (s2.2.map (Sh.num d2))[0]? = some (Sh.num d2 k1) := by rw [hk1]; rfl
            exact (List.getElem?_eq_some_iff.1 this).2
          rw [hkn] at g1
          have gc : L9[off + (0 : Int).toNat * 1]? = some (.int .u32 ((Sh.num d2 k1).toNat : Nat)) := by
            have := row_cell g1 (q := 0) (by simp [cKid])
            simpa [cKid] using this
          clear eg g1 hkn
          obtain ⟨ak, ck, al, cl, ad, cd⟩ := A2
          dsimp only at e2
          subst e2
          replace H := H.split3
          repeat' (first | ((first | refine WL.p rfl ?_ | refine WL.u ?_ | refine WL.g rfl rfl ?_ | refine WL.gu rfl ?_); first | (refine opk 13 rfl ?_; (refine ost_lookup0 (k := Sh.num d2 k1) rfl rfl rfl H.bI ?_; rw [hgm3])) | refine pvQ ?_ | (refine opk 3 rfl ?_; (refine ost_cmp rfl rfl rfl rfl (fun hc => ?_) (fun hc => ?_) <;> (simp only [cmpP] at hc; try exact prIQ))) | (refine opk 4 rfl ?_; (refine ost_cmp rfl rfl rfl rfl (fun hc => ?_) (fun hc => ?_) <;> (simp only [cmpP] at hc; try exact prIQ))) | (refine opk 8 rfl ?_; first | (refine ost_store1 H rfl rfl vlQ gvQ ixQ (by first | decide | (simp; omega) | (simp; done) | omega) ?_; clear H; intro wk H; simp only [List.set_cons_zero, List.set_cons_succ, Nat.reduceAdd] at H) | (refine ost_storeW H rfl rfl rfl rfl lQ ixQ lQ okQ ?_; clear H; intro wk H; simp only [List.set_cons_zero, List.set_cons_succ, Nat.reduceAdd] at H)) | (refine opk 9 rfl ?_; first | (refine ost_allocA H rfl ?_; clear H; intro bk wk H) | (refine ost_build1 H rfl rfl rfl evQ lsQ rfl ?_; clear H; intro bk wk H))) | refine Wc.seq ?_ | refine then_n ?_ | refine WL.nil ?_ | refine Wc.region ?_ | refine Wc.block ?_ | refine then_r ?_ | refine then_e ?_ | refine inb_e rfl ?_ | refine inb_o rfl ?_ | refine inb_n ?_ | refine inb_r ?_ | refine Wc.skip ?_ | refine Wc.exit ?_ | refine Wc.ret ?_ | refine Wc.cond_true rfl ?_ | refine Wc.cond_false rfl ?_ | refine WL.skp rfl rfl ?_ | refine WL.sku rfl ?_)
          obtain ⟨b7, e7⟩ := H.nameB idx0
          subst e7
          exact ⟨d2, by omega, d2, k1, A3, b7, rfl, by (repeat' (first | exact Agree.refl _ _ | exact Agree.havoc | refine Agree.upd rfl ?_ | refine Agree.hav2 rfl ?_)), rfl, rfl, hRk, hG4, hPg3, (H.picks (L' := [.blk tb _, .blk mb _, .blk rb _, .blk b7 _]) [1, 2, 3, 0] rfl (by decide)).join3⟩
        · have hrr := fun w HO => tr_reroot tb mb rb T1 (Sh.num (d2 + 1) s2) items (Go.Tg.less w (trO tb mb rb T1).fp) w HO
          repeat' (first | ((first | refine WL.p rfl ?_ | refine WL.u ?_ | refine WL.g rfl rfl ?_ | refine WL.gu rfl ?_); first | (refine opk 1 rfl ?_; (refine ost_O (A := trO tb mb rb T1) H rfl (by (exact ixQ)) (fun HO => hrr _ HO) rfl ?_; clear H; rintro vk wk hfk Lk ⟨rfl, rfl⟩ H; simp only [List.cons_append, List.nil_append, List.eraseIdx_cons_zero, List.eraseIdx_cons_succ] at H)) | refine pvQ ?_ | (refine opk 3 rfl ?_; (refine ost_cmp rfl rfl rfl rfl (fun hc => ?_) (fun hc => ?_) <;> (simp only [cmpP] at hc; try exact prIQ))) | (refine opk 4 rfl ?_; (refine ost_cmp rfl rfl rfl rfl (fun hc => ?_) (fun hc => ?_) <;> (simp only [cmpP] at hc; try exact prIQ))) | (refine opk 8 rfl ?_; first | (refine ost_store1 H rfl rfl vlQ gvQ ixQ (by first | decide | (simp; omega) | (simp; done) | omega) ?_; clear H; intro wk H; simp only [List.set_cons_zero, List.set_cons_succ, Nat.reduceAdd] at H) | (refine ost_storeW H rfl rfl rfl rfl lQ ixQ lQ okQ ?_; clear H; intro wk H; simp only [List.set_cons_zero, List.set_cons_succ, Nat.reduceAdd] at H)) | (refine opk 9 rfl ?_; first | (refine ost_allocA H rfl ?_; clear H; intro bk wk H) | (refine ost_build1 H rfl rfl rfl evQ lsQ rfl ?_; clear H; intro bk wk H))) | refine Wc.seq ?_ | refine then_n ?_ | refine WL.nil ?_ | refine Wc.region ?_ | refine Wc.block ?_ | refine then_r ?_ | refine then_e ?_ | refine inb_e rfl ?_ | refine inb_o rfl ?_ | refine inb_n ?_ | refine inb_r ?_ | refine Wc.skip ?_ | refine Wc.exit ?_ | refine Wc.ret ?_ | refine Wc.cond_true rfl ?_ | refine Wc.cond_false rfl ?_ | refine WL.skp rfl rfl ?_ | refine WL.sku rfl ?_)
          rw [clps_ne h1k] at hG3
          exact fn_end0 rfl ⟨_, _, H.picks (L' := [_]) [0] rfl (by decide), T1, by rw [← hG3], hgr1, hG2, by rw [← hG3]; exact hRep2⟩
end Go.Tg

set_option linter.unusedVariables false
set_option linter.unusedSimpArgs false
set_option maxRecDepth 100000
set_option maxHeartbeats 4000000
namespace Go.Tg
open Go Go.Proofs
structure TrF (h : FH) (tb mb rb : Nat) (T : TrM) : Prop where
  t : h tb = some (.cells [Value.map (some mb), .map (some rb), .int .u32 T.root.toNat, .int .u32 T.next.toNat].toArray 76 (0, 0))
  m : h mb = some (mpO cU T.pages T.pclk)
  r : h rb = some (mpO cU T.roots T.rclk)
theorem TrF.mono {h h' : FH} {tb mb rb : Nat} {T : TrM} (hle : FLe h h') (r : TrF h tb mb rb T) : TrF h' tb mb rb T := ⟨hle _ _ r.t, hle _ _ r.m, hle _ _ r.r⟩
theorem St.trF {ws w : World} {S : List Nat} {h0 h : FH} {L : List HA} {i tb mb rb : Nat} {T : TrM} (H : St ws S h0 h L w) (hi : L[i]? = some (trO tb mb rb T)) : TrF (full w) tb mb rb T :=
  let h := H.ok i _ hi; ⟨h.1, h.2.1.1, h.2.1.2.1⟩
theorem tr_goodF (tb mb rb : Nat) (T : TrM) (h0 : FH) (w : World) (hs : Sat h0 w) (hT : TrF h0 tb mb rb T) : SpecV Try.prog 29 #[pT tb] w (.bool true) := by
  have H := St.start hs
  have t1 := hT.t
  unfold SpecV
  refine calls_of Try.func29 rfl Try.ntmps29 (by simp) ?_
  repeat' (first | ((first | refine WL.p rfl ?_ | refine WL.u ?_ | refine WL.g rfl rfl ?_ | refine WL.gu rfl ?_); first | refine pvQ ?_ | (refine opk 3 rfl ?_; first | (refine ost_ptEq rfl rfl rfl (fun hc => ?_) (fun hc => ?_) <;> try (simp at hc; done)) | (refine ost_ptNe rfl rfl rfl (fun hc => ?_) (fun hc => ?_) <;> try (simp at hc; done)) | (refine ost_mpEq rfl rfl rfl (fun hc => ?_) (fun hc => ?_) <;> try (simp at hc; done)) | (refine ost_mpNe rfl rfl rfl (fun hc => ?_) (fun hc => ?_) <;> try (simp at hc; done)))) | refine Wc.seq ?_ | refine then_n ?_ | refine WL.nil ?_ | refine Wc.region ?_ | refine Wc.block ?_ | refine then_r ?_ | refine then_e ?_ | refine inb_e rfl ?_ | refine inb_o rfl ?_ | refine inb_n ?_ | refine inb_r ?_ | refine Wc.skip ?_ | refine Wc.exit ?_ | refine Wc.ret ?_ | refine Wc.cond_true rfl ?_ | refine Wc.cond_false rfl ?_ | refine WL.skp rfl rfl ?_ | refine WL.sku rfl ?_)
  (first | refine fn_ret1 (v := .bool _) rfl rfl ⟨?_, H.fr⟩ | refine fn_ret1 (v := .int _ _) rfl rfl ⟨?_, H.fr⟩ | refine fn_ret1 (v := .string _) rfl rfl ⟨?_, H.fr⟩); rfl
noncomputable def lfI : (d : Nat) → Sh d → KeyT → List ItemT
  | 0, s, _ => s.2
  | d + 1, s, k => match (s.2 : List (Sh d))[kidI (s.2.map fun c => hdK (Sh.its d c)) k]? with
    | some c => lfI d c k
    | none => []
theorem lfI_succ {d : Nat} {s : Sh (d + 1)} {k : KeyT} {c : Sh d} (hc : (s.2 : List (Sh d))[kidI (s.2.map fun c => hdK (Sh.its d c)) k]? = some c) : lfI (d + 1) s k = lfI d c k := by
  conv => lhs; unfold lfI
  rw [hc]
theorem lfI_props (k : KeyT) : ∀ (d : Nat) (s : Sh d), Sh.Ok d s → Srt (Sh.its d s) → Srt (lfI d s k) ∧ (lfI d s k).length ≤ 8 ∧ (∀ x ∈ Sh.its d s, x.key = k → x ∈ lfI d s k) ∧ (∀ x ∈ lfI d s k, x ∈ Sh.its d s)
  | 0, s, hok, hs => ⟨hs, hok, fun x hx _ => hx, fun x hx => hx⟩
  | d + 1, s, hok, hs => by
    obtain ⟨c, hc, hcm, hk1, hk2, hk3⟩ := kid_at hok hs k
    have hcs : Srt (Sh.its d c) := by rw [hk3, Srt.app, Srt.app] at hs; exact hs.1.2.1
    obtain ⟨i1, i2, i3, i4⟩ := lfI_props k d c (hok.2.2 c hcm).1 hcs
    rw [lfI_succ hc, hk3]
    refine ⟨i1, i2, fun x hx e => ?_, fun x hx => by simp [i4 x hx]⟩
    rcases List.mem_append.1 hx with hx | hx
    · rcases List.mem_append.1 hx with hx | hx
      · have := hk1 x hx; rw [e] at this; omega
      · exact i3 x hx e
    · have := hk2 x hx; rw [e] at this; omega
theorem getI_none {l : List ItemT} {k : KeyT} (h : ∀ x ∈ l, x.key ≠ k) : getI l k = (⟨0, 0⟩, 7) := by
  unfold getI
  rw [posI_none fun j hj => h _ (List.getElem_mem hj)]
theorem getI_mem {l : List ItemT} {k : KeyT} {x : ItemT} (hs : Srt l) (hx : x ∈ l) (e : x.key = k) : getI l k = (x.loc, 0) := by
  obtain ⟨j, hj, rfl⟩ := List.getElem_of_mem hx
  unfold getI
  rw [posI_some hj e fun i hi he => by
    have := List.pairwise_iff_getElem.1 hs i j (by omega) hj hi
    rw [he, e] at this; omega]
  dsimp only
  rw [List.getElem?_eq_getElem hj]; rfl
theorem getI_leaf {d : Nat} {s : Sh d} (hok : Sh.Ok d s) (hs : Srt (Sh.its d s)) (k : KeyT) :
    getI (Sh.its d s) k = getI (lfI d s k) k := by
  obtain ⟨i1, i2, i3, i4⟩ := lfI_props k d s hok hs
  by_cases h : ∃ x ∈ Sh.its d s, x.key = k
  · obtain ⟨x, hx, e⟩ := h
    rw [getI_mem hs hx e, getI_mem i1 (i3 x hx e) e]
  · rw [getI_none fun x hx e => h ⟨x, hx, e⟩, getI_none fun x hx e => h ⟨x, i4 x hx, e⟩]
theorem getI_cnt {l : List ItemT} (hs : Srt l) (k : KeyT) : (hasK (l.map (·.key)) k = false ∧ getI l k = (⟨0, 0⟩, 7)) ∨ (hasK (l.map (·.key)) k = true ∧ ∃ h : cntK (l.map (·.key)) k < l.length, getI l k = (l[cntK (l.map (·.key)) k].loc, 0)) := by
  cases hh : hasK (l.map (·.key)) k with
  | false =>
    refine .inl ⟨rfl, getI_none fun x hx e => ?_⟩
    unfold hasK at hh
    exact dcd_no.1 hh (List.mem_map.2 ⟨x, hx, e⟩)
  | true =>
    obtain ⟨hc, he⟩ := (hasK_cnt hs.sorted).1 hh
    rw [List.length_map] at hc
    rw [List.getElem_map] at he
    exact .inr ⟨rfl, hc, getI_mem hs (List.getElem_mem hc) he⟩
theorem tr_leaf (tb mb rb : Nat) (T : TrM) (d : Nat) (s : Sh d) (k : KeyT) (h0 : FH) (w : World) (hs : Sat h0 w) (hT : TrF h0 tb mb rb T) (hok : Sh.Ok d s) (hsr : Srt (Sh.its d s)) (hrep : Rep h0 T d s) (hroot : T.root = Sh.num d s) :
    Spec Try.prog 42 #[pT tb, .agg (cKey k).toArray] w [] h0 (fun v h' L' => h' = h0 ∧ L' = [] ∧ ∃ A, v = .agg (pgV (lfP (lfI d s k)) A).toArray ∧ PgR h0 (lfP (lfI d s k)) A) := by
  have H := St.start hs
  have t1 := hT.t
  have t2 := hT.m
  have lk := cKey_len k
  obtain ⟨A, hlk, hPg⟩ := hrep.top
  have hgm := fun z => getM_look z hlk
  have lp := pgV_len (Sh.page d s) A
  rw [hroot] at t1
  unfold Spec
  refine calls_of Try.func42 rfl Try.ntmps42 (by simp) ?_
  repeat' (first | ((first | refine WL.p rfl ?_ | refine WL.u ?_); first | refine pvQ ?_ | (refine opk 8 rfl ?_; (refine ost_storeW H rfl rfl rfl rfl lQ ixQ lQ okQ ?_; clear H; intro wk H; simp only [List.set_cons_zero, List.set_cons_succ, Nat.reduceAdd] at H)) | (refine opk 9 rfl ?_; first | (refine ost_boxq H rfl ?_; clear H; intro bk wk H) | (refine ost_allocA H rfl ?_; clear H; intro bk wk H))) | refine Wc.seq ?_ | refine then_n ?_ | refine WL.nil ?_ | refine Wc.region ?_ | refine Wc.block ?_ | refine then_r ?_ | refine then_e ?_ | refine inb_e rfl ?_ | refine inb_o rfl ?_ | refine inb_n ?_ | refine inb_r ?_ | refine Wc.skip ?_ | refine Wc.exit ?_ | refine Wc.ret ?_ | refine Wc.cond_true rfl ?_ | refine Wc.cond_false rfl ?_ | (refine Wc.drawn (id := 3) 11 (by kernel_rfl) ?_) | (refine rgs_nil ?_; intro vs wk hE; replace H := H.ext hE; clear hE) | (refine RGs.bq (fun _ => rfl) rfl (by intro vs w hE hP; have H := H.ext hE; first | exact dbQ | fail) (fun hc => ?_) (fun hc => ?_) <;> ((try simp only [cmpP, decide_eq_true_eq, decide_eq_false_iff_not, dcd_iff, dcd_no] at hc); try exact prDQ)) | refine RGs.pq (fun _ => rfl) rfl (by intro vs w hE hP; have H := H.ext hE; first | (refine opk 13 rfl ?_; (refine ost_lookup0 (k := Sh.num d s) rfl rfl rfl (H.sat _ _ t2) ?_; rw [hgm]; exact ⟨Fr.refl _ _, rfl⟩)) | exact dvQ | fail) ?_ | (refine Wc.drawM (id := 1) 10 [(9, [], fun v L' => ∃ b, v = pT b ∧ L' = [.blk b (.cells [Value.bool false, .slice none 0 0, .slice none 0 0, .slice none 0 0].toArray 85 (0, 0))])] [.blk _ _, .blk _ _] [9] H (by kernel_rfl) rfl (by kernel_rfl) (by simp only [inpL, List.nil_append, List.cons_append, List.append_nil]; first | exact List.Perm.refl _ | exact List.Perm.swap _ _ _ | exact (List.Perm.swap _ _ _).trans ((List.Perm.swap _ _ _).cons _) | exact ((List.Perm.swap _ _ _).cons _) | exact ((List.Perm.swap _ _ _).cons _).trans (List.Perm.swap _ _ _)) ?_) | (refine rgm_nil ?_; intro vs wk outs HM hR; obtain ⟨v9, ⟨b9_9, e9, o9⟩, h9⟩ := hR 9 _ rfl; have hv9 : vs (0 + 1 + 1 + 1 + 1 + 1 + 1 + 1 + 1 + 1) = _ := (h9 (by kernel_rfl)).trans e9; simp only [outsL, o9, List.cons_append, List.nil_append, List.append_nil] at HM; (try dsimp only); rw [hv9]; replace H := HM; clear HM hR) | (refine RGm.bq (fun _ => rfl) rfl (by intro vs w TT hP H; simp only [List.cons_append, List.nil_append] at H; first | exact dbQ | fail) (fun hc => ?_) (fun hc => ?_) <;> ((try simp only [cmpP, decide_eq_true_eq, decide_eq_false_iff_not, dcd_iff, dcd_no] at hc); try exact prDQ)) | refine RGm.pq (fun _ => rfl) rfl (by intro vs w TT hP H; simp only [List.cons_append, List.nil_append] at H; first | (refine opk 13 rfl ?_; (refine ost_lookup0 (k := Sh.num d s) rfl rfl rfl (H.sat _ _ t2) ?_; rw [hgm]; exact ⟨Fr.refl _ _, rfl⟩)) | exact dvQ | fail) ?_ | refine RGm.mq (fun _ => rfl) rfl (by intro vs w TT hP H; simp only [List.cons_append, List.nil_append] at H; first | (refine ost_allocA H rfl ?_; intro bk wk H2; exact ⟨[_], ⟨_, rfl, rfl⟩, H2⟩) | fail) ?_ | refine RGm.mu rfl (by intro vs w TT hP H; simp only [List.cons_append, List.nil_append] at H; first | (refine ost_allocA H rfl ?_; intro bk wk H2; exact ⟨[_], ⟨_, rfl, rfl⟩, H2⟩) | fail) ?_)
  obtain ⟨b4, e4⟩ := H.nameB idx0
  subst e4
  obtain ⟨b3, e3⟩ := H.nameB idx1
  subst e3
  refine Wc.loopE (fun s0 m st w' => ∃ (d2 : Nat) (s2 : Sh d2) (A2 : PAd), m = d2 ∧ Agree [15, 16, 17, 18, 19, 20, 21, 22, 23, 24, 25, 26, 27, 28, 29] st s0 ∧ Sh.Ok d2 s2 ∧ Srt (Sh.its d2 s2) ∧ Rep h0 T d2 s2 ∧ lfI d2 s2 k = lfI d s k ∧ PgR h0 (Sh.page d2 s2) A2 ∧ St w [] h0 h0 [.blk b4 (.cells [Value.bool false, .slice none 0 0, .slice none 0 0, .slice none 0 0].toArray 85 (0, 0)), .blk b3 _, .blk b9_9 (.cells (pgV (Sh.page d2 s2) A2).toArray 85 (0, 0))] w') d ⟨d, s, A, rfl, Agree.refl _ _, hok, hsr, hrep, rfl, hPg, H⟩ ?_
  clear H hlk hgm
  rintro d2 st w' ⟨d9, s2, A2, rfl, hA, hok2, hsr2, hrep2, hlf2, hPg2, H⟩
  obtain ⟨j7, hj7⟩ : ∃ j, st = Go.Tg.havoc [15, 16, 17, 18, 19, 20, 21, 22, 23, 24, 25, 26, 27, 28, 29] j _ := ⟨st, hA.eq⟩
  subst hj7
  clear hA
  have lp2 := pgV_len (Sh.page d2 s2) A2
  cases d2 with
  | zero =>
    have hlf : (Sh.page 0 s2).leaf = true := rfl
    rw [← hlf2]
    repeat' (first | ((first | refine WL.p rfl ?_ | refine WL.u ?_); first | refine pvQ ?_ | (refine opk 8 rfl ?_; (refine ost_storeW H rfl rfl rfl rfl lQ ixQ lQ okQ ?_; clear H; intro wk H; simp only [List.set_cons_zero, List.set_cons_succ, Nat.reduceAdd] at H)) | (refine opk 9 rfl ?_; first | (refine ost_boxq H rfl ?_; clear H; intro bk wk H) | (refine ost_allocA H rfl ?_; clear H; intro bk wk H))) | refine Wc.seq ?_ | refine then_n ?_ | refine WL.nil ?_ | refine Wc.region ?_ | refine Wc.block ?_ | refine then_r ?_ | refine then_e ?_ | refine inb_e rfl ?_ | refine inb_o rfl ?_ | refine inb_n ?_ | refine inb_r ?_ | refine Wc.skip ?_ | refine Wc.exit ?_ | refine Wc.ret ?_ | refine Wc.cond_true rfl ?_ | refine Wc.cond_false rfl ?_ | (refine Wc.drawn (id := 1) 10 (by kernel_rfl) ?_) | (refine Wc.drawn (id := 3) 11 (by kernel_rfl) ?_) | (refine rgs_nil ?_; intro vs wk hE; replace H := H.ext hE; clear hE) | (refine RGs.bq (fun _ => rfl) rfl (by intro vs w hE hP; have H := H.ext hE; first | exact dbQ | fail) (fun hc => ?_) (fun hc => ?_) <;> ((try simp only [cmpP, decide_eq_true_eq, decide_eq_false_iff_not, dcd_iff, dcd_no] at hc); try exact prDQ)) | refine RGs.pq (fun _ => rfl) rfl (by intro vs w hE hP; have H := H.ext hE; first | exact dvQ | fail) ?_)
    exact fn_ret1 rfl (rv_cellA rfl rfl H.bI lQ) ⟨_, _, H.picks (L' := []) [] rfl (by decide), rfl, rfl, A2, rfl, hPg2⟩
  | succ d2 =>
    have hlf : (Sh.page (d2 + 1) s2).leaf = false := rfl
    obtain ⟨c, hc, hcm, hk1, hk2, hk3⟩ := kid_at hok2 hsr2 k
    have hki : kidP (Sh.page (d2 + 1) s2) k = kidI (s2.2.map fun c => hdK (Sh.its d2 c)) k := kidP_right (Sh.right (d2 + 1) s2 hok2 hsr2) k
    have hcs : Srt (Sh.its d2 c) := by rw [hk3, Srt.app, Srt.app] at hsr2; exact hsr2.1.2.1
    rw [lfI_succ hc] at hlf2
    clear hk1 hk2 hk3
    generalize kidI (s2.2.map fun c => hdK (Sh.its d2 c)) k = i at *
    have hilt : i < s2.2.length := (List.getElem?_eq_some_iff.1 hc).1
    have hsl : s2.2.length ≤ 8 := hok2.2.1
    have hkids : (Sh.page (d2 + 1) s2).kids.length = s2.2.length := List.length_map ..
    have hkd := fun w hs hP => tree_kid (Sh.page (d2 + 1) s2) A2 k (full w) w hs hP
    rw [hki] at hkd
    have hRk := hrep2.kid hcm
    obtain ⟨A3, hlk3, hPg3⟩ := hRk.top
    have hgm3 := fun z => getM_look z hlk3
    have lp3 := pgV_len (Sh.page d2 c) A3
    obtain ⟨b, off, L9, T9, fr, e2, eb, eg⟩ := hPg2.d.getM (by decide) (show 0 < (Sh.page (d2 + 1) s2).kids.length by omega)
    have g1 := eg (i : Int).toNat i (by omega) (by omega)
    have hkn : (Sh.page (d2 + 1) s2).kids[i]'(by omega) = Sh.num d2 c := by
      have : (s2.2.map (Sh.num d2))[i]? = some (Sh.num d2 c) := by rw [List.getElem?_map, hc]; rfl
      exact (List.getElem?_eq_some_iff.1 this).2
    rw [hkn] at g1
    have gc : L9[off + (i : Int).toNat * 1]? = some (.int .u32 ((Sh.num d2 c).toNat : Nat)) := by
      have := row_cell g1 (q := 0) (by simp [cKid])
      simpa [cKid] using this
    clear eg g1 hkn
    obtain ⟨ak, ck, al, cl, ad, cd⟩ := A2
    dsimp only at e2
    subst e2
    repeat' (first | ((first | refine WL.p rfl ?_ | refine WL.u ?_); first | (refine opk 13 rfl ?_; (refine ost_lookup0 (k := Sh.num d2 c) rfl rfl rfl (H.sat _ _ t2) ?_; rw [hgm3])) | refine pvQ ?_ | (refine opk 8 rfl ?_; (refine ost_storeW H rfl rfl rfl rfl lQ ixQ lQ okQ ?_; clear H; intro wk H; simp only [List.set_cons_zero, List.set_cons_succ, Nat.reduceAdd] at H)) | (refine opk 9 rfl ?_; first | (refine ost_boxq H rfl ?_; clear H; intro bk wk H) | (refine ost_allocA H rfl ?_; clear H; intro bk wk H))) | refine Wc.seq ?_ | refine then_n ?_ | refine WL.nil ?_ | refine Wc.region ?_ | refine Wc.block ?_ | refine then_r ?_ | refine then_e ?_ | refine inb_e rfl ?_ | refine inb_o rfl ?_ | refine inb_n ?_ | refine inb_r ?_ | refine Wc.skip ?_ | refine Wc.exit ?_ | refine Wc.ret ?_ | refine Wc.cond_true rfl ?_ | refine Wc.cond_false rfl ?_ | (refine Wc.drawn (id := 1) 10 (by kernel_rfl) ?_) | (refine Wc.drawn (id := 3) 11 (by kernel_rfl) ?_) | (refine rgs_nil ?_; intro vs wk hE; replace H := H.ext hE; clear hE) | (refine RGs.bq (fun _ => rfl) rfl (by intro vs w hE hP; have H := H.ext hE; first | exact dbQ | fail) (fun hc => ?_) (fun hc => ?_) <;> ((try simp only [cmpP, decide_eq_true_eq, decide_eq_false_iff_not, dcd_iff, dcd_no] at hc); try exact prDQ)) | refine RGs.pq (fun _ => rfl) rfl (by intro vs w hE hP; have H := H.ext hE; first | (refine opk 1 rfl ?_; (exact ost_V0d rfl (hkd _ (sat_full _) (hPg2.full H)) rfl)) | (refine opk 2 rfl ?_; first | (refine ost_load1 rfl rfl rfl (H.blk (i := 2) rfl) rfl ?_; exact ⟨Fr.refl _ _, rfl⟩) | (refine ost_loadW rfl rfl rfl (H.blk (i := 2) rfl) lp2 ?_; exact ⟨Fr.refl _ _, rfl⟩) | (refine ost_loadW rfl rfl rfl (H.blk (i := 1) rfl) lk ?_; exact ⟨Fr.refl _ _, rfl⟩)) | (refine opk 13 rfl ?_; (refine ost_lookup0 (k := Sh.num d2 c) rfl rfl rfl (H.sat _ _ t2) ?_; rw [hgm3]; exact ⟨Fr.refl _ _, rfl⟩)) | exact dvQ | fail) ?_)
    exact ⟨d2, by omega, d2, c, A3, rfl, by (repeat' (first | exact Agree.refl _ _ | exact Agree.havoc | refine Agree.upd rfl ?_ | refine Agree.hav2 rfl ?_)), (hok2.2.2 c hcm).1, hcs, hRk, hlf2, hPg3, H⟩
theorem tr_Get (tb mb rb : Nat) (T : TrM) (d : Nat) (s : Sh d) (k : KeyT) (h0 : FH) (w : World) (hs : Sat h0 w) (hT : TrF h0 tb mb rb T) (hok : Sh.Ok d s) (hsr : Srt (Sh.its d s)) (hrep : Rep h0 T d s) (hroot : T.root = Sh.num d s) :
    SpecV Try.prog 17 #[pT tb, .agg (cKey k).toArray] w (.tuple #[.agg (cLoc (getI (Sh.its d s) k).1).toArray, .int .i64 (getI (Sh.its d s) k).2]) := by
  have H := St.start hs
  have t1 := hT.t
  have lk := cKey_len k
  have hgd := fun w hs => tr_goodF tb mb rb T h0 w hs hT
  have hlf := fun w hs => tr_leaf tb mb rb T d s k h0 w hs hT hok hsr hrep hroot
  obtain ⟨i1, i2, -, -⟩ := lfI_props k d s hok hsr
  rw [getI_leaf hok hsr]
  generalize lfI d s k = l at *
  unfold SpecV
  refine calls_of Try.func17 rfl Try.ntmps17 (by simp) ?_
  repeat' (first | ((first | refine WL.p rfl ?_ | refine WL.u ?_); first | (refine opk 1 rfl ?_; first | (refine ost_V H rfl (hgd _ H.sat) rfl ?_; clear H; intro wk H) | (refine ost_Sk H rfl (hlf _ H.sat) rfl ?_; clear H; rintro vk wk hfk Lk ⟨rfl, rfl, A2, rfl, hPg2⟩ hle H; simp only [List.nil_append] at H)) | refine pvQ ?_ | (refine opk 8 rfl ?_; (refine ost_storeW H rfl rfl rfl rfl lQ ixQ lQ okQ ?_; clear H; intro wk H; simp only [List.set_cons_zero, List.set_cons_succ, Nat.reduceAdd] at H)) | (refine opk 9 rfl ?_; first | (refine ost_boxq H rfl ?_; clear H; intro bk wk H) | (refine ost_allocA H rfl ?_; clear H; intro bk wk H))) | refine Wc.seq ?_ | refine then_n ?_ | refine WL.nil ?_ | refine Wc.region ?_ | refine Wc.block ?_ | refine then_r ?_ | refine then_e ?_ | refine inb_e rfl ?_ | refine inb_o rfl ?_ | refine inb_n ?_ | refine inb_r ?_ | refine Wc.skip ?_ | refine Wc.exit ?_ | refine Wc.ret ?_ | refine Wc.cond_true rfl ?_ | refine Wc.cond_false rfl ?_)
  have hF := fun w hs => page_Find (lfP l) A2 k _ w hs hPg2
  rw [findP_lf i1 i2] at hF
  dsimp only at hF
  rcases getI_cnt i1 k with ⟨hh, hg⟩ | ⟨hh, hc, hg⟩
  · rw [hh] at hF
    rw [hg]
    repeat' (first | ((first | refine WL.p rfl ?_ | refine WL.u ?_); first | (refine opk 1 rfl ?_; (refine ost_V H rfl (hF _ H.sat) rfl ?_; clear H; intro wk H)) | (refine opk 9 rfl ?_; (refine ost_buildS rfl evP_nil rfl (rfl : _ = [_, _]) ?_)) | refine pvQ ?_ | (refine opk 8 rfl ?_; (refine ost_storeW H rfl rfl rfl rfl lQ ixQ lQ okQ ?_; clear H; intro wk H; simp only [List.set_cons_zero, List.set_cons_succ, Nat.reduceAdd] at H)) | (refine opk 9 rfl ?_; first | (refine ost_boxq H rfl ?_; clear H; intro bk wk H) | (refine ost_allocA H rfl ?_; clear H; intro bk wk H))) | refine Wc.seq ?_ | refine then_n ?_ | refine WL.nil ?_ | refine Wc.region ?_ | refine Wc.block ?_ | refine then_r ?_ | refine then_e ?_ | refine inb_e rfl ?_ | refine inb_o rfl ?_ | refine inb_n ?_ | refine inb_r ?_ | refine Wc.skip ?_ | refine Wc.exit ?_ | refine Wc.ret ?_ | refine Wc.cond_true rfl ?_ | refine Wc.cond_false rfl ?_)
    exact fn_ret2 (v2 := .int _ _) rfl (rv_cellA rfl rfl H.bI lQ) rfl ⟨rfl, H.fr⟩
  · rw [hh] at hF
    rw [hg]
    have hll : (lfP l).locs.length = l.length := List.length_map ..
    obtain ⟨b, off, L9, T9, fr, e2, eb, eg⟩ := hPg2.l.getM (by decide) (show 0 < (lfP l).locs.length by omega)
    have g1 := eg ((cntK (l.map (·.key)) k : Nat) : Int).toNat (cntK (l.map (·.key)) k) (by omega) (by omega)
    have hkn : (lfP l).locs[cntK (l.map (·.key)) k]'(by omega) = l[cntK (l.map (·.key)) k].loc := List.getElem_map ..
    rw [hkn] at g1
    clear eg hkn hg
    generalize l[cntK (l.map (·.key)) k] = x at g1 ⊢
    have lx := cLoc_len x.loc
    have ox := allOne_of (cLoc_one x.loc)
    generalize cntK (l.map (·.key)) k = c at *
    obtain ⟨ak, ck, al, cl, ad, cd⟩ := A2
    dsimp only at e2
    subst e2
    repeat' (first | ((first | refine WL.p rfl ?_ | refine WL.u ?_); first | (refine opk 1 rfl ?_; (refine ost_V H rfl (hF _ H.sat) rfl ?_; clear H; intro wk H)) | refine pvQ ?_ | (refine opk 8 rfl ?_; (refine ost_storeW H rfl rfl rfl rfl lQ ixQ lQ okQ ?_; clear H; intro wk H; simp only [List.set_cons_zero, List.set_cons_succ, Nat.reduceAdd] at H)) | (refine opk 9 rfl ?_; first | (refine ost_boxq H rfl ?_; clear H; intro bk wk H) | (refine ost_allocA H rfl ?_; clear H; intro bk wk H))) | refine Wc.seq ?_ | refine then_n ?_ | refine WL.nil ?_ | refine Wc.region ?_ | refine Wc.block ?_ | refine then_r ?_ | refine then_e ?_ | refine inb_e rfl ?_ | refine inb_o rfl ?_ | refine inb_n ?_ | refine inb_r ?_ | refine Wc.skip ?_ | refine Wc.exit ?_ | refine Wc.ret ?_ | refine Wc.cond_true rfl ?_ | refine Wc.cond_false rfl ?_)
    exact fn_ret2 (v2 := .int _ _) rfl (rv_cellA rfl rfl H.bI lQ) rfl ⟨rfl, H.fr⟩
end Go.Tg

set_option linter.unusedVariables false
set_option linter.unusedSimpArgs false
set_option maxRecDepth 100000
set_option maxHeartbeats 4000000
namespace Go.Tg
open Go Go.Proofs
def Sh.nums (d : Nat) (s : Sh d) : List UInt32 := (Sh.nodes d s).map (·.1)
theorem Sh.nums_succ (d : Nat) (s : Sh (d + 1)) : Sh.nums (d + 1) s = Sh.num (d + 1) s :: (s.2.map (Sh.nums d)).flatten := by
  show ((s.1, Sh.page (d + 1) s) :: (s.2.map (Sh.nodes d)).flatten).map (·.1) = _
  rw [List.map_cons, List.map_flatten, List.map_map]; rfl
theorem rows1 (l : List UInt32) : ∀ r, r ∈ l.map cKid → r.length = 1 := by intro r hr; obtain ⟨x, -, rfl⟩ := List.mem_map.1 hr; rfl
theorem St.ownSlF {ws w : World} {S : List Nat} {h0 h : FH} {L : List HA} (H : St ws S h0 h L w) {i : Nat} {a : Option Addr} {n c : Nat} {e : TypeId} {sz : Nat} {rows : List (List Value)} (hi : L[i]? = some (ownR (.slice a n c) e sz rows)) (hr : ∀ r, r ∈ rows → r.length = sz) : Sl (full w) sz a c rows := by
  obtain ⟨a', c', h1, h2⟩ := H.ownSl hi hr
  injection h1 with e1 _ e3
  subst e1; subst e3; exact h2
theorem tr_below (tb mb rb : Nat) (T : TrM) (h0 : FH) (hT : TrF h0 tb mb rb T) : ∀ (d : Nat) (s : Sh d) (w : World), Sat h0 w → Sh.Ok d s → Rep h0 T d s → (Sh.nums d s).length ≤ 1000000 →
    Spec Try.prog 37 #[pT tb, .int .u32 ((Sh.num d s).toNat : Nat)] w [] h0 (fun v h' L' => h' = h0 ∧ ∃ a c, v = .slice a (Sh.nums d s).length c ∧ L' = [ownR (.slice a (Sh.nums d s).length c) 24 1 ((Sh.nums d s).map cKid)]) := by
  intro d
  induction d with
  | zero =>
    intro s w hs hok hrep hl
    obtain ⟨A1, hlk, hPg⟩ := hrep.top
    obtain ⟨n, its⟩ := s
    have hgm : ∀ z, getM z T.pages n = .agg (pgV (lfP its) A1).toArray := fun z => getM_look z hlk
    have t1 := hT.t
    have t2 := hT.m
    have H := St.start hs
    unfold Spec
    refine calls_of Try.func37 rfl Try.ntmps37 (by simp) ?_
    repeat' (first | ((first | refine WL.p rfl ?_ | refine WL.u ?_); first | (refine opk 13 rfl ?_; (refine ost_lookup0 (k := n) rfl rfl rfl (H.sat _ _ t2) ?_; rw [hgm])) | refine pvQ ?_ | (refine opk 3 rfl ?_; (refine ost_cmp rfl rfl rfl rfl (fun hc => ?_) (fun hc => ?_) <;> (simp only [cmpP] at hc; try exact prIQ))) | (refine opk 4 rfl ?_; (refine ost_cmp rfl rfl rfl rfl (fun hc => ?_) (fun hc => ?_) <;> (simp only [cmpP] at hc; try exact prIQ))) | (refine opk 9 rfl ?_; (refine ost_build1 H rfl rfl rfl evQ lsQ rfl ?_; clear H; intro bk wk H))) | refine Wc.seq ?_ | refine then_n ?_ | refine WL.nil ?_ | refine Wc.region ?_ | refine Wc.block ?_ | refine then_r ?_ | refine then_e ?_ | refine inb_e rfl ?_ | refine inb_o rfl ?_ | refine inb_n ?_ | refine inb_r ?_ | refine Wc.skip ?_ | refine Wc.exit ?_ | refine Wc.ret ?_ | refine Wc.cond_true rfl ?_ | refine Wc.cond_false rfl ?_)
    refine Wc.loopE (fun s0 m st w' => Agree [5, 7, 18, 19, 20, 21, 22, 23, 24, 25, 26, 27] st s0 ∧ st 18 = .int .i64 0 ∧ st 5 = .slice (some ⟨bk, 0, none⟩) 1 1 ∧ St w [] h0 h0 [ownR (.slice (some ⟨bk, 0, none⟩) 1 1) 24 1 [cKid n]] w') 0 ⟨Agree.refl _ _, rfl, rfl, H⟩ ?_
    clear H
    rintro m st w' ⟨hA, e1, e2, H⟩
    obtain ⟨j9, rfl⟩ := hA.env2 e1 e2
    clear hA e1 e2
    repeat' (first | ((first | refine WL.p rfl ?_ | refine WL.u ?_); first | refine pvQ ?_ | (refine opk 3 rfl ?_; (refine ost_cmp rfl rfl rfl rfl (fun hc => ?_) (fun hc => ?_) <;> (simp only [cmpP] at hc; try exact prIQ))) | (refine opk 4 rfl ?_; (refine ost_cmp rfl rfl rfl rfl (fun hc => ?_) (fun hc => ?_) <;> (simp only [cmpP] at hc; try exact prIQ))) | (refine opk 9 rfl ?_; (refine ost_build1 H rfl rfl rfl evQ lsQ rfl ?_; clear H; intro bk wk H))) | refine Wc.seq ?_ | refine then_n ?_ | refine WL.nil ?_ | refine Wc.region ?_ | refine Wc.block ?_ | refine then_r ?_ | refine then_e ?_ | refine inb_e rfl ?_ | refine inb_o rfl ?_ | refine inb_n ?_ | refine inb_r ?_ | refine Wc.skip ?_ | refine Wc.exit ?_ | refine Wc.ret ?_ | refine Wc.cond_true rfl ?_ | refine Wc.cond_false rfl ?_)
    all_goals first | exact absurd (show (0 : Int) < 0 from hc) (by decide) | exact fn_ret1 (v := .slice _ _ _) rfl rfl ⟨_, _, H, rfl, _, _, rfl, rfl⟩
  | succ d ih =>
    intro s w hs hok hrep hl
    obtain ⟨A1, hlk, hPg⟩ := hrep.top
    have hgm := fun z => getM_look z hlk
    have t1 := hT.t
    have t2 := hT.m
    have hdl : (Sh.page (d + 1) s).kids.length = s.2.length := List.length_map ..
    have hsl : s.2.length ≤ 8 := hok.2.1
    rw [Sh.nums_succ] at hl ⊢
    have H := St.start hs
    unfold Spec
    refine calls_of Try.func37 rfl Try.ntmps37 (by simp) ?_
    repeat' (first | ((first | refine WL.p rfl ?_ | refine WL.u ?_); first | (refine opk 13 rfl ?_; (refine ost_lookup0 (k := Sh.num (d + 1) s) rfl rfl rfl (H.sat _ _ t2) ?_; rw [hgm])) | refine pvQ ?_ | (refine opk 3 rfl ?_; (refine ost_cmp rfl rfl rfl rfl (fun hc => ?_) (fun hc => ?_) <;> (simp only [cmpP] at hc; try exact prIQ))) | (refine opk 4 rfl ?_; (refine ost_cmp rfl rfl rfl rfl (fun hc => ?_) (fun hc => ?_) <;> (simp only [cmpP] at hc; try exact prIQ))) | (refine opk 9 rfl ?_; (refine ost_build1 H rfl rfl rfl evQ lsQ rfl ?_; clear H; intro bk wk H))) | refine Wc.seq ?_ | refine then_n ?_ | refine WL.nil ?_ | refine Wc.region ?_ | refine Wc.block ?_ | refine then_r ?_ | refine then_e ?_ | refine inb_e rfl ?_ | refine inb_o rfl ?_ | refine inb_n ?_ | refine inb_r ?_ | refine Wc.skip ?_ | refine Wc.exit ?_ | refine Wc.ret ?_ | refine Wc.cond_true rfl ?_ | refine Wc.cond_false rfl ?_)
    rw [hdl]
    obtain ⟨Nj, hNj⟩ : ∃ Nj : Nat → List UInt32, ∀ j, Nj j = Sh.num (d + 1) s :: ((s.2.take j).map (Sh.nums d)).flatten := ⟨_, fun _ => rfl⟩
    have hN0 : [Sh.num (d + 1) s] = Nj 0 := by rw [hNj, List.take_zero]; rfl
    have hNn : Sh.num (d + 1) s :: (s.2.map (Sh.nums d)).flatten = Nj s.2.length := by rw [hNj, List.take_length]
    have hNl : ∀ j, (Nj j).length ≤ 1000000 := fun j => by
      refine Nat.le_trans ?_ hl
      rw [hNj, List.length_cons, List.length_cons]
      refine Nat.succ_le_succ ?_
      rw [← List.take_append_drop j s.2, List.map_append, List.flatten_append, List.length_append, List.take_append_drop]
      exact Nat.le_add_right _ _
    have hNs : ∀ j c, (s.2 : List (Sh d))[j]? = some c → Nj j ++ Sh.nums d c = Nj (j + 1) := fun j c hc => by
      rw [hNj, hNj, List.take_add_one, hc, List.map_append, List.flatten_append]
      show _ = _ :: (_ ++ [Sh.nums d c].flatten)
      rw [List.flatten_singleton]; rfl
    rw [hNn]
    have hR : St w [] h0 h0 [ownR (.slice (some ⟨bk, 0, none⟩) (Nj 0).length 1) 24 1 ((Nj 0).map cKid)] wk := by rw [← hN0]; exact H
    have hv : Value.slice (some (⟨bk, 0, none⟩ : Addr)) 1 1 = .slice (some ⟨bk, 0, none⟩) (Nj 0).length 1 := by rw [← hN0]; rfl
    clear H hNj hNn hl
    refine Wc.loopE (fun s0 m st w' => ∃ (j : Nat) (a : Option Addr) (c : Nat), m = s.2.length - j ∧ j ≤ s.2.length ∧ Agree [5, 7, 18, 19, 20, 21, 22, 23, 24, 25, 26, 27] st s0 ∧ st 18 = .int .i64 j ∧ st 5 = .slice a (Nj j).length c ∧ St w [] h0 h0 [ownR (.slice a (Nj j).length c) 24 1 ((Nj j).map cKid)] w') s.2.length ⟨0, _, _, rfl, by omega, Agree.refl _ _, rfl, hv, hR⟩ ?_
    clear hR hv
    rintro m st w' ⟨j, a, c, rfl, hj, hA, e1, e2, H⟩
    obtain ⟨j9, rfl⟩ := hA.env2 e1 e2
    clear hA e1 e2
    by_cases hlt : j < s.2.length
    · obtain ⟨cc, hc⟩ : ∃ c, (s.2 : List (Sh d))[j]? = some c := ⟨_, List.getElem?_eq_getElem hlt⟩
      have hcm : cc ∈ s.2 := List.mem_of_getElem? hc
      have hns := hNs j cc hc
      have hl1 := hNl j
      have hl2 := hNl (j + 1)
      have hl3 : (Nj j).length + (Sh.nums d cc).length = (Nj (j + 1)).length := by rw [← hns, List.length_append]
      obtain ⟨b', off', L9', T9', fr', e2', eb', eg⟩ := hPg.d.getM (by decide) (show 0 < (Sh.page (d + 1) s).kids.length by omega)
      have q2 := eg (j : Int).toNat j (by omega) (by omega)
      have hkn : (Sh.page (d + 1) s).kids[j]'(by omega) = Sh.num d cc := by
        have : (s.2.map (Sh.num d))[j]? = some (Sh.num d cc) := by rw [List.getElem?_map, hc]; rfl
        exact (List.getElem?_eq_some_iff.1 this).2
      rw [hkn] at q2
      have gc : L9'[off' + (j : Int).toNat * 1]? = some (.int .u32 ((Sh.num d cc).toNat : Nat)) := by
        have := row_cell q2 (q := 0) (by simp [cKid])
        simpa [cKid] using this
      clear eg q2 hkn hNs hNl hN0
      obtain ⟨ak, ck, al, cl, ad, cd⟩ := A1
      dsimp only at e2'
      subst e2'
      have ihc := fun w hs => ih cc w hs (hok.2.2 cc hcm).1 (hrep.kid hcm) (by omega)
      have hml : ((Nj j).map cKid).length + ((Sh.nums d cc).map cKid).length ≤ 1000000 := by rw [List.length_map, List.length_map]; omega
      have hone := ones_kid (Sh.nums d cc)
      generalize hNum : Sh.nums d cc = NN at *
      generalize Nj j = N0 at *
      repeat' (first | ((first | refine WL.p rfl ?_ | refine WL.u ?_); first | (refine opk 1 rfl ?_; (refine ost_Sk H rfl (ihc _ H.sat) rfl ?_; clear H; rintro vk wk hfk Lk ⟨e7, a7, c7, rfl, rfl⟩ hle H; simp only [List.cons_append, List.nil_append] at H)) | refine pvQ ?_ | (refine opk 3 rfl ?_; (refine ost_cmp rfl rfl rfl rfl (fun hc => ?_) (fun hc => ?_) <;> (simp only [cmpP] at hc; try exact prIQ))) | (refine opk 4 rfl ?_; (refine ost_cmp rfl rfl rfl rfl (fun hc => ?_) (fun hc => ?_) <;> (simp only [cmpP] at hc; try exact prIQ))) | (refine opk 9 rfl ?_; (refine ost_build1 H rfl rfl rfl evQ lsQ rfl ?_; clear H; intro bk wk H))) | refine Wc.seq ?_ | refine then_n ?_ | refine WL.nil ?_ | refine Wc.region ?_ | refine Wc.block ?_ | refine then_r ?_ | refine then_e ?_ | refine inb_e rfl ?_ | refine inb_o rfl ?_ | refine inb_n ?_ | refine inb_r ?_ | refine Wc.skip ?_ | refine Wc.exit ?_ | refine Wc.ret ?_ | refine Wc.cond_true rfl ?_ | refine Wc.cond_false rfl ?_)
      subst e7
      have hnl : NN.length = (NN.map cKid).length := (List.length_map ..).symm
      have em : N0.map cKid ++ NN.map cKid = (Nj (j + 1)).map cKid := by rw [← hns, List.map_append]
      have el : (N0.map cKid ++ NN.map cKid).length = (Nj (j + 1)).length := by rw [em, List.length_map]
      clear ihc hl3 hNum
      rw [hnl] at H ⊢
      repeat' (first | ((first | refine WL.p rfl ?_ | refine WL.u ?_); first | (refine opk 1 rfl ?_; (refine ost_appRs (i := 1) (sz := 1) (rows := N0.map cKid) (more := NN.map cKid) H rfl rfl rfl rfl (H.ownSlF (i := 0) rfl (rows1 _)) (by rfl) (by decide) hone rfl (by omega) ?_; clear H; intro aa ca wk H; simp only [List.set_cons_zero, List.set_cons_succ] at H)) | refine pvQ ?_ | (refine opk 3 rfl ?_; (refine ost_cmp rfl rfl rfl rfl (fun hc => ?_) (fun hc => ?_) <;> (simp only [cmpP] at hc; try exact prIQ))) | (refine opk 4 rfl ?_; (refine ost_cmp rfl rfl rfl rfl (fun hc => ?_) (fun hc => ?_) <;> (simp only [cmpP] at hc; try exact prIQ))) | (refine opk 9 rfl ?_; (refine ost_build1 H rfl rfl rfl evQ lsQ rfl ?_; clear H; intro bk wk H))) | refine Wc.seq ?_ | refine then_n ?_ | refine WL.nil ?_ | refine Wc.region ?_ | refine Wc.block ?_ | refine then_r ?_ | refine then_e ?_ | refine inb_e rfl ?_ | refine inb_o rfl ?_ | refine inb_n ?_ | refine inb_r ?_ | refine Wc.skip ?_ | refine Wc.exit ?_ | refine Wc.ret ?_ | refine Wc.cond_true rfl ?_ | refine Wc.cond_false rfl ?_)
      rw [el, em] at H
      exact ⟨s.2.length - (j + 1), by omega, j + 1, aa, ca, rfl, by omega, by (repeat' (first | exact Agree.refl _ _ | exact Agree.havoc | refine Agree.upd rfl ?_ | refine Agree.hav2 rfl ?_)), rfl, congrArg (fun n => Value.slice aa n ca) el, H.picks (L' := [_]) [1] (by simp only [ownR, List.length_map]; rfl) (by decide)⟩
    · obtain rfl : j = s.2.length := by omega
      repeat' (first | ((first | refine WL.p rfl ?_ | refine WL.u ?_); first | refine pvQ ?_ | (refine opk 3 rfl ?_; (refine ost_cmp rfl rfl rfl rfl (fun hc => ?_) (fun hc => ?_) <;> (simp only [cmpP] at hc; try exact prIQ))) | (refine opk 4 rfl ?_; (refine ost_cmp rfl rfl rfl rfl (fun hc => ?_) (fun hc => ?_) <;> (simp only [cmpP] at hc; try exact prIQ))) | (refine opk 9 rfl ?_; (refine ost_build1 H rfl rfl rfl evQ lsQ rfl ?_; clear H; intro bk wk H))) | refine Wc.seq ?_ | refine then_n ?_ | refine WL.nil ?_ | refine Wc.region ?_ | refine Wc.block ?_ | refine then_r ?_ | refine then_e ?_ | refine inb_e rfl ?_ | refine inb_o rfl ?_ | refine inb_n ?_ | refine inb_r ?_ | refine Wc.skip ?_ | refine Wc.exit ?_ | refine Wc.ret ?_ | refine Wc.cond_true rfl ?_ | refine Wc.cond_false rfl ?_)
      exact fn_ret1 (v := .slice _ _ _) rfl rfl ⟨_, _, H, rfl, _, _, rfl, rfl⟩
end Go.Tg

