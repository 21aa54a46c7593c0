/- Contracts of Go functions that the laws reach: what each call answers and leaves in memory, for all arguments within the bounds that each theorem names. -/
import Derived.Test.YtbfilhaigbebpaaInst
import Derived.Test.YtbfilhaigbebpaaAuto
import Derived.Test.YtbfilhaigbebpaaY2
import Derived.Test.YtbfilhaigbebpaaDrwF
import Derived.Test.YtbfilhaigbebpaaX4
import Derived.Test.YtbfilhaigbebpaaCpyN
set_option linter.unusedVariables false
set_option linter.unusedSimpArgs false
set_option maxRecDepth 100000
set_option maxHeartbeats 4000000
namespace Go.Tg
open Go Go.Proofs
def cmK (i : Nat) (ks : List KeyT) : Cm := ⟨i, 999, [], fun v L' => ∃ a c, v = .slice a ks.length c ∧ L' = [ownR (.slice a ks.length c) 42 3 (ks.map cKey)], fun _ _ => True⟩
def cmA (i j : Nat) : Cm := ⟨i, j, [], fun v L' => ∃ b, v = pT b ∧ L' = [.blk b (.cells [Value.bool false, .slice none 0 0, .slice none 0 0, .slice none 0 0].toArray 85 (0, 0))], fun _ _ => True⟩
def partP (p : PageT) (f t : Nat) : PageT := ⟨p.leaf, (p.keys.take t).drop f, if p.leaf = true then (p.locs.take t).drop f else [], if p.leaf = true then [] else (p.kids.take t).drop f⟩
theorem tree_part (p : PageT) (A : PAd) (ff tt : Nat) (h0 : FH) (w : World) (hs : Sat h0 w) (hPg : PgR h0 p A) (hft : ff ≤ tt) (htk : tt ≤ p.keys.length) (hb1 : p.keys.length ≤ 1000000) (hsl : p.leaf = true → p.locs.length = p.keys.length) (hsd : p.leaf = false → p.kids.length = p.keys.length) :
    Spec Try.prog 66 #[.agg (pgV p A).toArray, .int .i64 (ff : Int), .int .i64 (tt : Int)] w [] h0 (fun v h' L' => h' = h0 ∧ ∃ A', v = .agg (pgV (partP p ff tt) A').toArray ∧ L' = pgO (partP p ff tt) A') := by
  have H := St.start hs
  have lp := pgV_len p A
  have hlen : ((p.keys.take tt).drop ff).length = tt - ff := by rw [List.length_drop, List.length_take]; omega
  have hck := hPg.k.lenM
  have hSl : Sl h0 3 (if A.ck = ff then A.ak else A.ak.map (·.add (ff * 3))) (A.ck - ff) (((p.keys.take tt).drop ff).map cKey) := by
    have := (hPg.k.take tt).drop (n := ff) (by rw [← List.map_take, List.length_map, List.length_take]; omega)
    rw [← List.map_take, ← List.map_drop] at this; exact this
  unfold Spec
  refine calls_of Try.func66 rfl Try.ntmps66 (by simp) ?_
  repeat' (first | ((first | refine WL.p rfl ?_ | refine WL.u ?_); first | refine pvQ ?_ | (refine opk 8 rfl ?_; first | (refine ost_store1 H rfl rfl vlQ gvQ ixQ (by first | decide | (simp; omega) | (simp; done) | omega) ?_; clear H; intro wk H; simp only [List.set_cons_zero, List.set_cons_succ, Nat.reduceAdd] at H) | (refine ost_storeW H rfl rfl rfl rfl lQ ixQ lQ okQ ?_; clear H; intro wk H; simp only [List.set_cons_zero, List.set_cons_succ, Nat.reduceAdd] at H)) | (refine opk 9 rfl ?_; first | (refine ost_boxq H rfl ?_; clear H; intro bk wk H) | (refine ost_allocA H rfl ?_; clear H; intro bk wk H))) | refine Wc.seq ?_ | refine then_n ?_ | refine WL.nil ?_ | refine Wc.region ?_ | refine Wc.block ?_ | refine then_r ?_ | refine then_e ?_ | refine inb_e rfl ?_ | refine inb_o rfl ?_ | refine inb_n ?_ | refine inb_r ?_ | refine Wc.skip ?_ | refine Wc.exit ?_ | refine Wc.ret ?_ | refine Wc.cond_true rfl ?_ | refine Wc.cond_false rfl ?_)
  refine Wc.drawC (id := 1) 10 [cmK 7 ((p.keys.take tt).drop ff), cmA 9 998] [.blk _ _, .blk _ _] [(7, 999), (9, 998)] H (by kernel_rfl) rfl (by kernel_rfl) (by first | exact List.Perm.refl _ | (simp [inpC, cmK, cmA]; done)) ?_
  refine RGc.p rfl rfl (by intro vs w T hP H; simp only [List.cons_append, List.nil_append] at H; exact dvQ) ?_
  refine RGc.p rfl rfl (by intro vs w T hP H; simp only [List.cons_append, List.nil_append] at H; exact dvQ) ?_
  refine RGc.p rfl rfl (by intro vs w T hP H; simp only [List.cons_append, List.nil_append] at H; exact dvQ) ?_
  refine RGc.p rfl rfl (by intro vs w T hP H; simp only [List.cons_append, List.nil_append] at H; exact dvQ) ?_
  refine RGc.p rfl rfl (by intro vs w T hP H; simp only [List.cons_append, List.nil_append] at H; exact dvQ) ?_
  refine RGc.p rfl rfl (by intro vs w T hP H; simp only [List.cons_append, List.nil_append] at H; exact dvQ) ?_
  refine RGc.p rfl rfl (by intro vs w T hP H; simp only [List.cons_append, List.nil_append] at H; exact dvQ) ?_
  refine RGc.m (m := (cmK 7 ((p.keys.take tt).drop ff))) rfl (by intro vs w T hP H; simp only [List.cons_append, List.nil_append] at H; refine ost_C H rfl (cloneK _ _ _ _ ((p.keys.take tt).drop ff) _ (sat_full _) (by rw [hlen]; rfl) (hSl.mono H.sat.le) (by omega)) rfl ?_; rintro vk wk hfk Lk ⟨rfl, a9, c9, rfl, rfl⟩ H2; exact ⟨[_], ⟨a9, c9, by rw [hlen]; rfl, by rw [hlen]; rfl⟩, H2⟩) ?_
  refine RGc.v (fun v => .agg #[.bool p.leaf, v, .slice none 0 0, .slice none 0 0]) 7 [] (by kernel_rfl) rfl rfl rfl (by intro vs w T hP H; obtain ⟨L9, ⟨a9, c9, e9, -⟩, -⟩ := hP 7 _ ⟨[], by kernel_rfl⟩ rfl; have e8 : vs (0 + 1 + 1 + 1 + 1 + 1 + 1 + 1) = _ := e9; have e7 : vs 7 = _ := e9; refine ost_buildS (l := [Value.bool p.leaf, .slice a9 ((p.keys.take tt).drop ff).length c9, .slice none 0 0, .slice none 0 0]) rfl (evP_cons (rfl : _ = Value.bool _) (evP_cons (e8 : _ = Value.slice _ _ _) evP_nil)) (by rfl) (by rfl) ?_; exact ⟨Fr.refl _ _, by rw [e7]⟩) ?_
  refine RGc.m (m := cmA 9 998) rfl (by intro vs w T hP H; refine ost_allocA H rfl ?_; intro bk wk H2; exact ⟨[_], ⟨_, rfl, rfl⟩, H2⟩) ?_
  refine RGc.nil ?_
  intro vs wk outs HM hR
  obtain ⟨a7, c7, e7, o7⟩ := (hR (cmK 7 ((p.keys.take tt).drop ff)) (by simp)).2 (by simp [cmK])
  obtain ⟨b9, e9, o9⟩ := (hR (cmA 9 998) (by simp)).2 (by simp [cmA])
  have e7' : vs 7 = _ := e7
  have e9' : vs (0 + 1 + 1 + 1 + 1 + 1 + 1 + 1 + 1 + 1) = pT b9 := e9
  have o7' : outs 7 = _ := o7
  have o9' : outs 9 = _ := o9
  simp only [outsC, cmK, cmA, o7', o9', List.cons_append, List.nil_append, List.append_nil] at HM
  dsimp only
  rw [e7', e9']
  replace H := HM
  clear HM hR e7 e9 e7' e9' o7 o9 o7' o9'
  unfold partP
  obtain ⟨lf, ks, ls, ds⟩ := p
  cases lf with
  | true =>
    have hl : ls.length = ks.length := hsl rfl
    dsimp only at *
    have hll : ((ls.take tt).drop ff).length = tt - ff := by rw [List.length_drop, List.length_take]; omega
    have hcl : ls.length ≤ A.cl ∧ A.cl ≤ 9223372036854775807 := hPg.l.lenM
    have hPl : Sl h0 2 A.al A.cl (ls.map cLoc) := hPg.l
    have hS2 : Sl h0 2 (if A.cl = ff then A.al else A.al.map (·.add (ff * 2))) (A.cl - ff) (((ls.take tt).drop ff).map cLoc) := by
      have := (hPl.take tt).drop (n := ff) (by rw [← List.map_take, List.length_map, List.length_take]; omega)
      rw [← List.map_take, ← List.map_drop] at this; exact this
    have e9 : (tt : Int).toNat - (ff : Int).toNat = ((ls.take tt).drop ff).length := hll.symm
    repeat' (first | ((first | refine WL.p rfl ?_ | refine WL.u ?_); first | (refine opk 1 rfl ?_; (refine ost_C H rfl (cloneL _ _ _ _ ((ls.take tt).drop ff) _ (sat_full _) (by rw [hll]; rfl) (hS2.mono H.sat.le) (by omega)) rfl ?_; clear H; rintro vk wk hfk Lk ⟨rfl, a8, c8, rfl, rfl⟩ H; simp only [List.cons_append, List.nil_append] at H)) | refine pvQ ?_ | (refine opk 8 rfl ?_; first | (refine ost_store1 H rfl rfl vlQ gvQ ixQ (by first | decide | (simp; omega) | (simp; done) | omega) ?_; clear H; intro wk H; simp only [List.set_cons_zero, List.set_cons_succ, Nat.reduceAdd] at H) | (refine ost_storeW H rfl rfl rfl rfl lQ ixQ lQ okQ ?_; clear H; intro wk H; simp only [List.set_cons_zero, List.set_cons_succ, Nat.reduceAdd] at H)) | (refine opk 9 rfl ?_; first | (refine ost_boxq H rfl ?_; clear H; intro bk wk H) | (refine ost_allocA H rfl ?_; clear H; intro bk wk H))) | refine Wc.seq ?_ | refine then_n ?_ | refine WL.nil ?_ | refine Wc.region ?_ | refine Wc.block ?_ | refine then_r ?_ | refine then_e ?_ | refine inb_e rfl ?_ | refine inb_o rfl ?_ | refine inb_n ?_ | refine inb_r ?_ | refine Wc.skip ?_ | refine Wc.exit ?_ | refine Wc.ret ?_ | refine Wc.cond_true rfl ?_ | refine Wc.cond_false rfl ?_ | (refine Wc.drawn (id := 1) 10 (by kernel_rfl) ?_) | (refine rgs_nil ?_; intro vs wk hE; replace H := H.ext hE; clear hE) | (refine RGs.bq (fun _ => rfl) rfl (by intro vs w hE hP; have H := H.ext hE; first | exact dbQ | fail) (fun hc => ?_) (fun hc => ?_) <;> ((try simp only [cmpP, decide_eq_true_eq, decide_eq_false_iff_not, dcd_iff, dcd_no] at hc); try exact prDQ)) | refine RGs.pq (fun _ => rfl) rfl (by intro vs w hE hP; have H := H.ext hE; first | exact dvQ | fail) ?_)
    rw [e9] at H
    exact fn_ret1 rfl (rv_cellA rfl rfl H.bI lQ) ⟨_, _, (H.nilOwn 24 1).picks (L' := [_, _, _]) [4, 1, 0] rfl (by decide), rfl, ⟨a7, c7, a8, c8, none, 0⟩, rfl, rfl⟩
  | false =>
    have hl : ds.length = ks.length := hsd rfl
    dsimp only at *
    have hll : ((ds.take tt).drop ff).length = tt - ff := by rw [List.length_drop, List.length_take]; omega
    have hcl : ds.length ≤ A.cd ∧ A.cd ≤ 9223372036854775807 := hPg.d.lenM
    have hPl : Sl h0 1 A.ad A.cd (ds.map cKid) := hPg.d
    have hS2 : Sl h0 1 (if A.cd = ff then A.ad else A.ad.map (·.add (ff * 1))) (A.cd - ff) (((ds.take tt).drop ff).map cKid) := by
      have := (hPl.take tt).drop (n := ff) (by rw [← List.map_take, List.length_map, List.length_take]; omega)
      rw [← List.map_take, ← List.map_drop] at this; exact this
    have e9 : (tt : Int).toNat - (ff : Int).toNat = ((ds.take tt).drop ff).length := hll.symm
    repeat' (first | ((first | refine WL.p rfl ?_ | refine WL.u ?_); first | (refine opk 1 rfl ?_; (refine ost_C H rfl (cloneD _ _ _ _ ((ds.take tt).drop ff) _ (sat_full _) (by rw [hll]; rfl) (hS2.mono H.sat.le) (by omega)) rfl ?_; clear H; rintro vk wk hfk Lk ⟨rfl, a8, c8, rfl, rfl⟩ H; simp only [List.cons_append, List.nil_append] at H)) | refine pvQ ?_ | (refine opk 8 rfl ?_; first | (refine ost_store1 H rfl rfl vlQ gvQ ixQ (by first | decide | (simp; omega) | (simp; done) | omega) ?_; clear H; intro wk H; simp only [List.set_cons_zero, List.set_cons_succ, Nat.reduceAdd] at H) | (refine ost_storeW H rfl rfl rfl rfl lQ ixQ lQ okQ ?_; clear H; intro wk H; simp only [List.set_cons_zero, List.set_cons_succ, Nat.reduceAdd] at H)) | (refine opk 9 rfl ?_; first | (refine ost_boxq H rfl ?_; clear H; intro bk wk H) | (refine ost_allocA H rfl ?_; clear H; intro bk wk H))) | refine Wc.seq ?_ | refine then_n ?_ | refine WL.nil ?_ | refine Wc.region ?_ | refine Wc.block ?_ | refine then_r ?_ | refine then_e ?_ | refine inb_e rfl ?_ | refine inb_o rfl ?_ | refine inb_n ?_ | refine inb_r ?_ | refine Wc.skip ?_ | refine Wc.exit ?_ | refine Wc.ret ?_ | refine Wc.cond_true rfl ?_ | refine Wc.cond_false rfl ?_ | (refine Wc.drawn (id := 1) 10 (by kernel_rfl) ?_) | (refine rgs_nil ?_; intro vs wk hE; replace H := H.ext hE; clear hE) | (refine RGs.bq (fun _ => rfl) rfl (by intro vs w hE hP; have H := H.ext hE; first | exact dbQ | fail) (fun hc => ?_) (fun hc => ?_) <;> ((try simp only [cmpP, decide_eq_true_eq, decide_eq_false_iff_not, dcd_iff, dcd_no] at hc); try exact prDQ)) | refine RGs.pq (fun _ => rfl) rfl (by intro vs w hE hP; have H := H.ext hE; first | exact dvQ | fail) ?_)
    rw [e9] at H
    exact fn_ret1 rfl (rv_cellA rfl rfl H.bI lQ) ⟨_, _, (H.nilOwn 48 2).picks (L' := [_, _, _]) [4, 0, 1] rfl (by decide), rfl, ⟨a7, c7, none, 0, a8, c8⟩, rfl, rfl⟩
end Go.Tg

set_option linter.unusedVariables false
set_option linter.unusedSimpArgs false
set_option maxRecDepth 100000
set_option maxHeartbeats 4000000
namespace Go.Tg
open Go Go.Proofs
structure RefT where
  key : KeyT
  n : UInt32
def cRef (r : RefT) : List Value := cKey r.key ++ [.int .u32 r.n.toNat]
theorem cRef_len (r : RefT) : (cRef r).length = 4 := rfl
def hd0 (l : List KeyT) : KeyT := match l with | [] => ⟨0, ⟨0, 0⟩⟩ | k :: _ => k
theorem hd0_map (l : List ItemT) : hd0 (l.map (·.key)) = hdK l := by cases l <;> rfl
def sprdP (p : PageT) : List PageT := if p.keys.length = 0 then [] else if p.keys.length ≤ 8 then [p] else [partP p 0 (p.keys.length / 2), partP p (p.keys.length / 2) p.keys.length]
def refsP (nx : UInt32) : List PageT → List RefT
  | [] => []
  | q :: l => ⟨hd0 q.keys, nx + 1⟩ :: refsP (nx + 1) l
structure Laid (h : FH) (T T' : TrM) (ps : List PageT) : Prop where
  gr : Grown T T'
  nx : T'.next.toNat = T.next.toNat + ps.length
  has : ∀ (i : Nat) (q : PageT) (r : RefT), ps[i]? = some q → (refsP T.next ps)[i]? = some r → Has h T' r.n q
theorem hd_get {ks : List KeyT} (h : 0 < ks.length) : ks[0] = hd0 ks := by
  cases ks with
  | nil => simp at h
  | cons k ks => rfl
theorem tr_spread (tb mb rb : Nat) (T : TrM) (p : PageT) (A : PAd) (g : FH) (w : World) (hPg : PgR g p A) (hb1 : p.keys.length ≤ 1000) (hsl : p.leaf = true → p.locs.length = p.keys.length) (hsd : p.leaf = false → p.kids.length = p.keys.length)
    (hf : Fresh T) (hn : T.next.toNat + 2 < 4294967296) (HO : St w (trO tb mb rb T).fp g g [trO tb mb rb T] w) :
    Spec Try.prog 50 #[pT tb, .agg (pgV p A).toArray] w (trO tb mb rb T).fp g (fun v h' L' => ∃ T' a c, v = .slice a (sprdP p).length c ∧ L' = [trO tb mb rb T'] ∧ Laid h' T T' (sprdP p) ∧ Sl h' 4 a c ((refsP T.next (sprdP p)).map cRef)) := by
  have H := HO
  generalize hF9 : (trO tb mb rb T).fp = F9 at H ⊢
  have lp := pgV_len p A
  unfold Spec
  refine calls_of Try.func50 rfl Try.ntmps50 (by simp) ?_
  by_cases h0 : p.keys.length = 0
  · have hs : sprdP p = [] := if_pos h0
    rw [hs]
    repeat' (first | ((first | refine WL.p rfl ?_ | refine WL.u ?_); first | refine pvQ ?_ | (refine opk 3 rfl ?_; (refine ost_cmp rfl rfl rfl rfl (fun hc => ?_) (fun hc => ?_) <;> (simp only [cmpP] at hc; try exact prIQ))) | (refine opk 4 rfl ?_; (refine ost_cmp rfl rfl rfl rfl (fun hc => ?_) (fun hc => ?_) <;> (simp only [cmpP] at hc; try exact prIQ))) | (refine opk 8 rfl ?_; (refine ost_storeW H rfl rfl rfl rfl lQ ixQ lQ okQ ?_; clear H; intro wk H; simp only [List.set_cons_zero, List.set_cons_succ, Nat.reduceAdd] at H)) | (refine opk 9 rfl ?_; first | (refine ost_boxq H rfl ?_; clear H; intro bk wk H) | (refine ost_allocA H rfl ?_; clear H; intro bk wk H) | (refine ost_build1 H rfl rfl rfl evQ lsQ rfl ?_; clear H; intro bk wk H))) | refine Wc.seq ?_ | refine then_n ?_ | refine WL.nil ?_ | refine Wc.region ?_ | refine Wc.block ?_ | refine then_r ?_ | refine then_e ?_ | refine inb_e rfl ?_ | refine inb_o rfl ?_ | refine inb_n ?_ | refine inb_r ?_ | refine Wc.skip ?_ | refine Wc.exit ?_ | refine Wc.ret ?_ | refine Wc.cond_true rfl ?_ | refine Wc.cond_false rfl ?_ | (refine Wc.drawn (id := 5) 7 (by kernel_rfl) ?_) | (refine Wc.drawn (id := 6) 11 (by kernel_rfl) ?_) | (refine Wc.drawn (id := 7) 16 (by kernel_rfl) ?_) | (refine rgs_nil ?_; intro vs wk hE; replace H := H.ext hE; clear hE) | (refine RGs.bq (fun _ => rfl) rfl (by intro vs w hE hP; have H := H.ext hE; first | exact dbQ | fail) (fun hc => ?_) (fun hc => ?_) <;> ((try simp only [cmpP, decide_eq_true_eq, decide_eq_false_iff_not, dcd_iff, dcd_no] at hc); try exact prDQ)) | refine RGs.pq (fun _ => rfl) rfl (by intro vs w hE hP; have H := H.ext hE; first | exact dvQ | fail) ?_)
    exact fn_ret1 (v := .slice _ _ _) rfl rfl ⟨_, _, H.picks [1] rfl (by decide), T, none, 0, rfl, rfl, ⟨Grown.refl hf, rfl, fun i q r h => by simp at h⟩, Sl.nil _ _⟩
  · by_cases h8 : p.keys.length ≤ 8
    · have hs : sprdP p = [p] := by unfold sprdP; rw [if_neg h0, if_pos h8]
      rw [hs]
      repeat' (first | ((first | refine WL.p rfl ?_ | refine WL.u ?_); first | refine pvQ ?_ | (refine opk 3 rfl ?_; (refine ost_cmp rfl rfl rfl rfl (fun hc => ?_) (fun hc => ?_) <;> (simp only [cmpP] at hc; try exact prIQ))) | (refine opk 4 rfl ?_; (refine ost_cmp rfl rfl rfl rfl (fun hc => ?_) (fun hc => ?_) <;> (simp only [cmpP] at hc; try exact prIQ))) | (refine opk 8 rfl ?_; (refine ost_storeW H rfl rfl rfl rfl lQ ixQ lQ okQ ?_; clear H; intro wk H; simp only [List.set_cons_zero, List.set_cons_succ, Nat.reduceAdd] at H)) | (refine opk 9 rfl ?_; first | (refine ost_boxq H rfl ?_; clear H; intro bk wk H) | (refine ost_allocA H rfl ?_; clear H; intro bk wk H) | (refine ost_build1 H rfl rfl rfl evQ lsQ rfl ?_; clear H; intro bk wk H))) | refine Wc.seq ?_ | refine then_n ?_ | refine WL.nil ?_ | refine Wc.region ?_ | refine Wc.block ?_ | refine then_r ?_ | refine then_e ?_ | refine inb_e rfl ?_ | refine inb_o rfl ?_ | refine inb_n ?_ | refine inb_r ?_ | refine Wc.skip ?_ | refine Wc.exit ?_ | refine Wc.ret ?_ | refine Wc.cond_true rfl ?_ | refine Wc.cond_false rfl ?_)
      obtain ⟨b3, e3⟩ := H.nameB idx0
      subst e3
      obtain ⟨h1, hle, hb0, H7⟩ := H.freezeB
      clear H
      have H := H7
      clear H7
      obtain ⟨b, off, L9, T9, fr, e2, eb, eg⟩ := hPg.k.getM (by decide) (Nat.pos_of_ne_zero h0)
      have g1 := eg 0 0 (by omega) rfl
      rw [hd_get] at g1
      clear eg
      replace eb := hle _ _ eb
      have lk := cKey_len (hd0 p.keys)
      obtain ⟨T1, hT1⟩ : ∃ T1, T1 = T.lay (.agg (pgV p A).toArray) := ⟨_, rfl⟩
      have hlay := fun g w HO => tr_lay tb mb rb T p A g w HO
      rw [← hT1] at hlay
      obtain ⟨ak, ck, al, cl, ad, cd⟩ := A
      dsimp only at e2
      subst e2
      repeat' (first | ((first | refine WL.p rfl ?_ | refine WL.u ?_); first | (refine opk 9 rfl ?_; first | (refine ost_buildS (l := cRef ⟨hd0 p.keys, T.next + 1⟩) rfl (evP_cons (rfl : _ = Value.agg _) (evP_cons (rfl : _ = Value.int _ _) evP_nil)) (by rfl) (by rfl) ?_) | (refine ost_buildR (rows := [cRef ⟨hd0 p.keys, T.next + 1⟩]) H rfl (by decide) rfl (by rfl) (evP1 vxQ) (.cons rfl .nil) rfl (fun r hr => by rw [List.mem_singleton.1 hr]; rfl) ?_; clear H; intro bk wk H)) | refine pvQ ?_ | (refine opk 3 rfl ?_; (refine ost_cmp rfl rfl rfl rfl (fun hc => ?_) (fun hc => ?_) <;> (simp only [cmpP] at hc; try exact prIQ))) | (refine opk 4 rfl ?_; (refine ost_cmp rfl rfl rfl rfl (fun hc => ?_) (fun hc => ?_) <;> (simp only [cmpP] at hc; try exact prIQ))) | (refine opk 8 rfl ?_; (refine ost_storeW H rfl rfl rfl rfl lQ ixQ lQ okQ ?_; clear H; intro wk H; simp only [List.set_cons_zero, List.set_cons_succ, Nat.reduceAdd] at H)) | (refine opk 9 rfl ?_; first | (refine ost_boxq H rfl ?_; clear H; intro bk wk H) | (refine ost_allocA H rfl ?_; clear H; intro bk wk H) | (refine ost_build1 H rfl rfl rfl evQ lsQ rfl ?_; clear H; intro bk wk H))) | refine Wc.seq ?_ | refine then_n ?_ | refine WL.nil ?_ | refine Wc.region ?_ | refine Wc.block ?_ | refine then_r ?_ | refine then_e ?_ | refine inb_e rfl ?_ | refine inb_o rfl ?_ | refine inb_n ?_ | refine inb_r ?_ | refine Wc.skip ?_ | refine Wc.exit ?_ | refine Wc.ret ?_ | refine Wc.cond_true rfl ?_ | refine Wc.cond_false rfl ?_ | (refine Wc.drawn (id := 6) 11 (by kernel_rfl) ?_) | (refine Wc.drawn (id := 7) 16 (by kernel_rfl) ?_) | (refine rgs_nil ?_; intro vs wk hE; replace H := H.ext hE; clear hE) | (refine RGs.bq (fun _ => rfl) rfl (by intro vs w hE hP; have H := H.ext hE; first | exact dbQ | fail) (fun hc => ?_) (fun hc => ?_) <;> ((try simp only [cmpP, decide_eq_true_eq, decide_eq_false_iff_not, dcd_iff, dcd_no] at hc); try exact prDQ)) | refine RGs.pq (fun _ => rfl) rfl (by intro vs w hE hP; have H := H.ext hE; first | exact dvQ | fail) ?_ | (refine Wc.drawM (id := 5) 7 [(6, [trO tb mb rb T], fun v L' => v = .int .u32 ((T.next + 1).toNat : Nat) ∧ L' = [trO tb mb rb T1])] [] [6] H (by kernel_rfl) rfl (by kernel_rfl) (by simp only [inpL, List.nil_append, List.cons_append, List.append_nil]; first | exact List.Perm.refl _ | exact List.Perm.swap _ _ _ | exact (List.Perm.swap _ _ _).trans ((List.Perm.swap _ _ _).cons _) | exact ((List.Perm.swap _ _ _).cons _) | exact ((List.Perm.swap _ _ _).cons _).trans (List.Perm.swap _ _ _)) ?_) | (refine rgm_nil ?_; intro vs wk outs HM hR; obtain ⟨v9, ⟨e9, o9⟩, h9⟩ := hR 6 _ rfl; have hv9 : vs (0 + 1 + 1 + 1 + 1 + 1 + 1) = _ := (h9 (by kernel_rfl)).trans e9; simp only [outsL, o9, List.cons_append, List.nil_append, List.append_nil] at HM; (try dsimp only); rw [hv9]; replace H := HM; clear HM hR) | (refine RGm.bq (fun _ => rfl) rfl (by intro vs w TT hP H; simp only [List.cons_append, List.nil_append] at H; first | exact dbQ | fail) (fun hc => ?_) (fun hc => ?_) <;> ((try simp only [cmpP, decide_eq_true_eq, decide_eq_false_iff_not, dcd_iff, dcd_no] at hc); try exact prDQ)) | refine RGm.pq (fun _ => rfl) rfl (by intro vs w TT hP H; simp only [List.cons_append, List.nil_append] at H; first | exact dvQ | fail) ?_ | refine RGm.mq (fun _ => rfl) rfl (by intro vs w TT hP H; simp only [List.cons_append, List.nil_append] at H; first | (refine ost_O H rfl idx0 (fun HO => hlay _ _ HO) rfl ?_; rintro vk wk hfk Lk ⟨rfl, rfl, rfl⟩ H2; exact ⟨_, ⟨rfl, rfl⟩, H2⟩) | fail) ?_ | refine RGm.mu rfl (by intro vs w TT hP H; simp only [List.cons_append, List.nil_append] at H; first | (refine ost_O H rfl idx0 (fun HO => hlay _ _ HO) rfl ?_; rintro vk wk hfk Lk ⟨rfl, rfl, rfl⟩ H2; exact ⟨_, ⟨rfl, rfl⟩, H2⟩) | fail) ?_)
      obtain ⟨a9, c9, h2, e9, hle2, hN9, H7⟩ := H.freezeR (by simp [cRef_len])
      injection e9 with e91 e92 e93
      subst e91; subst e93
      obtain ⟨hg1, hg2⟩ := lay_grown hf (by omega) (.agg (pgV p ⟨some ⟨b, off, none⟩, ck, al, cl, ad, cd⟩).toArray)
      rw [← hT1] at hg1 hg2
      refine fn_ret1 (v := .slice _ _ _) rfl rfl ⟨_, _, H7, T1, _, _, rfl, rfl, ⟨hg1, ?_, fun i q r hq hr => ?_⟩, hN9⟩
      · rw [hT1]; exact u32_up1 (by omega)
      · cases i with
        | zero =>
          injection hq with hq
          injection hr with hr
          subst hq; subst hr
          exact ⟨_, hg2, hPg.mono (hle.trans hle2)⟩
        | succ i => simp at hq
    · have hs : sprdP p = [partP p 0 (p.keys.length / 2), partP p (p.keys.length / 2) p.keys.length] := by unfold sprdP; rw [if_neg h0, if_neg h8]
      rw [hs]
      have pA := fun w hs hP => tree_part p A 0 (p.keys.length / 2) (full w) w hs hP (by omega) (by omega) (by omega) hsl hsd
      have pB := fun w hs hP => tree_part p A (p.keys.length / 2) p.keys.length (full w) w hs hP (by omega) (by omega) (by omega) hsl hsd
      have ka : (partP p 0 (p.keys.length / 2)).keys.length = p.keys.length / 2 := by simp only [partP, List.length_drop, List.length_take]; omega
      have kb : (partP p (p.keys.length / 2) p.keys.length).keys.length = p.keys.length - p.keys.length / 2 := by simp only [partP, List.length_drop, List.length_take]; omega
      generalize partP p 0 (p.keys.length / 2) = qa at *
      generalize partP p (p.keys.length / 2) p.keys.length = qb at *
      repeat' (first | ((first | refine WL.p rfl ?_ | refine WL.u ?_); first | refine pvQ ?_ | (refine opk 3 rfl ?_; (refine ost_cmp rfl rfl rfl rfl (fun hc => ?_) (fun hc => ?_) <;> (simp only [cmpP] at hc; try exact prIQ))) | (refine opk 4 rfl ?_; (refine ost_cmp rfl rfl rfl rfl (fun hc => ?_) (fun hc => ?_) <;> (simp only [cmpP] at hc; try exact prIQ))) | (refine opk 8 rfl ?_; (refine ost_storeW H rfl rfl rfl rfl lQ ixQ lQ okQ ?_; clear H; intro wk H; simp only [List.set_cons_zero, List.set_cons_succ, Nat.reduceAdd] at H)) | (refine opk 9 rfl ?_; first | (refine ost_boxq H rfl ?_; clear H; intro bk wk H) | (refine ost_allocA H rfl ?_; clear H; intro bk wk H) | (refine ost_build1 H rfl rfl rfl evQ lsQ rfl ?_; clear H; intro bk wk H))) | refine Wc.seq ?_ | refine then_n ?_ | refine WL.nil ?_ | refine Wc.region ?_ | refine Wc.block ?_ | refine then_r ?_ | refine then_e ?_ | refine inb_e rfl ?_ | refine inb_o rfl ?_ | refine inb_n ?_ | refine inb_r ?_ | refine Wc.skip ?_ | refine Wc.exit ?_ | refine Wc.ret ?_ | refine Wc.cond_true rfl ?_ | refine Wc.cond_false rfl ?_ | (refine Wc.drawn (id := 5) 7 (by kernel_rfl) ?_) | (refine rgs_nil ?_; intro vs wk hE; replace H := H.ext hE; clear hE) | (refine RGs.bq (fun _ => rfl) rfl (by intro vs w hE hP; have H := H.ext hE; first | exact dbQ | fail) (fun hc => ?_) (fun hc => ?_) <;> ((try simp only [cmpP, decide_eq_true_eq, decide_eq_false_iff_not, dcd_iff, dcd_no] at hc); try exact prDQ)) | refine RGs.pq (fun _ => rfl) rfl (by intro vs w hE hP; have H := H.ext hE; first | exact dvQ | fail) ?_)
      obtain ⟨b3, e3⟩ := H.nameB idx0
      subst e3
      obtain ⟨h1, hle, hb0, H7⟩ := H.freezeB
      clear H
      have H := H7
      clear H7
      repeat' (first | ((first | refine WL.p rfl ?_ | refine WL.u ?_); first | refine pvQ ?_ | (refine opk 3 rfl ?_; (refine ost_cmp rfl rfl rfl rfl (fun hc => ?_) (fun hc => ?_) <;> (simp only [cmpP] at hc; try exact prIQ))) | (refine opk 4 rfl ?_; (refine ost_cmp rfl rfl rfl rfl (fun hc => ?_) (fun hc => ?_) <;> (simp only [cmpP] at hc; try exact prIQ))) | (refine opk 8 rfl ?_; (refine ost_storeW H rfl rfl rfl rfl lQ ixQ lQ okQ ?_; clear H; intro wk H; simp only [List.set_cons_zero, List.set_cons_succ, Nat.reduceAdd] at H)) | (refine opk 9 rfl ?_; first | (refine ost_boxq H rfl ?_; clear H; intro bk wk H) | (refine ost_allocA H rfl ?_; clear H; intro bk wk H) | (refine ost_build1 H rfl rfl rfl evQ lsQ rfl ?_; clear H; intro bk wk H))) | refine Wc.seq ?_ | refine then_n ?_ | refine WL.nil ?_ | refine Wc.region ?_ | refine Wc.block ?_ | refine then_r ?_ | refine then_e ?_ | refine inb_e rfl ?_ | refine inb_o rfl ?_ | refine inb_n ?_ | refine inb_r ?_ | refine Wc.skip ?_ | refine Wc.exit ?_ | refine Wc.ret ?_ | refine Wc.cond_true rfl ?_ | refine Wc.cond_false rfl ?_ | (refine Wc.drawn (id := 5) 7 (by kernel_rfl) ?_) | (refine rgs_nil ?_; intro vs wk hE; replace H := H.ext hE; clear hE) | (refine RGs.bq (fun _ => rfl) rfl (by intro vs w hE hP; have H := H.ext hE; first | exact dbQ | fail) (fun hc => ?_) (fun hc => ?_) <;> ((try simp only [cmpP, decide_eq_true_eq, decide_eq_false_iff_not, dcd_iff, dcd_no] at hc); try exact prDQ)) | refine RGs.pq (fun _ => rfl) rfl (by intro vs w hE hP; have H := H.ext hE; first | (refine opk 5 rfl ?_; (refine ost_quoN rfl rfl rfl (by omega) (by omega) (by simp only [inK]; omega) ?_; exact ⟨Fr.refl _ _, rfl⟩)) | exact dvQ | fail) ?_ | (refine Wc.drawM (id := 6) 11 [(9, [], fun v L' => ∃ b, v = pT b ∧ L' = [.blk b (.cells [Value.bool false, .slice none 0 0, .slice none 0 0, .slice none 0 0].toArray 85 (0, 0))]), (10, [], fun v L' => ∃ b, v = pT b ∧ L' = [.blk b (.cells [Value.bool false, .slice none 0 0, .slice none 0 0, .slice none 0 0].toArray 85 (0, 0))]), (3, [], fun v L' => ∃ A', v = .agg (pgV qa A').toArray ∧ L' = pgO qa A'), (8, [], fun v L' => ∃ A', v = .agg (pgV qb A').toArray ∧ L' = pgO qb A')] [_] [9, 10, 3, 8] H (by kernel_rfl) rfl (by kernel_rfl) (by simp only [inpL, List.nil_append, List.cons_append, List.append_nil]; first | exact List.Perm.refl _ | exact List.Perm.swap _ _ _ | exact (List.Perm.swap _ _ _).trans ((List.Perm.swap _ _ _).cons _) | exact ((List.Perm.swap _ _ _).cons _) | exact ((List.Perm.swap _ _ _).cons _).trans (List.Perm.swap _ _ _)) ?_) | (refine rgm_nil ?_; intro vs wk outs HM hR; obtain ⟨v3, ⟨A3, e3, o3⟩, k3⟩ := hR 3 _ rfl; have hv3 : vs (0 + 1 + 1 + 1) = _ := (k3 (by kernel_rfl)).trans e3; obtain ⟨v8, ⟨A8, e8, o8⟩, k8⟩ := hR 8 _ rfl; have hv8 : vs (0 + 1 + 1 + 1 + 1 + 1 + 1 + 1 + 1) = _ := (k8 (by kernel_rfl)).trans e8; obtain ⟨v9, ⟨b9, e9, o9⟩, k9⟩ := hR 9 _ rfl; have hv9 : vs (0 + 1 + 1 + 1 + 1 + 1 + 1 + 1 + 1 + 1) = _ := (k9 (by kernel_rfl)).trans e9; obtain ⟨v10, ⟨b10, e10, o10⟩, k10⟩ := hR 10 _ rfl; have hv10 : vs (0 + 1 + 1 + 1 + 1 + 1 + 1 + 1 + 1 + 1 + 1) = _ := (k10 (by kernel_rfl)).trans e10; simp only [outsL, o3, o8, o9, o10, pgO, List.cons_append, List.nil_append, List.append_nil] at HM; (try dsimp only); rw [hv3, hv8, hv9, hv10]; replace H := HM; clear HM hR k3 k8 k9 k10 e3 e8 e9 e10 o3 o8 o9 o10 hv3 hv8 hv9 hv10) | (refine RGm.bq (fun _ => rfl) rfl (by intro vs w TT hP H; simp only [List.cons_append, List.nil_append] at H; first | exact dbQ | fail) (fun hc => ?_) (fun hc => ?_) <;> ((try simp only [cmpP, decide_eq_true_eq, decide_eq_false_iff_not, dcd_iff, dcd_no] at hc); try exact prDQ)) | refine RGm.pq (fun _ => rfl) rfl (by intro vs w TT hP H; simp only [List.cons_append, List.nil_append] at H; first | (refine opk 5 rfl ?_; (refine ost_quoN rfl rfl rfl (by omega) (by omega) (by simp only [inK]; omega) ?_; exact ⟨Fr.refl _ _, rfl⟩)) | exact dvQ | fail) ?_ | refine RGm.mq (fun _ => rfl) rfl (by intro vs w TT hP H; simp only [List.cons_append, List.nil_append] at H; first | (refine ost_C H rfl (pA _ (sat_full _) ((hPg.mono hle).full H)) rfl ?_; rintro vk wk hfk Lk ⟨rfl, A9, rfl, rfl⟩ H2; exact ⟨_, ⟨A9, rfl, rfl⟩, H2⟩) | (refine ost_C H rfl (pB _ (sat_full _) ((hPg.mono hle).full H)) rfl ?_; rintro vk wk hfk Lk ⟨rfl, A9, rfl, rfl⟩ H2; exact ⟨_, ⟨A9, rfl, rfl⟩, H2⟩) | (refine ost_allocA H rfl ?_; intro bk wk H2; exact ⟨[_], ⟨_, rfl, rfl⟩, H2⟩) | fail) ?_ | refine RGm.mu rfl (by intro vs w TT hP H; simp only [List.cons_append, List.nil_append] at H; first | (refine ost_C H rfl (pA _ (sat_full _) ((hPg.mono hle).full H)) rfl ?_; rintro vk wk hfk Lk ⟨rfl, A9, rfl, rfl⟩ H2; exact ⟨_, ⟨A9, rfl, rfl⟩, H2⟩) | (refine ost_C H rfl (pB _ (sat_full _) ((hPg.mono hle).full H)) rfl ?_; rintro vk wk hfk Lk ⟨rfl, A9, rfl, rfl⟩ H2; exact ⟨_, ⟨A9, rfl, rfl⟩, H2⟩) | (refine ost_allocA H rfl ?_; intro bk wk H2; exact ⟨[_], ⟨_, rfl, rfl⟩, H2⟩) | fail) ?_)
      replace H := H.picks (L' := pgO qa A3 ++ (pgO qb A8 ++ [.blk b9 _, .blk b10 _, trO tb mb rb T])) [3, 4, 5, 6, 7, 8, 1, 2, 0] rfl (by decide)
      obtain ⟨h2, hle2, rA, H7⟩ := H.freezePg
      clear H; have H := H7; clear H7
      obtain ⟨h3, hle3, rB, H7⟩ := H.freezePg
      clear H; have H := H7; clear H7
      obtain ⟨h4, hle4, hb9, H7⟩ := H.freezeB
      clear H; have H := H7; clear H7
      obtain ⟨h5, hle5, hb10, H7⟩ := H.freezeB
      clear H; have H := H7; clear H7
      replace rA := rA.mono (hle3.trans (hle4.trans hle5))
      replace rB := rB.mono (hle4.trans hle5)
      replace hb9 := hle5 _ _ hb9
      have hle9 : FLe g h5 := hle.trans (hle2.trans (hle3.trans (hle4.trans hle5)))
      clear hle2 hle3 hle4 hle5 pA pB
      obtain ⟨b, off, L9, T9, fr, e2, eb, eg⟩ := rA.k.getM (by decide) (show 0 < qa.keys.length by omega)
      have g1 := eg 0 0 (by omega) rfl
      rw [hd_get] at g1
      clear eg
      obtain ⟨b', off', L9', T9', fr', e2', eb', eg⟩ := rB.k.getM (by decide) (show 0 < qb.keys.length by omega)
      have g2 := eg 0 0 (by omega) rfl
      rw [hd_get] at g2
      clear eg
      have lk := cKey_len (hd0 qa.keys)
      have lk2 := cKey_len (hd0 qb.keys)
      have lpa := pgV_len qa A3
      have lpb := pgV_len qb A8
      obtain ⟨T1, hT1⟩ : ∃ T1, T1 = T.lay (.agg (pgV qa A3).toArray) := ⟨_, rfl⟩
      obtain ⟨T2, hT2⟩ : ∃ T2, T2 = T1.lay (.agg (pgV qb A8).toArray) := ⟨_, rfl⟩
      have hlay := fun g w HO => tr_lay tb mb rb T qa A3 g w HO
      rw [← hT1] at hlay
      have hlay2 := fun g w HO => tr_lay tb mb rb T1 qb A8 g w HO
      rw [← hT2] at hlay2
      have hn1 : T1.next = T.next + 1 := by rw [hT1]; rfl
      rw [hn1] at hlay2
      obtain ⟨ak, ck, al, cl, ad, cd⟩ := A3
      obtain ⟨ak', ck', al', cl', ad', cd'⟩ := A8
      dsimp only at e2 e2'
      subst e2 e2'
      repeat' (first | ((first | refine WL.p rfl ?_ | refine WL.u ?_); first | refine pvQ ?_ | (refine opk 3 rfl ?_; (refine ost_cmp rfl rfl rfl rfl (fun hc => ?_) (fun hc => ?_) <;> (simp only [cmpP] at hc; try exact prIQ))) | (refine opk 4 rfl ?_; (refine ost_cmp rfl rfl rfl rfl (fun hc => ?_) (fun hc => ?_) <;> (simp only [cmpP] at hc; try exact prIQ))) | (refine opk 8 rfl ?_; (refine ost_storeW H rfl rfl rfl rfl lQ ixQ lQ okQ ?_; clear H; intro wk H; simp only [List.set_cons_zero, List.set_cons_succ, Nat.reduceAdd] at H)) | (refine opk 9 rfl ?_; first | (refine ost_boxq H rfl ?_; clear H; intro bk wk H) | (refine ost_allocA H rfl ?_; clear H; intro bk wk H) | (refine ost_build1 H rfl rfl rfl evQ lsQ rfl ?_; clear H; intro bk wk H))) | refine Wc.seq ?_ | refine then_n ?_ | refine WL.nil ?_ | refine Wc.region ?_ | refine Wc.block ?_ | refine then_r ?_ | refine then_e ?_ | refine inb_e rfl ?_ | refine inb_o rfl ?_ | refine inb_n ?_ | refine inb_r ?_ | refine Wc.skip ?_ | refine Wc.exit ?_ | refine Wc.ret ?_ | refine Wc.cond_true rfl ?_ | refine Wc.cond_false rfl ?_ | (refine Wc.drawn (id := 5) 7 (by kernel_rfl) ?_) | (refine Wc.drawn (id := 6) 11 (by kernel_rfl) ?_) | (refine rgs_nil ?_; intro vs wk hE; replace H := H.ext hE; clear hE) | (refine RGs.bq (fun _ => rfl) rfl (by intro vs w hE hP; have H := H.ext hE; first | exact dbQ | fail) (fun hc => ?_) (fun hc => ?_) <;> ((try simp only [cmpP, decide_eq_true_eq, decide_eq_false_iff_not, dcd_iff, dcd_no] at hc); try exact prDQ)) | refine RGs.pq (fun _ => rfl) rfl (by intro vs w hE hP; have H := H.ext hE; first | exact dvQ | fail) ?_)
      refine Wc.drawF (id := 7) 16 [6, 14] (piF [6, 14] [] fun c vs g L => match c with
        | 0 => L = [trO tb mb rb T]
        | 1 => vs 6 = .int .u32 ((T.next + 1).toNat : Nat) ∧ L = [trO tb mb rb T1]
        | _ => vs 6 = .int .u32 ((T.next + 1).toNat : Nat) ∧ vs 14 = .int .u32 ((T.next + 1 + 1).toNat : Nat) ∧ L = [trO tb mb rb T2]) H (by kernel_rfl) (by kernel_rfl) (piF_0 (A := [trO tb mb rb T]) rfl) ?_
      clear H
      iterate 6 refine RGf.p rfl (by intro vs w dn g' L hg hd hP H; have h91 := hg _ _ hb9; have h92 := hg _ _ hb10; have eb1 := hg _ _ eb; have eb2 := hg _ _ eb'; exact dvQ) ?_
      refine RGf.m rfl (by
        intro vs w dn g' L hg hd hdep hP H
        obtain ⟨T9, rfl, hps, hst⟩ := piF_step (by decide) hP 0 6 rfl hd (.inl rfl)
        subst hps
        refine ost_O H rfl idx0 (fun HO => hlay _ _ HO) rfl ?_
        rintro vk wk hfk Lk ⟨rfl, rfl, rfl⟩ H2
        exact ⟨g', _, FLe.refl _, hst _ _ _ ⟨rfl, rfl⟩, H2⟩) ?_
      refine RGf.p rfl (by
        intro vs w dn g' L hg hd hP H
        obtain ⟨c, T8, hc, hc2, -, hps⟩ := piF_at hP 0 6 rfl (hd 6 (by kernel_rfl) rfl)
        have e6 : vs (0 + 1 + 1 + 1 + 1 + 1 + 1) = .int .u32 ((T.next + 1).toNat : Nat) := by
          rcases c with _ | _ | c
          · omega
          · exact hps.1
          · exact hps.1
        rw [e6]
        refine ost_buildS (l := cRef ⟨hd0 qa.keys, T.next + 1⟩) rfl (evP_cons (rfl : _ = Value.agg _) (evP_cons (rfl : _ = Value.int _ _) evP_nil)) (by rfl) (by rfl) ?_
        exact ⟨Fr.refl _ _, rfl⟩) ?_
      iterate 6 refine RGf.p rfl (by intro vs w dn g' L hg hd hP H; have h91 := hg _ _ hb9; have h92 := hg _ _ hb10; have eb1 := hg _ _ eb; have eb2 := hg _ _ eb'; exact dvQ) ?_
      refine RGf.m rfl (by
        intro vs w dn g' L hg hd hdep hP H
        obtain ⟨T9, rfl, hps, hst⟩ := piF_step (by decide) hP 1 14 rfl hd (.inr ⟨6, rfl, hdep 6 (by kernel_rfl) rfl⟩)
        obtain ⟨hp1, hps⟩ := hps
        subst hps
        refine ost_O H rfl idx0 (fun HO => hlay2 _ _ HO) rfl ?_
        rintro vk wk hfk Lk ⟨rfl, rfl, rfl⟩ H2
        exact ⟨g', _, FLe.refl _, hst _ _ _ ⟨hp1, rfl, rfl⟩, H2⟩) ?_
      refine RGf.p rfl (by
        intro vs w dn g' L hg hd hP H
        obtain ⟨c, T8, hc, hc2, -, hps⟩ := piF_at hP 1 14 rfl (hd 14 (by kernel_rfl) rfl)
        have e14 : vs (0 + 1 + 1 + 1 + 1 + 1 + 1 + 1 + 1 + 1 + 1 + 1 + 1 + 1 + 1) = .int .u32 ((T.next + 1 + 1).toNat : Nat) := by
          rcases c with _ | _ | c
          · omega
          · omega
          · exact hps.2.1
        rw [e14]
        refine ost_buildS (l := cRef ⟨hd0 qb.keys, T.next + 1 + 1⟩) rfl (evP_cons (rfl : _ = Value.agg _) (evP_cons (rfl : _ = Value.int _ _) evP_nil)) (by rfl) (by rfl) ?_
        exact ⟨Fr.refl _ _, rfl⟩) ?_
      refine RGf.nil ?_
      intro vs wk dn g' L hg hdn hP H
      obtain ⟨T8, hL, hp1, hp2, hps⟩ := piF_end hP 14 rfl (hdn 14 rfl)
      subst hps
      rw [List.append_nil] at hL
      subst hL
      repeat' (first | ((first | refine WL.p rfl ?_ | refine WL.u ?_); first | (refine opk 9 rfl ?_; (refine ost_buildR (rows := [cRef ⟨hd0 qa.keys, T.next + 1⟩, cRef ⟨hd0 qb.keys, T.next + 1 + 1⟩]) H rfl (by decide) rfl (by rfl) (evP2 vxQ vxQ) (.cons rfl (.cons rfl .nil)) rfl (by simp [cRef_len]) ?_; clear H; intro bk wk H)) | refine pvQ ?_ | (refine opk 3 rfl ?_; (refine ost_cmp rfl rfl rfl rfl (fun hc => ?_) (fun hc => ?_) <;> (simp only [cmpP] at hc; try exact prIQ))) | (refine opk 4 rfl ?_; (refine ost_cmp rfl rfl rfl rfl (fun hc => ?_) (fun hc => ?_) <;> (simp only [cmpP] at hc; try exact prIQ))) | (refine opk 8 rfl ?_; (refine ost_storeW H rfl rfl rfl rfl lQ ixQ lQ okQ ?_; clear H; intro wk H; simp only [List.set_cons_zero, List.set_cons_succ, Nat.reduceAdd] at H)) | (refine opk 9 rfl ?_; first | (refine ost_boxq H rfl ?_; clear H; intro bk wk H) | (refine ost_allocA H rfl ?_; clear H; intro bk wk H) | (refine ost_build1 H rfl rfl rfl evQ lsQ rfl ?_; clear H; intro bk wk H))) | refine Wc.seq ?_ | refine then_n ?_ | refine WL.nil ?_ | refine Wc.region ?_ | refine Wc.block ?_ | refine then_r ?_ | refine then_e ?_ | refine inb_e rfl ?_ | refine inb_o rfl ?_ | refine inb_n ?_ | refine inb_r ?_ | refine Wc.skip ?_ | refine Wc.exit ?_ | refine Wc.ret ?_ | refine Wc.cond_true rfl ?_ | refine Wc.cond_false rfl ?_ | (refine Wc.drawn (id := 5) 7 (by kernel_rfl) ?_) | (refine Wc.drawn (id := 6) 11 (by kernel_rfl) ?_) | (refine Wc.drawn (id := 7) 16 (by kernel_rfl) ?_) | (refine rgs_nil ?_; intro vs wk hE; replace H := H.ext hE; clear hE) | (refine RGs.bq (fun _ => rfl) rfl (by intro vs w hE hP; have H := H.ext hE; first | exact dbQ | fail) (fun hc => ?_) (fun hc => ?_) <;> ((try simp only [cmpP, decide_eq_true_eq, decide_eq_false_iff_not, dcd_iff, dcd_no] at hc); try exact prDQ)) | refine RGs.pq (fun _ => rfl) rfl (by intro vs w hE hP; have H := H.ext hE; first | exact dvQ | fail) ?_)
      obtain ⟨a9, c9, h6, e9, hle6, hN9, H7⟩ := H.freezeR (by simp [cRef_len])
      injection e9 with e91 e92 e93
      subst e91; subst e93
      obtain ⟨hg1, hl1⟩ := lay_grown hf (by omega) (.agg (pgV qa ⟨some ⟨b, off, none⟩, ck, al, cl, ad, cd⟩).toArray)
      rw [← hT1] at hg1 hl1
      have u1 := u32_up1 (n := T.next) (by omega)
      obtain ⟨hg2, hl2⟩ := lay_grown (T := T1) hg1.fresh (by rw [hn1]; omega) (.agg (pgV qb ⟨some ⟨b', off', none⟩, ck', al', cl', ad', cd'⟩).toArray)
      rw [← hT2] at hg2 hl2
      rw [hn1] at hl2
      refine fn_ret1 (v := .slice _ _ _) rfl rfl ⟨_, _, H7, T2, _, _, rfl, rfl, ⟨hg1.trans hg2, ?_, fun i q r hq hr => ?_⟩, hN9⟩
      · have u2 := u32_up1 (n := T.next + 1) (by omega)
        rw [hT2]
        show (T1.next + 1).toNat = _
        rw [hn1, u2, u1]; rfl
      · match i with
        | 0 =>
          injection hq with hq
          injection hr with hr
          subst hq; subst hr
          exact ⟨_, hg2.le _ _ hl1, rA.mono (hg.trans hle6)⟩
        | 1 =>
          injection hq with hq
          injection hr with hr
          subst hq; subst hr
          exact ⟨_, hl2, rB.mono (hg.trans hle6)⟩
        | i + 2 => simp at hq
end Go.Tg

set_option linter.unusedVariables false
set_option linter.unusedSimpArgs false
set_option maxRecDepth 100000
set_option maxHeartbeats 4000000
namespace Go.Tg
open Go Go.Proofs
theorem fl_len {α : Type} {f : α → List Value} {sz : Nat} (hf : ∀ x, (f x).length = sz) (xs : List α) : (xs.map f).flatten.length = xs.length * sz := by
  rw [rows_len (sz := sz) (by intro r hr; obtain ⟨x, -, rfl⟩ := List.mem_map.1 hr; exact hf x), List.length_map]
theorem fl_take {α : Type} {f : α → List Value} {sz : Nat} (hf : ∀ x, (f x).length = sz) (xs : List α) (i : Nat) : (xs.map f).flatten.take (i * sz) = ((xs.take i).map f).flatten := by
  rw [rows_take i (by intro r hr; obtain ⟨x, -, rfl⟩ := List.mem_map.1 hr; exact hf x), List.map_take]
theorem fl_drop {α : Type} {f : α → List Value} {sz : Nat} (hf : ∀ x, (f x).length = sz) (xs : List α) (i : Nat) : (xs.map f).flatten.drop (i * sz) = ((xs.drop i).map f).flatten := by
  rw [rows_drop i (by intro r hr; obtain ⟨x, -, rfl⟩ := List.mem_map.1 hr; exact hf x), List.map_drop]
theorem fl_erase {α : Type} {f : α → List Value} {sz : Nat} (hf : ∀ x, (f x).length = sz) (xs : List α) (i : Nat) : ((xs.eraseIdx i).map f).flatten = (xs.map f).flatten.take (i * sz) ++ (xs.map f).flatten.drop ((i + 1) * sz) := by
  rw [fl_take hf, fl_drop hf, List.eraseIdx_eq_take_drop_succ, List.map_append, List.flatten_append]
theorem own_mx {w : World} {S : List Nat} {ws : World} {h0 h : FH} {L : List HA} (H : St ws S h0 h L w) {a : Option Addr} {i n c sz : Nat} {e : TypeId} {xs : List Value} (hi : L[i]? = some (.own (.slice a n c) e sz n xs)) : n ≤ c ∧ c ≤ maxLen := by
  obtain ⟨_, h2⟩ := H.ok i _ hi
  rcases h2 with ⟨h2, h3⟩ | ⟨g2, cap, cur2, h2, _, hg, hnc, hm, hs, ht⟩
  · injection h2 with e1 e2 e3; exact ⟨by omega, by omega⟩
  · cases h2; exact ⟨hnc, hm⟩
theorem del_K (a : Option Addr) (c : Nat) (xs : List KeyT) (i : Nat) (hi : i < xs.length) (hb : xs.length ≤ 1000000) (g : FH) (w : World)
    (HO : St w (ownR (.slice a xs.length c) 42 3 (xs.map cKey)).fp g g [ownR (.slice a xs.length c) 42 3 (xs.map cKey)] w) :
    Spec Try.prog 35 #[.slice a xs.length c, .int .i64 i, .int .i64 ((i : Int) + 1)] w (ownR (.slice a xs.length c) 42 3 (xs.map cKey)).fp g (fun v' h' L' => h' = g ∧ ∃ a' c', v' = .slice a' (xs.eraseIdx i).length c' ∧ L' = [ownR (.slice a' (xs.eraseIdx i).length c') 42 3 ((xs.eraseIdx i).map cKey)]) := by
  have hf : ∀ x : KeyT, (cKey x).length = 3 := fun x => cKey_len _
  have hone := ones_key xs
  have hfl := fl_len hf xs
  have hfe := fl_erase hf xs i
  have hEl : (xs.eraseIdx i).length = xs.length - 1 := by rw [List.length_eraseIdx, if_pos hi]
  have hEl0 := hEl
  have hfEl := fl_len hf (xs.eraseIdx i)
  unfold ownR at *
  rw [List.length_map] at *
  generalize (xs.map cKey).flatten = fl at *
  generalize ((xs.eraseIdx i).map cKey).flatten = E at *
  rw [hEl] at hfEl ⊢
  have H := HO
  have hmx := own_mx H (i := 0) rfl
  have h9 : (maxLen : Nat) ≤ 9223372036854775807 := by decide
  obtain ⟨g0, cur, rfl, hnc, hcl, hct, H9⟩ := H.ownBlk (i := 0) rfl (Nat.lt_of_le_of_lt (Nat.zero_le _) hi)
  clear H; have H := H9; clear H9
  simp only [List.set_cons_zero] at H
  generalize hF9 : (HA.own (.slice (some ⟨g0, 0, none⟩) xs.length c) 42 3 xs.length fl).fp = F9 at H ⊢
  unfold Spec
  refine calls_of Try.func35 rfl Try.ntmps35 (by simp) ?_
  have hadr : (if c = ((i : Int) + 1).toNat then some (⟨g0, 0, none⟩ : Addr) else Option.map (fun x : Addr => x.add (((i : Int) + 1).toNat * 3)) (some (⟨g0, 0, none⟩ : Addr))) = some (if c = i + 1 then ⟨g0, 0, none⟩ else ⟨g0, (i + 1) * 3, none⟩) := by
    rw [show ((i : Int) + 1).toNat = i + 1 by omega]
    split
    · rfl
    · simp [Addr.add]
  have hcell : ∀ j, j < xs.length * 3 → cur[j]? = fl[j]? := fun j hj => by
    have := congrArg (fun l => l[j]?) hct
    simp only [List.getElem?_take, if_pos hj] at this
    exact this
  have hlen : (fl.drop ((i + 1) * 3)).length = (xs.length - (((i : Int) + 1).toNat)) * 3 := by rw [List.length_drop]; omega
  have hsrc : ∀ w' : World, w'.heap[g0]? = some (.cells cur.toArray 42 (0, 0)) → ∀ j v, (fl.drop ((i + 1) * 3))[j]? = some v → w'.cell? ((if c = i + 1 then (⟨g0, 0, none⟩ : Addr) else ⟨g0, (i + 1) * 3, none⟩).add j) = some v := fun w' hw j v hj => by
    have hjl := (List.getElem?_eq_some_iff.1 hj).1
    rw [List.length_drop] at hjl
    rw [if_neg (by omega), cell_add, cell_of_row w' g0 _ _ _ _ hw, List.getElem?_toArray, hcell _ (by omega)]
    rw [List.getElem?_drop] at hj; exact hj
  repeat' (first | ((first | refine WL.p rfl ?_ | refine WL.u ?_); first | (refine opk 1 rfl ?_; (refine ost_appInN (news := fl.drop ((i + 1) * 3)) H rfl rfl rfl hadr (by (exact ixQ)) hlen (hsrc _ H.bI) (by omega) (by rw [hlen]; omega) (fun v hv => hone v (List.mem_of_mem_drop hv)) ?_; clear H; intro wk H; simp only [List.set_cons_zero] at H)) | (refine opk 10 rfl ?_; (refine ost_slice3 rfl rfl rfl rfl rfl (by omega) (by omega) (by omega) (by omega) ?_)) | refine pvQ ?_ | (refine opk 3 rfl ?_; (refine ost_cmp rfl rfl rfl rfl (fun hc => ?_) (fun hc => ?_) <;> (simp only [cmpP] at hc; try exact prIQ))) | (refine opk 4 rfl ?_; (refine ost_cmp rfl rfl rfl rfl (fun hc => ?_) (fun hc => ?_) <;> (simp only [cmpP] at hc; try exact prIQ)))) | refine Wc.seq ?_ | refine then_n ?_ | refine WL.nil ?_ | refine Wc.region ?_ | refine Wc.block ?_ | refine then_r ?_ | refine then_e ?_ | refine inb_e rfl ?_ | refine inb_o rfl ?_ | refine inb_n ?_ | refine inb_r ?_ | refine Wc.skip ?_ | refine Wc.exit ?_ | refine Wc.ret ?_ | refine Wc.cond_true rfl ?_ | refine Wc.cond_false rfl ?_ | (refine Wc.drawn (id := 5) 6 (by kernel_rfl) ?_) | (refine rgs_nil ?_; intro vs wk hE; replace H := H.ext hE; clear hE) | (refine RGs.bq (fun _ => rfl) rfl (by intro vs w hE hP; have H := H.ext hE; first | exact dbQ | fail) (fun hc => ?_) (fun hc => ?_) <;> ((try simp only [cmpP, decide_eq_true_eq, decide_eq_false_iff_not, dcd_iff, dcd_no] at hc); try exact prDQ)) | refine RGs.pq (fun _ => rfl) rfl (by intro vs w hE hP; have H := H.ext hE; first | exact dvQ | fail) ?_)
  rw [show (i : Int).toNat = i from rfl] at H
  rw [show (i : Int).toNat + (xs.length - ((i : Int) + 1).toNat) = xs.length - 1 by omega, show (((xs.length - 1 : Nat) : Int)).toNat = xs.length - 1 from rfl]
  have hti : cur.take (i * 3) = fl.take (i * 3) := by
    have := congrArg (List.take (i * 3)) hct
    rw [List.take_take, Nat.min_eq_left (by omega)] at this; exact this
  rw [hti, ← hfe] at H
  have hl9 : (E ++ cur.drop (i * 3 + (fl.drop ((i + 1) * 3)).length)).length = c * 3 := by rw [List.length_append, List.length_drop, hlen]; omega
  generalize hM : E ++ cur.drop (i * 3 + (fl.drop ((i + 1) * 3)).length) = M at H hl9
  repeat' (first | ((first | refine WL.p rfl ?_ | refine WL.u ?_); first | (refine opk 1 rfl ?_; (refine ost_clearN (sz := 3) (b := g0) (off := (xs.length - 1) * 3) H rfl rfl (by omega) (adr_addN (q := ((xs.length - 1 : Nat) : Int)) rfl (by omega)) (by decide) rfl (by (exact ixQ)) (by omega) ?_; clear H; intro wk zs hzs H; simp only [List.set_cons_zero] at H)) | refine pvQ ?_ | (refine opk 3 rfl ?_; (refine ost_cmp rfl rfl rfl rfl (fun hc => ?_) (fun hc => ?_) <;> (simp only [cmpP] at hc; try exact prIQ))) | (refine opk 4 rfl ?_; (refine ost_cmp rfl rfl rfl rfl (fun hc => ?_) (fun hc => ?_) <;> (simp only [cmpP] at hc; try exact prIQ)))) | refine Wc.seq ?_ | refine then_n ?_ | refine WL.nil ?_ | refine Wc.region ?_ | refine Wc.block ?_ | refine then_r ?_ | refine then_e ?_ | refine inb_e rfl ?_ | refine inb_o rfl ?_ | refine inb_n ?_ | refine inb_r ?_ | refine Wc.skip ?_ | refine Wc.exit ?_ | refine Wc.ret ?_ | refine Wc.cond_true rfl ?_ | refine Wc.cond_false rfl ?_ | (refine Wc.drawn (id := 5) 6 (by kernel_rfl) ?_) | (refine rgs_nil ?_; intro vs wk hE; replace H := H.ext hE; clear hE) | (refine RGs.bq (fun _ => rfl) rfl (by intro vs w hE hP; have H := H.ext hE; first | exact dbQ | fail) (fun hc => ?_) (fun hc => ?_) <;> ((try simp only [cmpP, decide_eq_true_eq, decide_eq_false_iff_not, dcd_iff, dcd_no] at hc); try exact prDQ)) | refine RGs.pq (fun _ => rfl) rfl (by intro vs w hE hP; have H := H.ext hE; first | exact dvQ | fail) ?_)
  have hMt : M.take ((xs.length - 1) * 3) = E := by rw [← hM]; exact List.take_left' hfEl
  rw [hMt] at H
  have hl8 : (E ++ zs ++ M.drop ((xs.length - 1) * 3 + (((xs.length : Nat) : Int).toNat - (xs.length - 1)) * 3)).length = c * 3 := by
    simp only [List.length_append, List.length_drop]; omega
  have H2 := H.blkOwnN (i := 0) rfl hl8 (n := xs.length - 1) (by omega) hmx.2
  rw [List.append_assoc, List.take_left' hfEl] at H2
  exact fn_ret1 (v := .slice _ _ _) rfl rfl ⟨_, _, H2, rfl, _, c, rfl, by rw [List.length_map, hEl0]; rfl⟩
theorem del_L (a : Option Addr) (c : Nat) (xs : List LocT) (i : Nat) (hi : i < xs.length) (hb : xs.length ≤ 1000000) (g : FH) (w : World)
    (HO : St w (ownR (.slice a xs.length c) 48 2 (xs.map cLoc)).fp g g [ownR (.slice a xs.length c) 48 2 (xs.map cLoc)] w) :
    Spec Try.prog 36 #[.slice a xs.length c, .int .i64 i, .int .i64 ((i : Int) + 1)] w (ownR (.slice a xs.length c) 48 2 (xs.map cLoc)).fp g (fun v' h' L' => h' = g ∧ ∃ a' c', v' = .slice a' (xs.eraseIdx i).length c' ∧ L' = [ownR (.slice a' (xs.eraseIdx i).length c') 48 2 ((xs.eraseIdx i).map cLoc)]) := by
  have hf : ∀ x : LocT, (cLoc x).length = 2 := fun x => cLoc_len _
  have hone := ones_loc xs
  have hfl := fl_len hf xs
  have hfe := fl_erase hf xs i
  have hEl : (xs.eraseIdx i).length = xs.length - 1 := by rw [List.length_eraseIdx, if_pos hi]
  have hEl0 := hEl
  have hfEl := fl_len hf (xs.eraseIdx i)
  unfold ownR at *
  rw [List.length_map] at *
  generalize (xs.map cLoc).flatten = fl at *
  generalize ((xs.eraseIdx i).map cLoc).flatten = E at *
  rw [hEl] at hfEl ⊢
  have H := HO
  have hmx := own_mx H (i := 0) rfl
  have h9 : (maxLen : Nat) ≤ 9223372036854775807 := by decide
  obtain ⟨g0, cur, rfl, hnc, hcl, hct, H9⟩ := H.ownBlk (i := 0) rfl (Nat.lt_of_le_of_lt (Nat.zero_le _) hi)
  clear H; have H := H9; clear H9
  simp only [List.set_cons_zero] at H
  generalize hF9 : (HA.own (.slice (some ⟨g0, 0, none⟩) xs.length c) 48 2 xs.length fl).fp = F9 at H ⊢
  unfold Spec
  refine calls_of Try.func36 rfl Try.ntmps36 (by simp) ?_
  have hadr : (if c = ((i : Int) + 1).toNat then some (⟨g0, 0, none⟩ : Addr) else Option.map (fun x : Addr => x.add (((i : Int) + 1).toNat * 2)) (some (⟨g0, 0, none⟩ : Addr))) = some (if c = i + 1 then ⟨g0, 0, none⟩ else ⟨g0, (i + 1) * 2, none⟩) := by
    rw [show ((i : Int) + 1).toNat = i + 1 by omega]
    split
    · rfl
    · simp [Addr.add]
  have hcell : ∀ j, j < xs.length * 2 → cur[j]? = fl[j]? := fun j hj => by
    have := congrArg (fun l => l[j]?) hct
    simp only [List.getElem?_take, if_pos hj] at this
    exact this
  have hlen : (fl.drop ((i + 1) * 2)).length = (xs.length - (((i : Int) + 1).toNat)) * 2 := by rw [List.length_drop]; omega
  have hsrc : ∀ w' : World, w'.heap[g0]? = some (.cells cur.toArray 48 (0, 0)) → ∀ j v, (fl.drop ((i + 1) * 2))[j]? = some v → w'.cell? ((if c = i + 1 then (⟨g0, 0, none⟩ : Addr) else ⟨g0, (i + 1) * 2, none⟩).add j) = some v := fun w' hw j v hj => by
    have hjl := (List.getElem?_eq_some_iff.1 hj).1
    rw [List.length_drop] at hjl
    rw [if_neg (by omega), cell_add, cell_of_row w' g0 _ _ _ _ hw, List.getElem?_toArray, hcell _ (by omega)]
    rw [List.getElem?_drop] at hj; exact hj
  repeat' (first | ((first | refine WL.p rfl ?_ | refine WL.u ?_); first | (refine opk 1 rfl ?_; (refine ost_appInN (news := fl.drop ((i + 1) * 2)) H rfl rfl rfl hadr (by (exact ixQ)) hlen (hsrc _ H.bI) (by omega) (by rw [hlen]; omega) (fun v hv => hone v (List.mem_of_mem_drop hv)) ?_; clear H; intro wk H; simp only [List.set_cons_zero] at H)) | (refine opk 10 rfl ?_; (refine ost_slice3 rfl rfl rfl rfl rfl (by omega) (by omega) (by omega) (by omega) ?_)) | refine pvQ ?_ | (refine opk 3 rfl ?_; (refine ost_cmp rfl rfl rfl rfl (fun hc => ?_) (fun hc => ?_) <;> (simp only [cmpP] at hc; try exact prIQ))) | (refine opk 4 rfl ?_; (refine ost_cmp rfl rfl rfl rfl (fun hc => ?_) (fun hc => ?_) <;> (simp only [cmpP] at hc; try exact prIQ)))) | refine Wc.seq ?_ | refine then_n ?_ | refine WL.nil ?_ | refine Wc.region ?_ | refine Wc.block ?_ | refine then_r ?_ | refine then_e ?_ | refine inb_e rfl ?_ | refine inb_o rfl ?_ | refine inb_n ?_ | refine inb_r ?_ | refine Wc.skip ?_ | refine Wc.exit ?_ | refine Wc.ret ?_ | refine Wc.cond_true rfl ?_ | refine Wc.cond_false rfl ?_ | (refine Wc.drawn (id := 5) 6 (by kernel_rfl) ?_) | (refine rgs_nil ?_; intro vs wk hE; replace H := H.ext hE; clear hE) | (refine RGs.bq (fun _ => rfl) rfl (by intro vs w hE hP; have H := H.ext hE; first | exact dbQ | fail) (fun hc => ?_) (fun hc => ?_) <;> ((try simp only [cmpP, decide_eq_true_eq, decide_eq_false_iff_not, dcd_iff, dcd_no] at hc); try exact prDQ)) | refine RGs.pq (fun _ => rfl) rfl (by intro vs w hE hP; have H := H.ext hE; first | exact dvQ | fail) ?_)
  rw [show (i : Int).toNat = i from rfl] at H
  rw [show (i : Int).toNat + (xs.length - ((i : Int) + 1).toNat) = xs.length - 1 by omega, show (((xs.length - 1 : Nat) : Int)).toNat = xs.length - 1 from rfl]
  have hti : cur.take (i * 2) = fl.take (i * 2) := by
    have := congrArg (List.take (i * 2)) hct
    rw [List.take_take, Nat.min_eq_left (by omega)] at this; exact this
  rw [hti, ← hfe] at H
  have hl9 : (E ++ cur.drop (i * 2 + (fl.drop ((i + 1) * 2)).length)).length = c * 2 := by rw [List.length_append, List.length_drop, hlen]; omega
  generalize hM : E ++ cur.drop (i * 2 + (fl.drop ((i + 1) * 2)).length) = M at H hl9
  repeat' (first | ((first | refine WL.p rfl ?_ | refine WL.u ?_); first | (refine opk 1 rfl ?_; (refine ost_clearN (sz := 2) (b := g0) (off := (xs.length - 1) * 2) H rfl rfl (by omega) (adr_addN (q := ((xs.length - 1 : Nat) : Int)) rfl (by omega)) (by decide) rfl (by (exact ixQ)) (by omega) ?_; clear H; intro wk zs hzs H; simp only [List.set_cons_zero] at H)) | refine pvQ ?_ | (refine opk 3 rfl ?_; (refine ost_cmp rfl rfl rfl rfl (fun hc => ?_) (fun hc => ?_) <;> (simp only [cmpP] at hc; try exact prIQ))) | (refine opk 4 rfl ?_; (refine ost_cmp rfl rfl rfl rfl (fun hc => ?_) (fun hc => ?_) <;> (simp only [cmpP] at hc; try exact prIQ)))) | refine Wc.seq ?_ | refine then_n ?_ | refine WL.nil ?_ | refine Wc.region ?_ | refine Wc.block ?_ | refine then_r ?_ | refine then_e ?_ | refine inb_e rfl ?_ | refine inb_o rfl ?_ | refine inb_n ?_ | refine inb_r ?_ | refine Wc.skip ?_ | refine Wc.exit ?_ | refine Wc.ret ?_ | refine Wc.cond_true rfl ?_ | refine Wc.cond_false rfl ?_ | (refine Wc.drawn (id := 5) 6 (by kernel_rfl) ?_) | (refine rgs_nil ?_; intro vs wk hE; replace H := H.ext hE; clear hE) | (refine RGs.bq (fun _ => rfl) rfl (by intro vs w hE hP; have H := H.ext hE; first | exact dbQ | fail) (fun hc => ?_) (fun hc => ?_) <;> ((try simp only [cmpP, decide_eq_true_eq, decide_eq_false_iff_not, dcd_iff, dcd_no] at hc); try exact prDQ)) | refine RGs.pq (fun _ => rfl) rfl (by intro vs w hE hP; have H := H.ext hE; first | exact dvQ | fail) ?_)
  have hMt : M.take ((xs.length - 1) * 2) = E := by rw [← hM]; exact List.take_left' hfEl
  rw [hMt] at H
  have hl8 : (E ++ zs ++ M.drop ((xs.length - 1) * 2 + (((xs.length : Nat) : Int).toNat - (xs.length - 1)) * 2)).length = c * 2 := by
    simp only [List.length_append, List.length_drop]; omega
  have H2 := H.blkOwnN (i := 0) rfl hl8 (n := xs.length - 1) (by omega) hmx.2
  rw [List.append_assoc, List.take_left' hfEl] at H2
  exact fn_ret1 (v := .slice _ _ _) rfl rfl ⟨_, _, H2, rfl, _, c, rfl, by rw [List.length_map, hEl0]; rfl⟩
theorem del_D (a : Option Addr) (c : Nat) (xs : List UInt32) (i : Nat) (hi : i < xs.length) (hb : xs.length ≤ 1000000) (g : FH) (w : World)
    (HO : St w (ownR (.slice a xs.length c) 24 1 (xs.map cKid)).fp g g [ownR (.slice a xs.length c) 24 1 (xs.map cKid)] w) :
    Spec Try.prog 67 #[.slice a xs.length c, .int .i64 i, .int .i64 ((i : Int) + 1)] w (ownR (.slice a xs.length c) 24 1 (xs.map cKid)).fp g (fun v' h' L' => h' = g ∧ ∃ a' c', v' = .slice a' (xs.eraseIdx i).length c' ∧ L' = [ownR (.slice a' (xs.eraseIdx i).length c') 24 1 ((xs.eraseIdx i).map cKid)]) := by
  have hf : ∀ x : UInt32, (cKid x).length = 1 := fun x => rfl
  have hone := ones_kid xs
  have hfl := fl_len hf xs
  have hfe := fl_erase hf xs i
  have hEl : (xs.eraseIdx i).length = xs.length - 1 := by rw [List.length_eraseIdx, if_pos hi]
  have hEl0 := hEl
  have hfEl := fl_len hf (xs.eraseIdx i)
  unfold ownR at *
  rw [List.length_map] at *
  generalize (xs.map cKid).flatten = fl at *
  generalize ((xs.eraseIdx i).map cKid).flatten = E at *
  rw [hEl] at hfEl ⊢
  have H := HO
  have hmx := own_mx H (i := 0) rfl
  have h9 : (maxLen : Nat) ≤ 9223372036854775807 := by decide
  obtain ⟨g0, cur, rfl, hnc, hcl, hct, H9⟩ := H.ownBlk (i := 0) rfl (Nat.lt_of_le_of_lt (Nat.zero_le _) hi)
  clear H; have H := H9; clear H9
  simp only [List.set_cons_zero] at H
  generalize hF9 : (HA.own (.slice (some ⟨g0, 0, none⟩) xs.length c) 24 1 xs.length fl).fp = F9 at H ⊢
  unfold Spec
  refine calls_of Try.func67 rfl Try.ntmps67 (by simp) ?_
  have hadr : (if c = ((i : Int) + 1).toNat then some (⟨g0, 0, none⟩ : Addr) else Option.map (fun x : Addr => x.add (((i : Int) + 1).toNat * 1)) (some (⟨g0, 0, none⟩ : Addr))) = some (if c = i + 1 then ⟨g0, 0, none⟩ else ⟨g0, (i + 1) * 1, none⟩) := by
    rw [show ((i : Int) + 1).toNat = i + 1 by omega]
    split
    · rfl
    · simp [Addr.add]
  have hcell : ∀ j, j < xs.length * 1 → cur[j]? = fl[j]? := fun j hj => by
    have := congrArg (fun l => l[j]?) hct
    simp only [List.getElem?_take, if_pos hj] at this
    exact this
  have hlen : (fl.drop ((i + 1) * 1)).length = (xs.length - (((i : Int) + 1).toNat)) * 1 := by rw [List.length_drop]; omega
  have hsrc : ∀ w' : World, w'.heap[g0]? = some (.cells cur.toArray 24 (0, 0)) → ∀ j v, (fl.drop ((i + 1) * 1))[j]? = some v → w'.cell? ((if c = i + 1 then (⟨g0, 0, none⟩ : Addr) else ⟨g0, (i + 1) * 1, none⟩).add j) = some v := fun w' hw j v hj => by
    have hjl := (List.getElem?_eq_some_iff.1 hj).1
    rw [List.length_drop] at hjl
    rw [if_neg (by omega), cell_add, cell_of_row w' g0 _ _ _ _ hw, List.getElem?_toArray, hcell _ (by omega)]
    rw [List.getElem?_drop] at hj; exact hj
  repeat' (first | ((first | refine WL.p rfl ?_ | refine WL.u ?_); first | (refine opk 1 rfl ?_; (refine ost_appInN (news := fl.drop ((i + 1) * 1)) H rfl rfl rfl hadr (by (exact ixQ)) hlen (hsrc _ H.bI) (by omega) (by rw [hlen]; omega) (fun v hv => hone v (List.mem_of_mem_drop hv)) ?_; clear H; intro wk H; simp only [List.set_cons_zero] at H)) | (refine opk 10 rfl ?_; (refine ost_slice3 rfl rfl rfl rfl rfl (by omega) (by omega) (by omega) (by omega) ?_)) | refine pvQ ?_ | (refine opk 3 rfl ?_; (refine ost_cmp rfl rfl rfl rfl (fun hc => ?_) (fun hc => ?_) <;> (simp only [cmpP] at hc; try exact prIQ))) | (refine opk 4 rfl ?_; (refine ost_cmp rfl rfl rfl rfl (fun hc => ?_) (fun hc => ?_) <;> (simp only [cmpP] at hc; try exact prIQ)))) | refine Wc.seq ?_ | refine then_n ?_ | refine WL.nil ?_ | refine Wc.region ?_ | refine Wc.block ?_ | refine then_r ?_ | refine then_e ?_ | refine inb_e rfl ?_ | refine inb_o rfl ?_ | refine inb_n ?_ | refine inb_r ?_ | refine Wc.skip ?_ | refine Wc.exit ?_ | refine Wc.ret ?_ | refine Wc.cond_true rfl ?_ | refine Wc.cond_false rfl ?_ | (refine Wc.drawn (id := 5) 6 (by kernel_rfl) ?_) | (refine rgs_nil ?_; intro vs wk hE; replace H := H.ext hE; clear hE) | (refine RGs.bq (fun _ => rfl) rfl (by intro vs w hE hP; have H := H.ext hE; first | exact dbQ | fail) (fun hc => ?_) (fun hc => ?_) <;> ((try simp only [cmpP, decide_eq_true_eq, decide_eq_false_iff_not, dcd_iff, dcd_no] at hc); try exact prDQ)) | refine RGs.pq (fun _ => rfl) rfl (by intro vs w hE hP; have H := H.ext hE; first | exact dvQ | fail) ?_)
  rw [show (i : Int).toNat = i from rfl] at H
  rw [show (i : Int).toNat + (xs.length - ((i : Int) + 1).toNat) = xs.length - 1 by omega, show (((xs.length - 1 : Nat) : Int)).toNat = xs.length - 1 from rfl]
  have hti : cur.take (i * 1) = fl.take (i * 1) := by
    have := congrArg (List.take (i * 1)) hct
    rw [List.take_take, Nat.min_eq_left (by omega)] at this; exact this
  rw [hti, ← hfe] at H
  have hl9 : (E ++ cur.drop (i * 1 + (fl.drop ((i + 1) * 1)).length)).length = c * 1 := by rw [List.length_append, List.length_drop, hlen]; omega
  generalize hM : E ++ cur.drop (i * 1 + (fl.drop ((i + 1) * 1)).length) = M at H hl9
  repeat' (first | ((first | refine WL.p rfl ?_ | refine WL.u ?_); first | (refine opk 1 rfl ?_; (refine ost_clearN (sz := 1) (b := g0) (off := (xs.length - 1) * 1) H rfl rfl (by omega) (adr_addN (q := ((xs.length - 1 : Nat) : Int)) rfl (by omega)) (by decide) rfl (by (exact ixQ)) (by omega) ?_; clear H; intro wk zs hzs H; simp only [List.set_cons_zero] at H)) | refine pvQ ?_ | (refine opk 3 rfl ?_; (refine ost_cmp rfl rfl rfl rfl (fun hc => ?_) (fun hc => ?_) <;> (simp only [cmpP] at hc; try exact prIQ))) | (refine opk 4 rfl ?_; (refine ost_cmp rfl rfl rfl rfl (fun hc => ?_) (fun hc => ?_) <;> (simp only [cmpP] at hc; try exact prIQ)))) | refine Wc.seq ?_ | refine then_n ?_ | refine WL.nil ?_ | refine Wc.region ?_ | refine Wc.block ?_ | refine then_r ?_ | refine then_e ?_ | refine inb_e rfl ?_ | refine inb_o rfl ?_ | refine inb_n ?_ | refine inb_r ?_ | refine Wc.skip ?_ | refine Wc.exit ?_ | refine Wc.ret ?_ | refine Wc.cond_true rfl ?_ | refine Wc.cond_false rfl ?_ | (refine Wc.drawn (id := 5) 6 (by kernel_rfl) ?_) | (refine rgs_nil ?_; intro vs wk hE; replace H := H.ext hE; clear hE) | (refine RGs.bq (fun _ => rfl) rfl (by intro vs w hE hP; have H := H.ext hE; first | exact dbQ | fail) (fun hc => ?_) (fun hc => ?_) <;> ((try simp only [cmpP, decide_eq_true_eq, decide_eq_false_iff_not, dcd_iff, dcd_no] at hc); try exact prDQ)) | refine RGs.pq (fun _ => rfl) rfl (by intro vs w hE hP; have H := H.ext hE; first | exact dvQ | fail) ?_)
  have hMt : M.take ((xs.length - 1) * 1) = E := by rw [← hM]; exact List.take_left' hfEl
  rw [hMt] at H
  have hl8 : (E ++ zs ++ M.drop ((xs.length - 1) * 1 + (((xs.length : Nat) : Int).toNat - (xs.length - 1)) * 1)).length = c * 1 := by
    simp only [List.length_append, List.length_drop]; omega
  have H2 := H.blkOwnN (i := 0) rfl hl8 (n := xs.length - 1) (by omega) hmx.2
  rw [List.append_assoc, List.take_left' hfEl] at H2
  exact fn_ret1 (v := .slice _ _ _) rfl rfl ⟨_, _, H2, rfl, _, c, rfl, by rw [List.length_map, hEl0]; rfl⟩
end Go.Tg

