/- Contracts of Go functions that the laws reach: what each call answers and leaves in memory, for all arguments within the bounds that each theorem names. -/
import Derived.Test.YtbfilhaigbebpaaInst
import Derived.Test.YtbfilhaigbebpaaAuto
import Derived.Test.YtbfilhaigbebpaaYI
import Derived.Test.YtbfilhaigbebpaaYG
set_option linter.unusedVariables false
set_option linter.unusedSimpArgs false
set_option maxRecDepth 100000
set_option maxHeartbeats 4000000
namespace Go.Tg
open Go Go.Proofs
theorem nodes_small : ∀ (d : Nat) (s : Sh d), Sh.Ok d s → ∀ x ∈ Sh.nodes d s, x.2.keys.length ≤ 8 ∧ x.2.locs.length ≤ 8 ∧ x.2.kids.length ≤ 8
  | 0, s, h, x, hx => by
    obtain rfl : x = (s.1, Sh.page 0 s) := List.mem_singleton.1 hx
    have h : s.2.length ≤ 8 := h
    exact ⟨by show (s.2.map _).length ≤ 8; rw [List.length_map]; exact h, by show (s.2.map _).length ≤ 8; rw [List.length_map]; exact h, Nat.zero_le _⟩
  | d + 1, s, h, x, hx => by
    have hx : x ∈ (s.1, Sh.page (d + 1) s) :: (s.2.map (Sh.nodes d)).flatten := hx
    rcases List.mem_cons.1 hx with rfl | hx
    · have h8 : s.2.length ≤ 8 := h.2.1
      exact ⟨by show (s.2.map _).length ≤ 8; rw [List.length_map]; exact h8, Nat.zero_le _, by show (s.2.map _).length ≤ 8; rw [List.length_map]; exact h8⟩
    · obtain ⟨l, hl, hxl⟩ := List.mem_flatten.1 hx
      obtain ⟨k, hk, rfl⟩ := List.mem_map.1 hl
      exact nodes_small d k (h.2.2 k hk).1 x hxl
abbrev PgA := PageT × PAd
def cPgA (p : PgA) : List Value := pgV p.1 p.2
theorem cPgA_one (p : PgA) : (cPgA p).all Value.oneCell' = true := rfl
theorem rows_pg (l : List PgA) : ∀ r, r ∈ l.map cPgA → r.length = 4 := by intro r hr; obtain ⟨x, -, rfl⟩ := List.mem_map.1 hr; rfl
def pgAs (l : List PgA) : List HA := (l.map fun p => pgO p.1 p.2).flatten
theorem pgAs_snoc (l : List PgA) (p : PgA) : pgAs (l ++ [p]) = pgAs l ++ [ownR (.slice p.2.ak p.1.keys.length p.2.ck) 42 3 (p.1.keys.map cKey)] ++ [ownR (.slice p.2.al p.1.locs.length p.2.cl) 48 2 (p.1.locs.map cLoc)] ++ [ownR (.slice p.2.ad p.1.kids.length p.2.cd) 24 1 (p.1.kids.map cKid)] := by
  unfold pgAs
  rw [List.map_append, List.flatten_append, List.map_cons, List.map_nil, List.flatten_singleton]
  simp only [pgO, List.append_assoc, List.cons_append, List.nil_append]
theorem St.freezePgs {ws : World} {S : List Nat} {h0 : FH} {L : List HA} {w : World} : ∀ {l : List PgA} {h : FH}, St ws S h0 h (pgAs l ++ L) w → ∃ h', FLe h h' ∧ (∀ p ∈ l, PgR h' p.1 p.2) ∧ St ws S h0 h' L w
  | [], h, H => ⟨h, FLe.refl _, fun p hp => (List.not_mem_nil hp).elim, H⟩
  | p :: l, h, H => by
    have H1 : St ws S h0 h (pgO p.1 p.2 ++ (pgAs l ++ L)) w := H
    obtain ⟨h1, hle1, hp, H2⟩ := H1.freezePg
    obtain ⟨h2, hle2, hr, H3⟩ := St.freezePgs H2
    refine ⟨h2, hle1.trans hle2, fun q hq => ?_, H3⟩
    rcases List.mem_cons.1 hq with rfl | hq
    · exact hp.mono hle2
    · exact hr q hq
theorem tr_Pages (tb mb rb : Nat) (T : TrM) (d : Nat) (s : Sh d) (h0 : FH) (w : World) (hs : Sat h0 w) (hT : TrF h0 tb mb rb T) (hok : Sh.Ok d s) (hrep : Rep h0 T d s) (hl : (Sh.nodes d s).length ≤ 1000000) (hr : (lookM T.roots (Sh.num d s)).isSome = true) :
    Spec Try.prog 25 #[pT tb, .int .u32 ((Sh.num d s).toNat : Nat)] w [] h0 (fun v h' L' => ∃ a c pls, v = .tuple #[.slice a (List.length pls) c, .int .i64 0] ∧ L' = [ownR (.slice a (List.length pls) c) 85 4 (pls.map cPgA), HA.all (pgAs pls)] ∧ pls.map (·.1) = (Sh.nodes d s).map (·.2)) := by
  have H := St.start hs
  have hod := fun w hs => tr_old tb mb rb T (Sh.num d s) h0 w hs hT
  rw [hr, if_pos rfl] at hod
  have hnl : (Sh.nums d s).length = (Sh.nodes d s).length := List.length_map ..
  have hbl := fun w hs => tr_below tb mb rb T h0 hT d s w hs hok hrep (by omega)
  have hsm := nodes_small d s hok
  unfold Spec
  refine calls_of Try.func25 rfl Try.ntmps25 (by simp) ?_
  repeat' (first | ((first | refine WL.p rfl ?_ | refine WL.u ?_); first | (refine opk 1 rfl ?_; first | (refine ost_V H rfl (hod _ H.sat) rfl ?_; clear H; intro wk H) | (refine ost_Sk H rfl (hbl _ H.sat) rfl ?_; clear H; rintro vk wk hfk Lk ⟨e7, a7, c7, rfl, rfl⟩ hle H; simp only [List.cons_append, List.nil_append] at H)) | refine pvQ ?_ | (refine opk 3 rfl ?_; (refine ost_cmp rfl rfl rfl rfl (fun hc => ?_) (fun hc => ?_) <;> (simp only [cmpP] at hc; try exact prIQ))) | (refine opk 4 rfl ?_; (refine ost_cmp rfl rfl rfl rfl (fun hc => ?_) (fun hc => ?_) <;> (simp only [cmpP] at hc; try exact prIQ))) | (refine opk 9 rfl ?_; (refine ost_build1 H rfl rfl rfl evQ lsQ rfl ?_; clear H; intro bk wk H))) | refine Wc.seq ?_ | refine then_n ?_ | refine WL.nil ?_ | refine Wc.region ?_ | refine Wc.block ?_ | refine then_r ?_ | refine then_e ?_ | refine inb_e rfl ?_ | refine inb_o rfl ?_ | refine inb_n ?_ | refine inb_r ?_ | refine Wc.skip ?_ | refine Wc.exit ?_ | refine Wc.ret ?_ | refine Wc.cond_true rfl ?_ | refine Wc.cond_false rfl ?_)
  subst e7
  obtain ⟨a8, c8, h1, e8, hle1, hNs, H7⟩ := H.freezeR (rows1 _)
  injection e8 with e81 _ e83
  subst e81; subst e83
  have H8 := (H7.nilOwn0).nilOwn 85 4
  clear H H7 hod hbl
  have H := H8
  clear H8
  have t1 := hle1 _ _ hT.t
  have t2 := hle1 _ _ hT.m
  refine Wc.loopE (fun s0 m st w' => ∃ (j : Nat) (a : Option Addr) (c : Nat) (pls : List PgA) (g' : FH), m = (Sh.nodes d s).length - j ∧ j ≤ (Sh.nodes d s).length ∧ Agree [7, 9, 20, 21, 22, 23, 24, 25, 26, 27, 28, 29, 30, 31, 32, 33, 34] st s0 ∧ st 20 = .int .i64 j ∧ st 7 = .slice a pls.length c ∧ FLe h1 g' ∧ pls.map (·.1) = ((Sh.nodes d s).take j).map (·.2) ∧ St w [] hfk g' [ownR (.slice a pls.length c) 85 4 (pls.map cPgA), HA.all (pgAs pls)] w') (Sh.nodes d s).length ⟨0, none, 0, [], h1, rfl, by omega, Agree.refl _ _, rfl, rfl, FLe.refl _, by simp, H⟩ ?_
  clear H
  rintro m st w' ⟨j, a, c, pls, g', rfl, hj, hA, e1, e2, hle2, hpm, H⟩
  obtain ⟨j9, rfl⟩ := hA.env2 e1 e2
  clear hA e1 e2
  have hpll : pls.length = j := by
    have := congrArg List.length hpm
    rw [List.length_map, List.length_map, List.length_take] at this; omega
  by_cases hlt : j < (Sh.nodes d s).length
  · have hx : (Sh.nodes d s)[j] ∈ Sh.nodes d s := List.getElem_mem hlt
    obtain ⟨A1, hlk, hPg⟩ := hrep _ hx
    obtain ⟨s1, s2, s3⟩ := hsm _ hx
    have hsucc : (Sh.nodes d s).take (j + 1) = (Sh.nodes d s).take j ++ [(Sh.nodes d s)[j]] := by rw [List.take_add_one, List.getElem?_eq_getElem hlt]; rfl
    obtain ⟨b, off, L9, T9, fr, e2, eb, eg⟩ := hNs.getM (by decide) (show 0 < (Sh.nums d s).length by omega)
    have q2 := eg (j : Int).toNat j (by omega) (by omega)
    have hkn : (Sh.nums d s)[j]'(by omega) = (Sh.nodes d s)[j].1 := List.getElem_map ..
    rw [hkn] at q2
    generalize (Sh.nodes d s)[j] = x at *
    have gc : L9[off + (j : Int).toNat * 1]? = some (.int .u32 (x.1.toNat : Nat)) := by
      have := row_cell q2 (q := 0) (by simp [cKid])
      simpa [cKid] using this
    clear eg q2 hkn hx
    replace eb := hle2 _ _ eb
    replace t1 := hle2 _ _ t1
    replace t2 := hle2 _ _ t2
    subst e2
    have hgm := fun z => getM_look z hlk
    have hcp := fun w hs hP => tree_copied x.2 A1 (full w) w hs hP (by omega) (by omega) (by omega)
    repeat' (first | ((first | refine WL.p rfl ?_ | refine WL.u ?_); first | (refine opk 1 rfl ?_; (refine ost_C H rfl (hcp _ (sat_full _) ((hPg.mono (hle1.trans hle2)).full H)) rfl ?_; clear H; rintro vk wk hfk2 Lk ⟨rfl, A2, rfl, rfl⟩ H; simp only [pgO, List.cons_append, List.nil_append] at H)) | (refine opk 9 rfl ?_; (refine ost_buildR (rows := [cPgA (x.2, A2)]) H rfl (by decide) rfl (by rfl) (evP1 vxQ) (.cons rfl .nil) rfl (fun r hr => by rw [List.mem_singleton.1 hr]; rfl) ?_; clear H; intro bk wk H)) | (refine opk 13 rfl ?_; (refine ost_lookup0 (k := x.1) rfl rfl rfl (H.sat _ _ t2) ?_; rw [hgm])) | refine pvQ ?_ | (refine opk 3 rfl ?_; (refine ost_cmp rfl rfl rfl rfl (fun hc => ?_) (fun hc => ?_) <;> (simp only [cmpP] at hc; try exact prIQ))) | (refine opk 4 rfl ?_; (refine ost_cmp rfl rfl rfl rfl (fun hc => ?_) (fun hc => ?_) <;> (simp only [cmpP] at hc; try exact prIQ))) | (refine opk 9 rfl ?_; (refine ost_build1 H rfl rfl rfl evQ lsQ rfl ?_; clear H; intro bk wk H))) | refine Wc.seq ?_ | refine then_n ?_ | refine WL.nil ?_ | refine Wc.region ?_ | refine Wc.block ?_ | refine then_r ?_ | refine then_e ?_ | refine inb_e rfl ?_ | refine inb_o rfl ?_ | refine inb_n ?_ | refine inb_r ?_ | refine Wc.skip ?_ | refine Wc.exit ?_ | refine Wc.ret ?_ | refine Wc.cond_true rfl ?_ | refine Wc.cond_false rfl ?_)
    have ox := allOne_of (cPgA_one (x.2, A2))
    have hml : (pls.map cPgA).length ≤ 1000000 := by rw [List.length_map]; omega
    have em : pls.map cPgA ++ [cPgA (x.2, A2)] = (pls ++ [(x.2, A2)]).map cPgA := by rw [List.map_append]; rfl
    have el : (pls.map cPgA ++ [cPgA (x.2, A2)]).length = (pls ++ [(x.2, A2)]).length := by rw [em, List.length_map]
    repeat' (first | ((first | refine WL.p rfl ?_ | refine WL.u ?_); first | (refine opk 1 rfl ?_; (refine ost_appR (i := 4) (j := 0) (sz := 4) (rows := pls.map cPgA) (row := cPgA (x.2, A2)) H rfl rfl rfl rfl rfl (by rfl) (by decide) rfl ox rfl (by omega) ?_; clear H; intro aa ca wk H; simp only [List.set_cons_zero, List.set_cons_succ] at H)) | refine pvQ ?_ | (refine opk 3 rfl ?_; (refine ost_cmp rfl rfl rfl rfl (fun hc => ?_) (fun hc => ?_) <;> (simp only [cmpP] at hc; try exact prIQ))) | (refine opk 4 rfl ?_; (refine ost_cmp rfl rfl rfl rfl (fun hc => ?_) (fun hc => ?_) <;> (simp only [cmpP] at hc; try exact prIQ))) | (refine opk 9 rfl ?_; (refine ost_build1 H rfl rfl rfl evQ lsQ rfl ?_; clear H; intro bk wk H))) | refine Wc.seq ?_ | refine then_n ?_ | refine WL.nil ?_ | refine Wc.region ?_ | refine Wc.block ?_ | refine then_r ?_ | refine then_e ?_ | refine inb_e rfl ?_ | refine inb_o rfl ?_ | refine inb_n ?_ | refine inb_r ?_ | refine Wc.skip ?_ | refine Wc.exit ?_ | refine Wc.ret ?_ | refine Wc.cond_true rfl ?_ | refine Wc.cond_false rfl ?_)
    rw [el, em] at H
    replace H : St w [] hfk g' [ownR (.slice aa (pls ++ [(x.2, A2)]).length ca) 85 4 ((pls ++ [(x.2, A2)]).map cPgA), HA.all (pgAs (pls ++ [(x.2, A2)]))] wk := by
      rw [pgAs_snoc]
      have H1 := (H.picks (L' := [_, _, _, _, _]) [1, 5, 2, 3, 4] rfl (by decide)).allSnoc
      have H2 := (H1.picks (L' := [_, _, _, _]) [1, 0, 2, 3] rfl (by decide)).allSnoc
      have H3 := (H2.picks (L' := [_, _, _]) [1, 0, 2] rfl (by decide)).allSnoc
      exact H3.picks (L' := [_, _]) [1, 0] (by simp only [ownR, List.length_map]; rfl) (by decide)
    exact ⟨(Sh.nodes d s).length - (j + 1), by omega, j + 1, aa, ca, pls ++ [(x.2, A2)], g', rfl, by omega, by (repeat' (first | exact Agree.refl _ _ | exact Agree.havoc | refine Agree.upd rfl ?_ | refine Agree.hav2 rfl ?_)), rfl, congrArg (fun n => Value.slice aa n ca) el, hle2, by rw [hsucc, List.map_append, List.map_append, hpm]; rfl, H⟩
  · obtain rfl : j = (Sh.nodes d s).length := by omega
    rw [List.take_length] at hpm
    repeat' (first | ((first | refine WL.p rfl ?_ | refine WL.u ?_); first | refine pvQ ?_ | (refine opk 3 rfl ?_; (refine ost_cmp rfl rfl rfl rfl (fun hc => ?_) (fun hc => ?_) <;> (simp only [cmpP] at hc; try exact prIQ))) | (refine opk 4 rfl ?_; (refine ost_cmp rfl rfl rfl rfl (fun hc => ?_) (fun hc => ?_) <;> (simp only [cmpP] at hc; try exact prIQ))) | (refine opk 9 rfl ?_; (refine ost_build1 H rfl rfl rfl evQ lsQ rfl ?_; clear H; intro bk wk H))) | refine Wc.seq ?_ | refine then_n ?_ | refine WL.nil ?_ | refine Wc.region ?_ | refine Wc.block ?_ | refine then_r ?_ | refine then_e ?_ | refine inb_e rfl ?_ | refine inb_o rfl ?_ | refine inb_n ?_ | refine inb_r ?_ | refine Wc.skip ?_ | refine Wc.exit ?_ | refine Wc.ret ?_ | refine Wc.cond_true rfl ?_ | refine Wc.cond_false rfl ?_)
    exact fn_ret2 (v1 := .slice _ _ _) (v2 := .int _ _) rfl rfl rfl ⟨_, _, H, _, _, pls, rfl, rfl, hpm⟩
end Go.Tg

set_option linter.unusedVariables false
set_option linter.unusedSimpArgs false
set_option maxRecDepth 100000
set_option maxHeartbeats 4000000
namespace Go.Tg
open Go Go.Proofs
def RtOk : (d : Nat) → Sh d → Prop
  | 0, _ => True
  | _ + 1, s => 2 ≤ s.2.length
theorem clps_props : ∀ (d : Nat) (s : Sh d), Sh.Ok d s → Sh.Ok (clps d s).1 (clps d s).2 ∧ Sh.its (clps d s).1 (clps d s).2 = Sh.its d s ∧ (clps d s).1 ≤ d ∧ RtOk (clps d s).1 (clps d s).2
  | 0, s, h => ⟨h, rfl, Nat.le_refl _, trivial⟩
  | d + 1, s, h => by
    by_cases h1 : (s.2 : List (Sh d)).length = 1
    · obtain ⟨c, e⟩ := List.length_eq_one_iff.1 h1
      rw [clps_one e]
      obtain ⟨i1, i2, i3, i4⟩ := clps_props d c (h.2.2 c (by rw [e]; exact List.mem_singleton.2 rfl)).1
      refine ⟨i1, ?_, Nat.le_succ_of_le i3, i4⟩
      rw [i2]
      show Sh.its d c = (s.2.map (Sh.its d)).flatten
      rw [e]
      exact (List.flatten_singleton ..).symm
    · rw [clps_ne h1]
      refine ⟨h, rfl, Nat.le_refl _, ?_⟩
      show 2 ≤ (s.2 : List (Sh d)).length
      have : 1 ≤ (s.2 : List (Sh d)).length := h.1
      omega
theorem grw_props {d : Nat} {R : List (Sh d)} {nx : UInt32} (h : ∀ r ∈ R, Sh.Ok d r ∧ Sh.its d r ≠ []) (h2 : R.length ≤ 2) (hn : nx.toNat + 1 < 4294967296) :
    Sh.Ok (grw d R nx).1.1 (grw d R nx).1.2 ∧ Sh.its (grw d R nx).1.1 (grw d R nx).1.2 = (R.map (Sh.its d)).flatten ∧ (grw d R nx).1.1 ≤ d + 1 ∧ RtOk (grw d R nx).1.1 (grw d R nx).1.2 ∧ (grw d R nx).2.toNat ≤ nx.toNat + 1 := by
  match R, h, h2 with
  | [], _, _ => exact ⟨Nat.zero_le _, rfl, Nat.zero_le _, trivial, by show (nx + 1).toNat ≤ _; rw [u32_up1 hn]; exact Nat.le_refl _⟩
  | [s], h, _ =>
    obtain ⟨i1, i2, i3, i4⟩ := clps_props d s (h s (List.mem_singleton.2 rfl)).1
    exact ⟨i1, by show Sh.its (clps d s).1 (clps d s).2 = _; rw [i2]; exact (List.flatten_singleton ..).symm, Nat.le_succ_of_le i3, i4, Nat.le_succ _⟩
  | [a, b], h, _ =>
    exact ⟨⟨by show 1 ≤ 2; decide, by show 2 ≤ 8; decide, h⟩, rfl, Nat.le_refl _, Nat.le_refl _, by show (nx + 1).toNat ≤ _; rw [u32_up1 hn]; exact Nat.le_refl _⟩
  | _ :: _ :: _ :: l, _, h2 => simp at h2
noncomputable def newS (f : List ItemT → List ItemT) (k : KeyT) (d : Nat) (s : Sh d) (nx : UInt32) : ((d : Nat) × Sh d) × UInt32 := grw d (edS f k d nx s).1 (edS f k d nx s).2
theorem newS_props {f : List ItemT → List ItemT} {k : KeyT} (hf : EdF k f) {d : Nat} {s : Sh d} {nx : UInt32} (hok : Sh.Ok d s) (hs : Srt (Sh.its d s)) (hn : nx.toNat + 2 * (d + 1) + 3 < 4294967296) :
    Sh.Ok (newS f k d s nx).1.1 (newS f k d s nx).1.2 ∧ Sh.its (newS f k d s nx).1.1 (newS f k d s nx).1.2 = f (Sh.its d s) ∧ (newS f k d s nx).1.1 ≤ d + 1 ∧ RtOk (newS f k d s nx).1.1 (newS f k d s nx).1.2 ∧ (newS f k d s nx).2.toNat ≤ nx.toNat + 2 * (d + 1) + 1 := by
  obtain ⟨p1, p2, p3, p4, p5⟩ := edS_props hf d nx s hok hs (by omega)
  unfold newS
  generalize edS f k d nx s = R at *
  obtain ⟨q1, q2, q3, q4, q5⟩ := grw_props (nx := R.2) p1 p3 (by omega)
  exact ⟨q1, by rw [q2, p2], q3, q4, by omega⟩
structure TrI (h : FH) (T : TrM) (d : Nat) (s : Sh d) : Prop where
  ok : Sh.Ok d s
  rt : RtOk d s
  srt : Srt (Sh.its d s)
  rep : Rep h T d s
  fresh : Fresh T
  root : T.root = Sh.num d s
  cnt : lookM T.roots T.root = some (.int .i64 ((Sh.its d s).length : Nat))
theorem TrI.mono {h h' : FH} {T : TrM} {d : Nat} {s : Sh d} (hle : FLe h h') (H : TrI h T d s) : TrI h' T d s := ⟨H.ok, H.rt, H.srt, H.rep.mono hle, H.fresh, H.root, H.cnt⟩
structure Nxt (h : FH) (T T' : TrM) (G : ((d : Nat) × Sh d) × UInt32) : Prop where
  inv : TrI h T' G.1.1 G.1.2
  le : ∀ n v, lookM T.pages n = some v → lookM T'.pages n = some v
  nx : T'.next = G.2
  roots : ∀ n, lookM T'.roots n = if n = T'.root then some (.int .i64 ((Sh.its G.1.1 G.1.2).length : Nat)) else lookM T.roots n
theorem Nxt.mk' {h : FH} {T T1 : TrM} {G : ((d : Nat) × Sh d) × UInt32} (hg : Grown T T1) (hnx : T1.next = G.2) (hrep : Rep h T1 G.1.1 G.1.2) (hok : Sh.Ok G.1.1 G.1.2) (hrt : RtOk G.1.1 G.1.2) (hs : Srt (Sh.its G.1.1 G.1.2)) : Nxt h T (T1.reroot (Sh.num G.1.1 G.1.2) ((Sh.its G.1.1 G.1.2).length : Nat)) G := by
  have hr : ∀ n, lookM (T1.reroot (Sh.num G.1.1 G.1.2) ((Sh.its G.1.1 G.1.2).length : Nat)).roots n = if n = Sh.num G.1.1 G.1.2 then some (.int .i64 ((Sh.its G.1.1 G.1.2).length : Nat)) else lookM T.roots n := fun n => by
    show lookM (setM T1.roots T1.rclk _ _).1 n = _
    rw [lookM_set, hg.roots]
  refine ⟨⟨hok, hrt, hs, hrep, hg.fresh, rfl, ?_⟩, hg.le, hnx, hr⟩
  rw [hr]; exact if_pos rfl
def edPs (m tb mb rb : Nat) (T : TrM) {d : Nat} (R : List (Sh d) × UInt32) : Nat → (Nat → Value) → FH → List HA → Prop
  | 0, _, _, L => L = [trO tb mb rb T]
  | _ + 1, vs, g, L => ∃ T' a c9, vs m = .slice a R.1.length c9 ∧ L = [trO tb mb rb T'] ∧ Eded g T T' d R ∧ Sl g 4 a c9 ((R.1.map (refS d)).map cRef)
theorem fam_tree {g : FH} {m tb mb rb : Nat} {T : TrM} {d : Nat} {R : List (Sh d) × UInt32} {vs : Nat → Value} {dn : Nat → Bool} {L : List HA}
    (hP : piF [m] [] (edPs m tb mb rb T R) vs dn g L) :
    ∃ T', L = [trO tb mb rb T'] ∧ T'.root = T.root ∧ T'.roots = T.roots ∧ T'.rclk = T.rclk := by
  obtain ⟨c, T8, -, -, h3, h4⟩ := hP
  rw [List.append_nil] at h3
  subst h3
  rcases c with _ | c
  · exact ⟨T, h4, rfl, rfl, rfl⟩
  · obtain ⟨T', a, c9, -, e, h5, -⟩ := h4
    exact ⟨T', e, h5.gr.root, h5.gr.roots, h5.gr.rclk⟩
end Go.Tg

set_option linter.unusedVariables false
set_option linter.unusedSimpArgs false
set_option maxRecDepth 100000
set_option maxHeartbeats 4000000
namespace Go.Tg
open Go Go.Proofs
theorem tr_Put_have (tb mb rb : Nat) (T : TrM) (d : Nat) (s : Sh d) (x : ItemT) (g : FH) (w : World) (hT : TrI g T d s) (hm : ∃ y ∈ Sh.its d s, y.key = x.key) (HO : St w (trO tb mb rb T).fp g g [trO tb mb rb T] w) :
    Spec Try.prog 15 #[pT tb, .agg (cItem x).toArray] w (trO tb mb rb T).fp g (fun v h' L' => h' = g ∧ v = .int .i64 8 ∧ L' = [trO tb mb rb T]) := by
  have H := HO
  generalize hF9 : (trO tb mb rb T).fp = F9 at H ⊢
  have lx := cItem_len x
  have lk := cKey_len x.key
  have gk : ((cItem x).drop (0 + 0)).take 3 = cKey x.key := cItem_key x
  have hget := fun w hs hF hR => tr_Get tb mb rb T d s x.key (full w) w hs hF hT.ok hT.srt hR hT.root
  obtain ⟨y, hy, e⟩ := hm
  rw [getI_mem hT.srt hy e] at hget
  have ly := cLoc_len y.loc
  unfold Spec
  refine calls_of Try.func15 rfl Try.ntmps15 (by simp) ?_
  repeat' (first | ((first | refine WL.p rfl ?_ | refine WL.u ?_); first | (refine opk 1 rfl ?_; (refine ost_V H rfl (hget _ (sat_full _) (H.trF (i := 1) rfl) (hT.rep.mono H.sat.le)) rfl ?_; clear H; intro wk H)) | refine pvQ ?_ | (refine opk 3 rfl ?_; (refine ost_cmp rfl rfl rfl rfl (fun hc => ?_) (fun hc => ?_) <;> (simp only [cmpP] at hc; try exact prIQ))) | (refine opk 4 rfl ?_; (refine ost_cmp rfl rfl rfl rfl (fun hc => ?_) (fun hc => ?_) <;> (simp only [cmpP] at hc; try exact prIQ))) | (refine opk 8 rfl ?_; (refine ost_storeW H rfl rfl rfl rfl lQ ixQ lQ okQ ?_; clear H; intro wk H; simp only [List.set_cons_zero, List.set_cons_succ, Nat.reduceAdd] at H)) | (refine opk 9 rfl ?_; first | (refine ost_boxq H rfl ?_; clear H; intro bk wk H) | (refine ost_allocA H rfl ?_; clear H; intro bk wk H))) | refine Wc.seq ?_ | refine then_n ?_ | refine WL.nil ?_ | refine Wc.region ?_ | refine Wc.block ?_ | refine then_r ?_ | refine then_e ?_ | refine inb_e rfl ?_ | refine inb_o rfl ?_ | refine inb_n ?_ | refine inb_r ?_ | refine Wc.skip ?_ | refine Wc.exit ?_ | refine Wc.ret ?_ | refine Wc.cond_true rfl ?_ | refine Wc.cond_false rfl ?_ | (refine Wc.drawn (id := 6) 8 (by kernel_rfl) ?_) | (refine Wc.drawn (id := 8) 20 (by kernel_rfl) ?_) | (refine rgs_nil ?_; intro vs wk hE; replace H := H.ext hE; clear hE) | (refine RGs.bq (fun _ => rfl) rfl (by intro vs w hE hP; have H := H.ext hE; first | exact dbQ | fail) (fun hc => ?_) (fun hc => ?_) <;> ((try simp only [cmpP, decide_eq_true_eq, decide_eq_false_iff_not, dcd_iff, dcd_no] at hc); try exact prDQ)) | refine RGs.pq (fun _ => rfl) rfl (by intro vs w hE hP; have H := H.ext hE; first | exact dvQ | fail) ?_)
  all_goals first | (exfalso; omega) | skip
  exact fn_ret1 (v := .int _ _) rfl rfl ⟨_, _, H.picks (L' := [_]) [2] rfl (by decide), rfl, rfl, rfl⟩
theorem tr_Put_new (tb mb rb : Nat) (T : TrM) (d : Nat) (s : Sh d) (x : ItemT) (g : FH) (w : World) (hT : TrI g T d s) (hm : ∀ y ∈ Sh.its d s, y.key ≠ x.key) (hl : (Sh.its d s).length < 4096) (hn : T.next.toNat + 2 * (d + 1) + 4 < 4294967296) (HO : St w (trO tb mb rb T).fp g g [trO tb mb rb T] w) :
    Spec Try.prog 15 #[pT tb, .agg (cItem x).toArray] w (trO tb mb rb T).fp g (fun v h' L' => ∃ T', v = .int .i64 0 ∧ L' = [trO tb mb rb T'] ∧ Nxt h' T T' (newS (insF x) x.key d s T.next)) := by
  have H := HO
  generalize hF9 : (trO tb mb rb T).fp = F9 at H ⊢
  have lx := cItem_len x
  have lk := cKey_len x.key
  have gk : ((cItem x).drop (0 + 0)).take 3 = cKey x.key := cItem_key x
  have hget := fun w hs hF hR => tr_Get tb mb rb T d s x.key (full w) w hs hF hT.ok hT.srt hR hT.root
  rw [getI_none hm] at hget
  have ly := cLoc_len ⟨0, 0⟩
  have hgr := fun z => getM_look z hT.cnt
  unfold Spec
  refine calls_of Try.func15 rfl Try.ntmps15 (by simp) ?_
  repeat' (first | ((first | refine WL.p rfl ?_ | refine WL.u ?_); first | (refine opk 1 rfl ?_; (refine ost_V H rfl (hget _ (sat_full _) (H.trF (i := 1) rfl) (hT.rep.mono H.sat.le)) rfl ?_; clear H; intro wk H)) | refine pvQ ?_ | (refine opk 3 rfl ?_; (refine ost_cmp rfl rfl rfl rfl (fun hc => ?_) (fun hc => ?_) <;> (simp only [cmpP] at hc; try exact prIQ))) | (refine opk 4 rfl ?_; (refine ost_cmp rfl rfl rfl rfl (fun hc => ?_) (fun hc => ?_) <;> (simp only [cmpP] at hc; try exact prIQ))) | (refine opk 8 rfl ?_; (refine ost_storeW H rfl rfl rfl rfl lQ ixQ lQ okQ ?_; clear H; intro wk H; simp only [List.set_cons_zero, List.set_cons_succ, Nat.reduceAdd] at H)) | (refine opk 9 rfl ?_; first | (refine ost_boxq H rfl ?_; clear H; intro bk wk H) | (refine ost_allocA H rfl ?_; clear H; intro bk wk H))) | refine Wc.seq ?_ | refine then_n ?_ | refine WL.nil ?_ | refine Wc.region ?_ | refine Wc.block ?_ | refine then_r ?_ | refine then_e ?_ | refine inb_e rfl ?_ | refine inb_o rfl ?_ | refine inb_n ?_ | refine inb_r ?_ | refine Wc.skip ?_ | refine Wc.exit ?_ | refine Wc.ret ?_ | refine Wc.cond_true rfl ?_ | refine Wc.cond_false rfl ?_)
  all_goals first | (exfalso; omega) | skip
  obtain ⟨b9, e9⟩ := H.nameB idx0
  subst e9
  obtain ⟨b3, e3⟩ := H.nameB idx1
  subst e3
  replace H := (H.picks (L' := [trO tb mb rb T, .blk b3 _]) [2, 1] rfl (by decide)).split3
  repeat' (first | ((first | refine WL.p rfl ?_ | refine WL.u ?_); first | (refine opk 13 rfl ?_; (refine ost_lookup0 (k := T.root) rfl rfl rfl H.bI ?_; rw [hgr])) | refine pvQ ?_ | (refine opk 3 rfl ?_; (refine ost_cmp rfl rfl rfl rfl (fun hc => ?_) (fun hc => ?_) <;> (simp only [cmpP] at hc; try exact prIQ))) | (refine opk 4 rfl ?_; (refine ost_cmp rfl rfl rfl rfl (fun hc => ?_) (fun hc => ?_) <;> (simp only [cmpP] at hc; try exact prIQ))) | (refine opk 8 rfl ?_; (refine ost_storeW H rfl rfl rfl rfl lQ ixQ lQ okQ ?_; clear H; intro wk H; simp only [List.set_cons_zero, List.set_cons_succ, Nat.reduceAdd] at H)) | (refine opk 9 rfl ?_; first | (refine ost_boxq H rfl ?_; clear H; intro bk wk H) | (refine ost_allocA H rfl ?_; clear H; intro bk wk H))) | refine Wc.seq ?_ | refine then_n ?_ | refine WL.nil ?_ | refine Wc.region ?_ | refine Wc.block ?_ | refine then_r ?_ | refine then_e ?_ | refine inb_e rfl ?_ | refine inb_o rfl ?_ | refine inb_n ?_ | refine inb_r ?_ | refine Wc.skip ?_ | refine Wc.exit ?_ | refine Wc.ret ?_ | refine Wc.cond_true rfl ?_ | refine Wc.cond_false rfl ?_ | (refine Wc.drawn (id := 6) 8 (by kernel_rfl) ?_) | (refine rgs_nil ?_; intro vs wk hE; replace H := H.ext hE; clear hE) | (refine RGs.bq (fun _ => rfl) rfl (by intro vs w hE hP; have H := H.ext hE; first | exact dbQ | fail) (fun hc => ?_) (fun hc => ?_) <;> ((try simp only [cmpP, decide_eq_true_eq, decide_eq_false_iff_not, dcd_iff, dcd_no] at hc); try exact prDQ)) | refine RGs.pq (fun _ => rfl) rfl (by intro vs w hE hP; have H := H.ext hE; first | exact dvQ | fail) ?_)
  obtain ⟨h1, hle, hb3, H7⟩ := (H.picks (L' := [.blk b3 _, .blk tb _, .blk mb _, .blk rb _]) [3, 0, 1, 2] rfl (by decide)).freezeB
  clear H
  have H : St w F9 g h1 [trO tb mb rb T] _ := H7.join3
  clear H7 hget
  have hed := fun g w => tr_edit tb mb rb 39 b3 (.cells (cItem x).toArray 50 (0, 0)) false x.key (insF x) (insF_ed x) (fun its A bq g w h1 h2 _ h4 h5 => tr_put1 x its A bq b3 g w h1 h2 h4 h5) d s T g w hT.ok hT.srt ⟨fun e => (by cases e), fun ⟨y, hy, e⟩ => absurd e (hm y hy)⟩
  have hpr := edS_props (insF_ed x) d T.next s hT.ok hT.srt (by omega)
  have hnw := newS_props (insF_ed x) (nx := T.next) hT.ok hT.srt (by omega)
  have hil : (insF x (Sh.its d s)).length = (Sh.its d s).length + 1 := by
    rw [insF_at hT.srt]
    have := cntK_le ((Sh.its d s).map (·.key)) x.key
    rw [List.length_map] at this
    simp only [List.length_append, List.length_cons, List.length_take, List.length_drop]; omega
  have hsr := insF_srt hT.srt hm
  simp only [← hT.root] at hed
  unfold newS at hnw ⊢
  generalize hR : edS (insF x) x.key d T.next s = R at *
  refine Wc.drawF (id := 8) 20 [9] (piF [9] [] (edPs 9 tb mb rb T R)) H (by kernel_rfl) (by kernel_rfl) (piF_0 (A := [trO tb mb rb T]) rfl) ?_
  clear H
  iterate 9 refine RGf.p rfl (by intro vs w dn g' L hg hd hP H; have hb9 := hg _ _ hb3; obtain ⟨T2, rfl, q1, q2, q3⟩ := fam_tree hP; replace H := H.split3; rw [q1, q2, q3] at H; exact dvQ) ?_
  refine RGf.m rfl (by
    intro vs w dn g' L hg hd hdep hP H
    obtain ⟨T9, rfl, hps, hst⟩ := piF_step (by decide) hP 0 9 rfl hd (.inl rfl)
    obtain rfl : T9 = [trO tb mb rb T] := hps
    refine ost_H H rfl idx0 (fun HO => hed g' _ (hT.rep.mono (hle.trans hg)) hT.fresh (by omega) (hg _ _ hb3) HO) rfl ?_
    rintro vk wk hfk Lk ⟨T', a, c9, e1, rfl, h3, h4⟩ hle9 H2
    exact ⟨hfk, _, hle9, hst _ _ _ ⟨T', a, c9, e1, rfl, h3, h4⟩, H2⟩) ?_
  iterate 8 refine RGf.p rfl (by intro vs w dn g' L hg hd hP H; have hb9 := hg _ _ hb3; obtain ⟨T2, rfl, q1, q2, q3⟩ := fam_tree hP; replace H := H.split3; rw [q1, q2, q3] at H; exact dvQ) ?_
  refine RGf.p rfl (by intro vs w dn g' L hg hd hP H; have hb9 := hg _ _ hb3; obtain ⟨T2, rfl, q1, q2, q3⟩ := fam_tree hP; replace H := H.split3; rw [q1, q2, q3] at H; refine ost_lookup0 (k := T.root) rfl rfl rfl (H.blk (i := 2) rfl) ?_; rw [hgr]; exact ⟨Fr.refl _ _, rfl⟩) ?_
  refine RGf.p rfl (by intro vs w dn g' L hg hd hP H; have hb9 := hg _ _ hb3; obtain ⟨T2, rfl, q1, q2, q3⟩ := fam_tree hP; replace H := H.split3; rw [q1, q2, q3] at H; exact dvQ) ?_
  refine RGf.nil ?_
  intro vs wk dn g' L hg hdn hP H
  obtain ⟨T8, hL, T1, a1, c1, e9, hT8, hd9, hN1⟩ := piF_end hP 9 rfl (hdn 9 rfl)
  subst hT8
  rw [List.append_nil] at hL
  subst hL
  have e9' : vs (0 + 1 + 1 + 1 + 1 + 1 + 1 + 1 + 1 + 1) = _ := e9
  dsimp only
  rw [e9']
  clear e9 e9' hP hdn hed
  obtain ⟨w1, w2, w3, w4, w5⟩ := hnw
  have hgw := fun w HO => tr_grow tb mb rb T1 d R.1 (((Sh.its d s).length : Int) + 1) a1 c1 g' w hpr.2.2.1 hpr.1 hd9.rep hN1 hd9.gr.fresh (by rw [hd9.nx]; omega) HO
  rw [hd9.nx] at hgw
  have e2 : ((Sh.its d s).length : Int) + 1 = ((Sh.its (grw d R.1 R.2).1.1 (grw d R.1 R.2).1.2).length : Nat) := by rw [w2, hil]; rfl
  rw [e2] at hgw ⊢
  have hsr2 : Srt (Sh.its (grw d R.1 R.2).1.1 (grw d R.1 R.2).1.2) := by rw [w2]; exact hsr
  clear hil hsr e2
  repeat' (first | ((first | refine WL.p rfl ?_ | refine WL.u ?_); first | (refine opk 1 rfl ?_; (refine ost_H (A := trO tb mb rb T1) H rfl (by (exact ixQ)) (fun HO => hgw _ HO) rfl ?_; clear H; rintro vk wk hfk Lk ⟨T9, rfl, hg9, hn9, hr9⟩ hle H; simp only [List.cons_append, List.nil_append, List.eraseIdx_cons_zero, List.eraseIdx_cons_succ] at H)) | refine pvQ ?_ | (refine opk 3 rfl ?_; (refine ost_cmp rfl rfl rfl rfl (fun hc => ?_) (fun hc => ?_) <;> (simp only [cmpP] at hc; try exact prIQ))) | (refine opk 4 rfl ?_; (refine ost_cmp rfl rfl rfl rfl (fun hc => ?_) (fun hc => ?_) <;> (simp only [cmpP] at hc; try exact prIQ))) | (refine opk 8 rfl ?_; (refine ost_storeW H rfl rfl rfl rfl lQ ixQ lQ okQ ?_; clear H; intro wk H; simp only [List.set_cons_zero, List.set_cons_succ, Nat.reduceAdd] at H)) | (refine opk 9 rfl ?_; first | (refine ost_boxq H rfl ?_; clear H; intro bk wk H) | (refine ost_allocA H rfl ?_; clear H; intro bk wk H))) | refine Wc.seq ?_ | refine then_n ?_ | refine WL.nil ?_ | refine Wc.region ?_ | refine Wc.block ?_ | refine then_r ?_ | refine then_e ?_ | refine inb_e rfl ?_ | refine inb_o rfl ?_ | refine inb_n ?_ | refine inb_r ?_ | refine Wc.skip ?_ | refine Wc.exit ?_ | refine Wc.ret ?_ | refine Wc.cond_true rfl ?_ | refine Wc.cond_false rfl ?_ | (refine Wc.drawn (id := 6) 8 (by kernel_rfl) ?_) | (refine Wc.drawn (id := 8) 20 (by kernel_rfl) ?_) | (refine rgs_nil ?_; intro vs wk hE; replace H := H.ext hE; clear hE) | (refine RGs.bq (fun _ => rfl) rfl (by intro vs w hE hP; have H := H.ext hE; first | exact dbQ | fail) (fun hc => ?_) (fun hc => ?_) <;> ((try simp only [cmpP, decide_eq_true_eq, decide_eq_false_iff_not, dcd_iff, dcd_no] at hc); try exact prDQ)) | refine RGs.pq (fun _ => rfl) rfl (by intro vs w hE hP; have H := H.ext hE; first | exact dvQ | fail) ?_)
  exact fn_ret1 (v := .int _ _) rfl rfl ⟨_, _, H, _, rfl, rfl, Nxt.mk' (hd9.gr.trans hg9) hn9 hr9 w1 w4 hsr2⟩
end Go.Tg

