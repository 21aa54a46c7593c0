/- Contracts of Go functions that the laws reach: what each call answers and leaves in memory, for all arguments within the bounds that each theorem names. -/
import Derived.Test.YtbfilhaigbebpaaInst
import Derived.Test.YtbfilhaigbebpaaAuto
import Derived.Test.YtbfilhaigbebpaaY5
set_option linter.unusedVariables false
set_option linter.unusedSimpArgs false
set_option maxRecDepth 100000
set_option maxHeartbeats 4000000
namespace Go.Tg
open Go Go.Proofs
theorem St.join4 {ws w : World} {S : List Nat} {h0 h : FH} {L : List HA} {A B C D : HA} (H : St ws S h0 h (A :: B :: C :: D :: L) w) : St ws S h0 h (.both A (.both B (.both C D)) :: L) w := by
  have h1 : St ws S h0 h (B :: C :: D :: A :: L) w := H.perm (List.perm_middle (l₁ := [B, C, D])).symm
  exact (h1.join3.perm (List.Perm.swap _ _ _)).join
theorem St.split4 {ws w : World} {S : List Nat} {h0 h : FH} {L : List HA} {A B C D : HA} (H : St ws S h0 h (.both A (.both B (.both C D)) :: L) w) : St ws S h0 h (A :: B :: C :: D :: L) w := by
  have h1 := (H.split.perm (List.Perm.swap _ _ _)).split3
  exact h1.perm (List.perm_middle (l₁ := [B, C, D]))
abbrev lfP (l : List ItemT) : PageT := ⟨true, l.map (·.key), l.map (·.loc), []⟩
abbrev chO (bq : Nat) (p : PageT) (A : PAd) : HA := .both (.blk bq (.cells (pgV p A).toArray 85 (0, 0))) (.both (ownR (.slice A.ak p.keys.length A.ck) 42 3 (p.keys.map cKey)) (.both (ownR (.slice A.al p.locs.length A.cl) 48 2 (p.locs.map cLoc)) (ownR (.slice A.ad p.kids.length A.cd) 24 1 (p.kids.map cKid))))
structure Eded (h : FH) (T T' : TrM) (d : Nat) (R : List (Sh d) × UInt32) : Prop where
  gr : Grown T T'
  nx : T'.next = R.2
  rep : ∀ r ∈ R.1, Rep h T' d r
theorem Laid.gen {h : FH} {T T' : TrM} {d : Nat} {p : PageT} {R : List (Sh d)} {nx : UInt32} (h1 : sprdP p = R.map fun r => Sh.page d r) (h2 : refsP T.next (R.map fun r => Sh.page d r) = R.map fun r => refS d r) (h3 : nx.toNat = T.next.toNat + R.length) (H : Laid h T T' (sprdP p)) :
    Grown T T' ∧ T'.next = nx ∧ ∀ r ∈ R, Has h T' (Sh.num d r) (Sh.page d r) := by
  rw [h1] at H
  refine ⟨H.gr, UInt32.toNat_inj.1 ?_, fun r hr => ?_⟩
  · rw [H.nx, List.length_map]; exact h3.symm
  · obtain ⟨i, hi, e⟩ := List.getElem_of_mem hr
    exact H.has i (Sh.page d r) (refS d r) (by rw [List.getElem?_map, List.getElem?_eq_getElem hi, e]; rfl) (by rw [h2, List.getElem?_map, List.getElem?_eq_getElem hi, e]; rfl)
theorem Laid.leaf {h : FH} {T T' : TrM} {n : UInt32} {l : List ItemT} (H : Laid h T T' (sprdP (Sh.page 0 (n, l)))) (hn : T.next.toNat + 2 < 4294967296) : Eded h T T' 0 (sprd T.next l, T.next + UInt32.ofNat (sprd T.next l).length) := by
  obtain ⟨h1, h2, h3⟩ := Laid.gen (d := 0) (R := sprd T.next l) (sprd_leaf n T.next l) (refs_leaf _ _) (sprd_nx (by omega)) H
  refine ⟨h1, h2, fun r hr x hx => ?_⟩
  have : x = (r.1, Sh.page 0 r) := List.mem_singleton.1 hx
  subst this
  exact h3 r hr
theorem Laid.node {h : FH} {T T' : TrM} {d : Nat} {n : UInt32} {l : List (Sh d)} (H : Laid h T T' (sprdP (Sh.page (d + 1) (n, l)))) (hn : T.next.toNat + 2 < 4294967296) (hne : ∀ c ∈ l, Sh.its d c ≠ []) (hl : l.length ≤ 10) (hk : ∀ c ∈ l, Rep h T d c) : Eded h T T' (d + 1) (sprd T.next l, T.next + UInt32.ofNat (sprd T.next l).length) := by
  obtain ⟨h1, h2, h3⟩ := Laid.gen (d := d + 1) (R := sprd T.next l) (sprd_node n T.next l) (refs_node _ _ hne) (sprd_nx (by omega)) H
  exact ⟨h1, h2, fun r hr => Rep.mk (h3 r hr) fun c hc => (hk c ((sprd_mem hl hr).2.2 c hc)).grown h1⟩
theorem swapP_node {d : Nat} (n : UInt32) (l : List (Sh d)) (i : Nat) (R : List (Sh d)) : swapP (Sh.page (d + 1) (n, l)) i (R.map (refS d)) = Sh.page (d + 1) (n, l.take i ++ R ++ l.drop (i + 1)) := by
  show PageT.mk _ _ _ _ = PageT.mk _ _ _ _
  simp only [List.map_append, List.map_take, List.map_drop, List.map_map]
  rfl
theorem edS_succ {f : List ItemT → List ItemT} {k : KeyT} {d : Nat} {nx : UInt32} {s : Sh (d + 1)} {c : Sh d} (hc : (s.2 : List (Sh d))[kidI (s.2.map fun c => hdK (Sh.its d c)) k]? = some c) :
    edS f k (d + 1) nx s = (sprd (edS f k d nx c).2 (s.2.take (kidI (s.2.map fun c => hdK (Sh.its d c)) k) ++ (edS f k d nx c).1 ++ s.2.drop (kidI (s.2.map fun c => hdK (Sh.its d c)) k + 1)), (edS f k d nx c).2 + UInt32.ofNat (sprd (edS f k d nx c).2 (s.2.take (kidI (s.2.map fun c => hdK (Sh.its d c)) k) ++ (edS f k d nx c).1 ++ s.2.drop (kidI (s.2.map fun c => hdK (Sh.its d c)) k + 1))).length) := by
  conv => lhs; unfold edS
  rw [hc]
  rfl
theorem tr_edit (tb mb rb cf bx : Nat) [Fun Try.prog cf] (ob : Obj) (q : Bool) (k : KeyT) (f : List ItemT → List ItemT) (hf : EdF k f)
    (hch : ∀ its A bq g w, Srt its → its.length ≤ 8 → (q = true ↔ ∃ x ∈ its, x.key = k) → g bx = some ob → St w (chO bq (lfP its) A).fp g g [chO bq (lfP its) A] w → Spec Try.prog cf #[pT bq, pT bx] w (chO bq (lfP its) A).fp g (fun v h' L' => h' = g ∧ ∃ A', L' = [chO bq (lfP (f its)) A'])) :
    ∀ (d : Nat) (s : Sh d) (T : TrM) (g : FH) (w : World), Sh.Ok d s → Srt (Sh.its d s) → (q = true ↔ ∃ x ∈ Sh.its d s, x.key = k) → Rep g T d s → Fresh T → T.next.toNat + 2 * (d + 1) < 4294967296 → g bx = some ob → St w (trO tb mb rb T).fp g g [trO tb mb rb T] w →
    Spec Try.prog 32 #[pT tb, .int .u32 ((Sh.num d s).toNat : Nat), .agg (cKey k).toArray, .func (.func cf) #[] #[pT bx]] w (trO tb mb rb T).fp g (fun v h' L' => ∃ T' a c, v = .slice a (edS f k d T.next s).1.length c ∧ L' = [trO tb mb rb T'] ∧ Eded h' T T' d (edS f k d T.next s) ∧ Sl h' 4 a c (((edS f k d T.next s).1.map (refS d)).map cRef)) := by
  intro d
  induction d with
  | zero =>
    intro s T g w hok hs hq hrep hfr hn hbx HO
    obtain ⟨A, hlk, hPg⟩ := hrep.top
    obtain ⟨n, l⟩ := s
    have hok : l.length ≤ 8 := hok
    have hs : Srt l := hs
    have hlk : lookM T.pages n = some (.agg (pgV (lfP l) A).toArray) := hlk
    have hPg : PgR g (lfP l) A := hPg
    have lk := cKey_len k
    have hgm := fun z => getM_look z hlk
    have H := HO.split3
    generalize hF9 : (trO tb mb rb T).fp = F9 at H ⊢
    have lp := pgV_len (lfP l) A
    unfold Spec
    refine calls_of Try.func32 rfl Try.ntmps32 (by simp) ?_
    repeat' (first | ((first | refine WL.p rfl ?_ | refine WL.u ?_); first | (refine opk 13 rfl ?_; (refine ost_lookup0 (k := n) rfl rfl rfl H.bI ?_; rw [hgm])) | refine pvQ ?_ | (refine opk 8 rfl ?_; (refine ost_storeW H rfl rfl rfl rfl lQ ixQ lQ okQ ?_; clear H; intro wk H; simp only [List.set_cons_zero, List.set_cons_succ, Nat.reduceAdd] at H)) | (refine opk 9 rfl ?_; first | (refine ost_boxq H rfl ?_; clear H; intro bk wk H) | (refine ost_allocA H rfl ?_; clear H; intro bk wk H))) | refine Wc.seq ?_ | refine then_n ?_ | refine WL.nil ?_ | refine Wc.region ?_ | refine Wc.block ?_ | refine then_r ?_ | refine then_e ?_ | refine inb_e rfl ?_ | refine inb_o rfl ?_ | refine inb_n ?_ | refine inb_r ?_ | refine Wc.skip ?_ | refine Wc.exit ?_ | refine Wc.ret ?_ | refine Wc.cond_true rfl ?_ | refine Wc.cond_false rfl ?_)
    have hcp := fun w hs hP => tree_copied (lfP l) A (full w) w hs hP (by show (l.map _).length ≤ _; rw [List.length_map]; omega) (by show (l.map _).length ≤ _; rw [List.length_map]; omega) (Nat.zero_le _)
    repeat' (first | ((first | refine WL.p rfl ?_ | refine WL.u ?_); first | (refine opk 1 rfl ?_; (refine ost_C H rfl (hcp _ (sat_full _) (hPg.full H)) rfl ?_; clear H; rintro vk wk hfk Lk ⟨rfl, A2, rfl, rfl⟩ H; simp only [pgO, List.cons_append, List.nil_append] at H)) | refine pvQ ?_ | (refine opk 8 rfl ?_; (refine ost_storeW H rfl rfl rfl rfl lQ ixQ lQ okQ ?_; clear H; intro wk H; simp only [List.set_cons_zero, List.set_cons_succ, Nat.reduceAdd] at H)) | (refine opk 9 rfl ?_; first | (refine ost_boxq H rfl ?_; clear H; intro bk wk H) | (refine ost_allocA H rfl ?_; clear H; intro bk wk H))) | refine Wc.seq ?_ | refine then_n ?_ | refine WL.nil ?_ | refine Wc.region ?_ | refine Wc.block ?_ | refine then_r ?_ | refine then_e ?_ | refine inb_e rfl ?_ | refine inb_o rfl ?_ | refine inb_n ?_ | refine inb_r ?_ | refine Wc.skip ?_ | refine Wc.exit ?_ | refine Wc.ret ?_ | refine Wc.cond_true rfl ?_ | refine Wc.cond_false rfl ?_)
    obtain ⟨bq, ebq⟩ := H.nameB idx0
    subst ebq
    replace H : St w F9 g g (chO bq (lfP l) A2 :: _) _ := H.join4
    have hcc := fun w HO => hch l A2 bq g w hs hok hq hbx HO
    repeat' (first | ((first | refine WL.p rfl ?_ | refine WL.u ?_); first | (refine opk 1 rfl ?_; (refine ost_HE (A := chO bq (lfP l) A2) H (ent_v rfl rfl rfl) (by (exact ixQ)) (fun HO => hcc _ HO) ?_; clear H; rintro vk wk hfk Lk ⟨rfl, A3, rfl⟩ hle H; simp only [List.cons_append, List.nil_append, List.eraseIdx_cons_zero, List.eraseIdx_cons_succ] at H)) | refine pvQ ?_ | (refine opk 8 rfl ?_; (refine ost_storeW H rfl rfl rfl rfl lQ ixQ lQ okQ ?_; clear H; intro wk H; simp only [List.set_cons_zero, List.set_cons_succ, Nat.reduceAdd] at H)) | (refine opk 9 rfl ?_; first | (refine ost_boxq H rfl ?_; clear H; intro bk wk H) | (refine ost_allocA H rfl ?_; clear H; intro bk wk H))) | refine Wc.seq ?_ | refine then_n ?_ | refine WL.nil ?_ | refine Wc.region ?_ | refine Wc.block ?_ | refine then_r ?_ | refine then_e ?_ | refine inb_e rfl ?_ | refine inb_o rfl ?_ | refine inb_n ?_ | refine inb_r ?_ | refine Wc.skip ?_ | refine Wc.exit ?_ | refine Wc.ret ?_ | refine Wc.cond_true rfl ?_ | refine Wc.cond_false rfl ?_)
    replace H := H.split4
    have lp3 := pgV_len (lfP (f l)) A3
    repeat' (first | ((first | refine WL.p rfl ?_ | refine WL.u ?_); first | refine pvQ ?_ | (refine opk 8 rfl ?_; (refine ost_storeW H rfl rfl rfl rfl lQ ixQ lQ okQ ?_; clear H; intro wk H; simp only [List.set_cons_zero, List.set_cons_succ, Nat.reduceAdd] at H)) | (refine opk 9 rfl ?_; first | (refine ost_boxq H rfl ?_; clear H; intro bk wk H) | (refine ost_allocA H rfl ?_; clear H; intro bk wk H))) | refine Wc.seq ?_ | refine then_n ?_ | refine WL.nil ?_ | refine Wc.region ?_ | refine Wc.block ?_ | refine then_r ?_ | refine then_e ?_ | refine inb_e rfl ?_ | refine inb_o rfl ?_ | refine inb_n ?_ | refine inb_r ?_ | refine Wc.skip ?_ | refine Wc.exit ?_ | refine Wc.ret ?_ | refine Wc.cond_true rfl ?_ | refine Wc.cond_false rfl ?_)
    have hfl : (f l).length ≤ 9 := by have := hf.len l hs; omega
    obtain ⟨h2, hle2, hPn, H7⟩ := (H.picks (L' := pgO (lfP (f l)) A3 ++ [.blk tb _, .blk mb _, .blk rb _]) [1, 2, 3, 6, 7, 8] rfl (by decide)).freezePg
    clear H
    have H : St w F9 _ h2 [trO tb mb rb T] _ := H7.join3
    clear H7
    have hsp := fun w HO => tr_spread tb mb rb T (lfP (f l)) A3 h2 w hPn (by show ((f l).map _).length ≤ _; rw [List.length_map]; omega) (by intro _; show ((f l).map _).length = ((f l).map _).length; rw [List.length_map, List.length_map]) (by intro e; cases e) hfr (by omega) HO
    repeat' (first | ((first | refine WL.p rfl ?_ | refine WL.u ?_); first | (refine opk 1 rfl ?_; (refine ost_H (A := trO tb mb rb T) H rfl (by (exact ixQ)) (fun HO => hsp _ HO) rfl ?_; clear H; rintro vk wk hfk Lk ⟨T9, a9, c9, rfl, rfl, hl9, hN9⟩ hle H; simp only [List.cons_append, List.nil_append, List.eraseIdx_cons_zero, List.eraseIdx_cons_succ] at H)) | refine pvQ ?_ | (refine opk 8 rfl ?_; (refine ost_storeW H rfl rfl rfl rfl lQ ixQ lQ okQ ?_; clear H; intro wk H; simp only [List.set_cons_zero, List.set_cons_succ, Nat.reduceAdd] at H)) | (refine opk 9 rfl ?_; first | (refine ost_boxq H rfl ?_; clear H; intro bk wk H) | (refine ost_allocA H rfl ?_; clear H; intro bk wk H))) | refine Wc.seq ?_ | refine then_n ?_ | refine WL.nil ?_ | refine Wc.region ?_ | refine Wc.block ?_ | refine then_r ?_ | refine then_e ?_ | refine inb_e rfl ?_ | refine inb_o rfl ?_ | refine inb_n ?_ | refine inb_r ?_ | refine Wc.skip ?_ | refine Wc.exit ?_ | refine Wc.ret ?_ | refine Wc.cond_true rfl ?_ | refine Wc.cond_false rfl ?_)
    have e1 : sprdP (lfP (f l)) = (edS f k 0 T.next (n, l)).1.map fun r => Sh.page 0 r := sprd_leaf n T.next (f l)
    have e2 : refsP T.next ((edS f k 0 T.next (n, l)).1.map fun r => Sh.page 0 r) = (edS f k 0 T.next (n, l)).1.map (refS 0) := refs_leaf T.next (f l)
    have hd := Laid.leaf (n := n) (l := f l) hl9 (by omega)
    rw [e1, e2] at hN9
    rw [e1, List.length_map]
    exact fn_ret1 (v := .slice _ _ _) rfl rfl ⟨_, _, H, T9, a9, c9, rfl, rfl, hd, hN9⟩
  | succ d ih =>
    intro s T g w hok hs hq hrep hfr hn hbx HO
    have hright := Sh.right (d + 1) s hok hs
    obtain ⟨c, hc, hcm, hk1, hk2, hk3⟩ := kid_at hok hs k
    have hci := edS_succ (f := f) (nx := T.next) hc
    have hki : kidP (Sh.page (d + 1) s) k = kidI (s.2.map fun c => hdK (Sh.its d c)) k := kidP_right hright k
    obtain ⟨A, hlk, hPg⟩ := hrep.top
    have hcrep := hrep.kid hcm
    have hcs : Srt (Sh.its d c) := by rw [hk3, Srt.app, Srt.app] at hs; exact hs.1.2.1
    have hcq : q = true ↔ ∃ x ∈ Sh.its d c, x.key = k := by
      rw [hq, hk3]
      constructor
      · rintro ⟨x, hx, e⟩
        rcases List.mem_append.1 hx with hx | hx
        · rcases List.mem_append.1 hx with hx | hx
          · have := hk1 x hx; rw [e] at this; omega
          · exact ⟨x, hx, e⟩
        · have := hk2 x hx; rw [e] at this; omega
      · rintro ⟨x, hx, e⟩; exact ⟨x, by simp [hx], e⟩
    have hprops := edS_props hf d T.next c (hok.2.2 c hcm).1 hcs (by omega)
    rw [hci]
    clear hci hk1 hk2 hk3
    generalize kidI (s.2.map fun c => hdK (Sh.its d c)) k = i at *
    have hilt : i < s.2.length := (List.getElem?_eq_some_iff.1 hc).1
    have hsl : s.2.length ≤ 8 := hok.2.1
    have lk := cKey_len k
    have hgm := fun z => getM_look z hlk
    have lp := pgV_len (Sh.page (d + 1) s) A
    have hlf : (Sh.page (d + 1) s).leaf = false := rfl
    have hkeys : (Sh.page (d + 1) s).keys.length = s.2.length := List.length_map ..
    have hkids : (Sh.page (d + 1) s).kids.length = s.2.length := List.length_map ..
    have hkd := fun w hs hP => tree_kid (Sh.page (d + 1) s) A k (full w) w hs hP
    rw [hki] at hkd
    have ihc := fun g w h1 h2 HO => ih c T g w (hok.2.2 c hcm).1 hcs hcq h1 hfr (by omega) h2 HO
    have H := HO.split3
    generalize hF9 : (trO tb mb rb T).fp = F9 at H ⊢
    unfold Spec
    refine calls_of Try.func32 rfl Try.ntmps32 (by simp) ?_
    repeat' (first | ((first | refine WL.p rfl ?_ | refine WL.u ?_); first | (refine opk 1 rfl ?_; (refine ost_V H rfl (hkd _ (sat_full _) (hPg.full H)) rfl ?_; clear H; intro wk H)) | (refine opk 13 rfl ?_; (refine ost_lookup0 (k := Sh.num (d + 1) s) rfl rfl rfl H.bI ?_; rw [hgm])) | refine pvQ ?_ | (refine opk 8 rfl ?_; (refine ost_storeW H rfl rfl rfl rfl lQ ixQ lQ okQ ?_; clear H; intro wk H; simp only [List.set_cons_zero, List.set_cons_succ, Nat.reduceAdd] at H)) | (refine opk 9 rfl ?_; first | (refine ost_boxq H rfl ?_; clear H; intro bk wk H) | (refine ost_allocA H rfl ?_; clear H; intro bk wk H))) | refine Wc.seq ?_ | refine then_n ?_ | refine WL.nil ?_ | refine Wc.region ?_ | refine Wc.block ?_ | refine then_r ?_ | refine then_e ?_ | refine inb_e rfl ?_ | refine inb_o rfl ?_ | refine inb_n ?_ | refine inb_r ?_ | refine Wc.skip ?_ | refine Wc.exit ?_ | refine Wc.ret ?_ | refine Wc.cond_true rfl ?_ | refine Wc.cond_false rfl ?_)
    obtain ⟨b9, e9⟩ := H.nameB idx0
    subst e9
    obtain ⟨b6, e6⟩ := H.nameB idx1
    subst e6
    obtain ⟨h1, hle1, hb9, H7⟩ := H.freezeB
    clear H; have H := H7; clear H7
    obtain ⟨h2, hle2, hb6, H7⟩ := H.freezeB
    clear H
    have H : St w F9 g h2 [trO tb mb rb T] _ := H7.join3
    clear H7 hkd
    replace hb9 := hle2 _ _ hb9
    have hle := hle1.trans hle2
    obtain ⟨b, off, L9, T9, fr, e2, eb, eg⟩ := hPg.d.getM (by decide) (show 0 < (Sh.page (d + 1) s).kids.length by omega)
    have g1 := eg (i : Int).toNat i (by omega) (by omega)
    have hkn : (Sh.page (d + 1) s).kids[i]'(by omega) = Sh.num d c := by
      have : (s.2.map (Sh.num d))[i]? = some (Sh.num d c) := by rw [List.getElem?_map, hc]; rfl
      exact (List.getElem?_eq_some_iff.1 this).2
    rw [hkn] at g1
    have gc : L9[off + (i : Int).toNat * 1]? = some (.int .u32 ((Sh.num d c).toNat : Nat)) := by
      have := row_cell g1 (q := 0) (by simp [cKid])
      simpa [cKid] using this
    clear eg g1 hkn
    replace eb := hle _ _ eb
    obtain ⟨ak, ck, al, cl, ad, cd⟩ := A
    dsimp only at e2
    subst e2
    refine Wc.drawF (id := 7) 12 [11] (piF [11] [] fun cc vs g L => match cc with
      | 0 => L = [trO tb mb rb T]
      | _ => ∃ T' a c9, vs 11 = .slice a (edS f k d T.next c).1.length c9 ∧ L = [trO tb mb rb T'] ∧ Eded g T T' d (edS f k d T.next c) ∧ Sl g 4 a c9 (((edS f k d T.next c).1.map (refS d)).map cRef)) H (by kernel_rfl) (by kernel_rfl) (piF_0 (A := [trO tb mb rb T]) rfl) ?_
    clear H
    iterate 11 refine RGf.p rfl (by intro vs w dn g' L hg hd hP H; have h91 := hg _ _ hb9; have h92 := hg _ _ hb6; have eb1 := hg _ _ eb; exact dvQ) ?_
    refine RGf.m rfl (by
      intro vs w dn g' L hg hd hdep hP H
      obtain ⟨T9, rfl, hps, hst⟩ := piF_step (by decide) hP 0 11 rfl hd (.inl rfl)
      subst hps
      refine ost_H H rfl idx0 (fun HO => ihc g' _ (hcrep.mono (hle.trans hg)) (hg _ _ (hle _ _ hbx)) HO) rfl ?_
      rintro vk wk hfk Lk ⟨T', a, c9, e1, rfl, h3, h4⟩ hle9 H2
      exact ⟨hfk, _, hle9, hst _ _ _ ⟨T', a, c9, e1, rfl, h3, h4⟩, H2⟩) ?_
    refine RGf.nil ?_
    intro vs wk dn g' L hg hdn hP H
    obtain ⟨T8, hL, T1, a1, c1, e11, hT8, hed, hN1⟩ := piF_end hP 11 rfl (hdn 11 rfl)
    subst hT8
    rw [List.append_nil] at hL
    subst hL
    have e11' : vs (0 + 1 + 1 + 1 + 1 + 1 + 1 + 1 + 1 + 1 + 1 + 1) = _ := e11
    dsimp only
    rw [e11']
    clear e11 e11' hP hdn ihc
    obtain ⟨p1, p2, p3, p4, p5⟩ := hprops
    generalize edS f k d T.next c = R at *
    have hsw := fun w HO => tr_swap tb mb rb T1 (Sh.page (d + 1) s) ⟨ak, ck, al, cl, some ⟨b, off, none⟩, cd⟩ i (R.1.map (refS d)) a1 c1 g' w (hPg.mono (hle.trans hg)) hN1 hlf (by omega) (by omega) rfl (by omega) (by rw [List.length_map]; exact p3) hed.gr.fresh (by rw [hed.nx]; omega) HO
    have e1 : swapP (Sh.page (d + 1) s) i (R.1.map (refS d)) = Sh.page (d + 1) (s.1, s.2.take i ++ R.1 ++ s.2.drop (i + 1)) := swapP_node s.1 s.2 i R.1
    rw [e1, List.length_map, hed.nx] at hsw
    have hall : ∀ x ∈ s.2.take i ++ R.1 ++ s.2.drop (i + 1), Sh.its d x ≠ [] ∧ Rep g' T1 d x := fun x hx => by
      have hold : ∀ y ∈ s.2, Sh.its d y ≠ [] ∧ Rep g' T1 d y := fun y hy => ⟨(hok.2.2 y hy).2, ((hrep.kid hy).mono (hle.trans hg)).grown hed.gr⟩
      rcases List.mem_append.1 hx with hx | hx
      · rcases List.mem_append.1 hx with hx | hx
        · exact hold x (List.mem_of_mem_take hx)
        · exact ⟨(p1 x hx).2, hed.rep x hx⟩
      · exact hold x (List.mem_of_mem_drop hx)
    have hMl : (s.2.take i ++ R.1 ++ s.2.drop (i + 1)).length ≤ 10 := by
      simp only [List.length_append, List.length_take, List.length_drop]; omega
    generalize s.2.take i ++ R.1 ++ s.2.drop (i + 1) = M at *
    repeat' (first | ((first | refine WL.p rfl ?_ | refine WL.u ?_); first | (refine opk 1 rfl ?_; (refine ost_H (A := trO tb mb rb T1) H rfl (by (exact ixQ)) (fun HO => hsw _ HO) rfl ?_; clear H; rintro vk wk hfk Lk ⟨T9, a9, c9, rfl, rfl, hl9, hN9⟩ hle H; simp only [List.cons_append, List.nil_append, List.eraseIdx_cons_zero, List.eraseIdx_cons_succ] at H)) | refine pvQ ?_ | (refine opk 8 rfl ?_; (refine ost_storeW H rfl rfl rfl rfl lQ ixQ lQ okQ ?_; clear H; intro wk H; simp only [List.set_cons_zero, List.set_cons_succ, Nat.reduceAdd] at H)) | (refine opk 9 rfl ?_; first | (refine ost_boxq H rfl ?_; clear H; intro bk wk H) | (refine ost_allocA H rfl ?_; clear H; intro bk wk H))) | refine Wc.seq ?_ | refine then_n ?_ | refine WL.nil ?_ | refine Wc.region ?_ | refine Wc.block ?_ | refine then_r ?_ | refine then_e ?_ | refine inb_e rfl ?_ | refine inb_o rfl ?_ | refine inb_n ?_ | refine inb_r ?_ | refine Wc.skip ?_ | refine Wc.exit ?_ | refine Wc.ret ?_ | refine Wc.cond_true rfl ?_ | refine Wc.cond_false rfl ?_ | (refine Wc.drawn (id := 7) 12 (by kernel_rfl) ?_) | (refine rgs_nil ?_; intro vs wk hE; replace H := H.ext hE; clear hE) | (refine RGs.bq (fun _ => rfl) rfl (by intro vs w hE hP; have H := H.ext hE; first | exact dbQ | fail) (fun hc => ?_) (fun hc => ?_) <;> ((try simp only [cmpP, decide_eq_true_eq, decide_eq_false_iff_not, dcd_iff, dcd_no] at hc); try exact prDQ)) | refine RGs.pq (fun _ => rfl) rfl (by intro vs w hE hP; have H := H.ext hE; first | exact dvQ | fail) ?_)
    have e2 : sprdP (Sh.page (d + 1) (s.1, M)) = (sprd R.2 M).map fun r => Sh.page (d + 1) r := sprd_node s.1 R.2 M
    have e3 : refsP R.2 ((sprd R.2 M).map fun r => Sh.page (d + 1) r) = (sprd R.2 M).map (refS (d + 1)) := refs_node R.2 M fun x hx => (hall x hx).1
    have hd := Laid.node (n := s.1) (l := M) hl9 (by rw [hed.nx]; omega) (fun x hx => (hall x hx).1) hMl (fun x hx => (hall x hx).2.mono hle)
    rw [hed.nx] at hd
    have el : (sprdP (Sh.page (d + 1) (s.1, M))).length = (sprd R.2 M).length := (congrArg List.length e2).trans (List.length_map ..)
    rw [e2, e3] at hN9
    rw [el]
    exact fn_ret1 (v := .slice _ _ _) rfl rfl ⟨_, _, H, T9, a9, c9, rfl, rfl, ⟨hed.gr.trans hd.gr, hd.nx, hd.rep⟩, hN9⟩
end Go.Tg

set_option linter.unusedVariables false
set_option linter.unusedSimpArgs false
set_option maxRecDepth 100000
set_option maxHeartbeats 4000000
namespace Go.Tg
open Go Go.Proofs
def insF (x : ItemT) (l : List ItemT) : List ItemT := l.filter (fun y => lessK y.key x.key) ++ x :: l.filter fun y => !lessK y.key x.key
def delF (k : KeyT) (l : List ItemT) : List ItemT := l.filter fun y => !(keyN y.key == keyN k)
theorem filt_all {l : List ItemT} {p : ItemT → Bool} (h : ∀ x ∈ l, p x = true) : l.filter p = l := List.filter_eq_self.2 h
theorem filt_no {l : List ItemT} {p : ItemT → Bool} (h : ∀ x ∈ l, p x = false) : l.filter p = [] := List.filter_eq_nil_iff.2 fun x hx => by rw [h x hx]; exact Bool.false_ne_true
theorem insF_ed (x : ItemT) : EdF x.key (insF x) where
  app pre mid post h1 h2 := by
    have a1 : ∀ y ∈ pre, lessK y.key x.key = true := fun y hy => lessK_iff.2 (h1 y hy)
    have a2 : ∀ y ∈ post, lessK y.key x.key = false := fun y hy => by
      have := h2 y hy
      cases h : lessK y.key x.key with
      | false => rfl
      | true => have := lessK_iff.1 h; omega
    unfold insF
    simp only [List.filter_append]
    rw [filt_all a1, filt_no a2, filt_no (l := pre) (p := fun y => !lessK y.key x.key) (fun y hy => by rw [a1 y hy]; rfl), filt_all (l := post) (p := fun y => !lessK y.key x.key) (fun y hy => by rw [a2 y hy]; rfl)]
    simp
  len l hs := by
    unfold insF
    have := List.length_eq_countP_add_countP (fun y => lessK y.key x.key) (l := l)
    rw [List.length_append, List.length_cons, ← List.countP_eq_length_filter, ← List.countP_eq_length_filter]
    have e : l.countP (fun y => !lessK y.key x.key) = l.countP (fun a => decide ¬ lessK a.key x.key = true) := by
      apply List.countP_congr; intro a ha; simp
    rw [e]; omega
theorem delF_ed (k : KeyT) : EdF k (delF k) where
  app pre mid post h1 h2 := by
    unfold delF
    simp only [List.filter_append]
    rw [filt_all (l := pre) (fun y hy => by have := h1 y hy; simp; omega), filt_all (l := post) (fun y hy => by have := h2 y hy; simp; omega)]
  len l hs := by
    have := List.length_filter_le (fun y => !(keyN y.key == keyN k)) l
    unfold delF; omega
theorem cntK_cons (k : KeyT) (y : KeyT) (ks : List KeyT) : cntK (y :: ks) k = cntK ks k + if lessK y k = true then 1 else 0 := by
  unfold cntK; rw [List.countP_cons]
theorem filt_take {k : KeyT} : ∀ {l : List ItemT}, Srt l → l.filter (fun y => lessK y.key k) = l.take (cntK (l.map (·.key)) k) ∧ l.filter (fun y => !lessK y.key k) = l.drop (cntK (l.map (·.key)) k)
  | [], _ => ⟨rfl, rfl⟩
  | y :: l, hs => by
    obtain ⟨h1, h2⟩ := List.pairwise_cons.1 hs
    obtain ⟨i1, i2⟩ := filt_take (k := k) h2
    rw [List.map_cons, cntK_cons, List.filter_cons, List.filter_cons]
    cases hy : lessK y.key k with
    | true =>
      simp only [if_true, Bool.not_true, Bool.false_eq_true, if_false]
      rw [i1, i2, List.take_succ_cons, List.drop_succ_cons]
      exact ⟨rfl, rfl⟩
    | false =>
      have hn : ∀ z ∈ l, lessK z.key k = false := fun z hz => by
        have a := h1 z hz
        cases h : lessK z.key k with
        | false => rfl
        | true =>
          have b := lessK_iff.1 h
          have : lessK y.key k = true := lessK_iff.2 (by omega)
          rw [hy] at this; cases this
      have h0 : cntK (l.map (·.key)) k = 0 := by
        unfold cntK
        exact List.countP_eq_zero.2 fun z hz => by
          obtain ⟨w, hw, rfl⟩ := List.mem_map.1 hz
          rw [hn w hw]; exact Bool.false_ne_true
      simp only [Bool.false_eq_true, if_false, Bool.not_false, if_true, Nat.add_zero]
      rw [h0, filt_no hn, filt_all (l := l) (p := fun y => !lessK y.key k) (fun z hz => by rw [hn z hz]; rfl)]
      exact ⟨rfl, rfl⟩
theorem insF_at {x : ItemT} {l : List ItemT} (hs : Srt l) : insF x l = l.take (cntK (l.map (·.key)) x.key) ++ x :: l.drop (cntK (l.map (·.key)) x.key) := by
  unfold insF; rw [(filt_take hs).1, (filt_take hs).2]
theorem delF_at {k : KeyT} {l : List ItemT} (hs : Srt l) (hm : ∃ x ∈ l, x.key = k) : cntK (l.map (·.key)) k < l.length ∧ delF k l = l.eraseIdx (cntK (l.map (·.key)) k) := by
  obtain ⟨x, hx, hk⟩ := hm
  obtain ⟨i1, i2⟩ := filt_take (k := k) hs
  have hh : hasK (l.map (·.key)) k = true := by unfold hasK; rw [dcd_iff, ← hk]; exact List.mem_map.2 ⟨x, hx, rfl⟩
  obtain ⟨hc, he⟩ := (hasK_cnt hs.sorted).1 hh
  rw [List.length_map] at hc
  rw [List.getElem_map] at he
  generalize hc9 : cntK (l.map (·.key)) k = c at *
  refine ⟨hc, ?_⟩
  rw [List.eraseIdx_eq_take_drop_succ]
  have e : l = l.take c ++ l[c] :: l.drop (c + 1) := by rw [← List.drop_eq_getElem_cons hc, List.take_append_drop]
  have hs2 := hs
  rw [e, Srt.app] at hs2
  obtain ⟨s1, s2, s3⟩ := hs2
  unfold delF
  conv => lhs; rw [e]
  rw [List.filter_append, List.filter_cons]
  rw [filt_all (l := l.take c) (fun y hy => by have := s3 y hy l[c] List.mem_cons_self; rw [he] at this; simp; omega)]
  rw [filt_all (l := l.drop (c + 1)) (fun y hy => by have := (List.pairwise_cons.1 s2).1 y hy; rw [he] at this; simp; omega)]
  rw [he]; simp
theorem insF_srt {x : ItemT} {l : List ItemT} (hs : Srt l) (hn : ∀ y ∈ l, y.key ≠ x.key) : Srt (insF x l) := by
  unfold insF
  rw [Srt.app]
  refine ⟨hs.filter _, List.pairwise_cons.2 ⟨fun y hy => ?_, hs.filter _⟩, fun a ha b hb => ?_⟩
  · obtain ⟨h1, h2⟩ := List.mem_filter.1 hy
    have h3 : ¬ keyN y.key < keyN x.key := fun h => by rw [lessK_iff.2 h] at h2; cases h2
    have h4 : keyN y.key ≠ keyN x.key := fun h => hn y h1 (keyN_inj h)
    omega
  · obtain ⟨h1, h2⟩ := List.mem_filter.1 ha
    have h3 := lessK_iff.1 h2
    rcases List.mem_cons.1 hb with rfl | hb
    · exact h3
    · obtain ⟨h4, h5⟩ := List.mem_filter.1 hb
      have h6 : ¬ keyN b.key < keyN x.key := fun h => by rw [lessK_iff.2 h] at h5; cases h5
      omega
theorem delF_srt {k : KeyT} {l : List ItemT} (hs : Srt l) : Srt (delF k l) := hs.filter _
theorem St.pgFull {ws w : World} {S : List Nat} {h0 h : FH} {L : List HA} {p : PageT} {A : PAd} {e1 e2 e3 : TypeId} (H : St ws S h0 h L w) {i j l : Nat} (hi : L[i]? = some (ownR (.slice A.ak p.keys.length A.ck) e1 3 (p.keys.map cKey))) (hj : L[j]? = some (ownR (.slice A.al p.locs.length A.cl) e2 2 (p.locs.map cLoc))) (hl : L[l]? = some (ownR (.slice A.ad p.kids.length A.cd) e3 1 (p.kids.map cKid))) : PgR (full w) p A := by
  obtain ⟨a1, c1, q1, s1⟩ := H.ownSl hi (by intro r hr; obtain ⟨x, -, rfl⟩ := List.mem_map.1 hr; rfl)
  obtain ⟨a2, c2, q2, s2⟩ := H.ownSl hj (by intro r hr; obtain ⟨x, -, rfl⟩ := List.mem_map.1 hr; rfl)
  obtain ⟨a3, c3, q3, s3⟩ := H.ownSl hl (by intro r hr; obtain ⟨x, -, rfl⟩ := List.mem_map.1 hr; rfl)
  injection q1 with q11 _ q13
  injection q2 with q21 _ q23
  injection q3 with q31 _ q33
  exact ⟨by rw [q11, q13]; exact s1, by rw [q21, q23]; exact s2, by rw [q31, q33]; exact s3⟩
theorem lfP_right {l : List ItemT} (hs : Srt l) (hl : l.length ≤ 8) : rightP (lfP l) = true := Sh.right 0 ((0, l) : UInt32 × List ItemT) hl hs
theorem findP_lf {l : List ItemT} (hs : Srt l) (hl : l.length ≤ 8) (k : KeyT) : findP (lfP l) k = (cntK (l.map (·.key)) k, hasK (l.map (·.key)) k) := by
  unfold findP; rw [if_pos (lfP_right hs hl)]
end Go.Tg

set_option linter.unusedVariables false
set_option linter.unusedSimpArgs false
set_option maxRecDepth 100000
set_option maxHeartbeats 4000000
namespace Go.Tg
open Go Go.Proofs
theorem map_erase {α β : Type} (f : α → β) (l : List α) (i : Nat) : (l.eraseIdx i).map f = (l.map f).eraseIdx i := by
  rw [List.eraseIdx_eq_take_drop_succ, List.eraseIdx_eq_take_drop_succ, List.map_append, List.map_take, List.map_drop]
theorem map_ins {α β : Type} (f : α → β) (l : List α) (i : Nat) (x : α) : (l.take i ++ x :: l.drop i).map f = (l.map f).take i ++ f x :: (l.map f).drop i := by
  rw [List.map_append, List.map_cons, List.map_take, List.map_drop]
theorem tr_drop1 (k : KeyT) (l : List ItemT) (A : PAd) (bq bx : Nat) (g : FH) (w : World) (hs : Srt l) (hl : l.length ≤ 8) (hq : ∃ y ∈ l, y.key = k) (hbx : g bx = some (.cells (cKey k).toArray 42 (0, 0)))
    (HO : St w (chO bq (lfP l) A).fp g g [chO bq (lfP l) A] w) :
    Spec Try.prog 33 #[pT bq, pT bx] w (chO bq (lfP l) A).fp g (fun v h' L' => h' = g ∧ ∃ A', L' = [chO bq (lfP (delF k l)) A']) := by
  obtain ⟨hc, hde⟩ := delF_at hs hq
  rw [hde]
  have H := HO.split4
  have hF := fun w hs9 hP => page_Find (lfP l) A k (full w) w hs9 hP
  rw [findP_lf hs hl] at hF
  dsimp only at hF
  generalize hF9 : (chO bq (lfP l) A).fp = F9 at H ⊢
  have lp := pgV_len (lfP l) A
  have lk := cKey_len k
  have hkl : (l.map (·.key)).length = l.length := List.length_map ..
  have hll : (l.map (·.loc)).length = l.length := List.length_map ..
  generalize cntK (l.map (·.key)) k = c at *
  unfold Spec
  refine calls_of Try.func33 rfl Try.ntmps33 (by simp) ?_
  repeat' (first | ((first | refine WL.p rfl ?_ | refine WL.u ?_); first | refine pvQ ?_ | (refine opk 8 rfl ?_; (refine ost_store1 H rfl rfl vlQ gvQ ixQ (by first | decide | (simp; omega) | (simp; done) | omega) ?_; clear H; intro wk H; simp only [List.set_cons_zero, List.set_cons_succ, Nat.reduceAdd] at H))) | refine Wc.seq ?_ | refine then_n ?_ | refine WL.nil ?_ | refine Wc.region ?_ | refine Wc.block ?_ | refine then_r ?_ | refine then_e ?_ | refine inb_e rfl ?_ | refine inb_o rfl ?_ | refine inb_n ?_ | refine inb_r ?_ | refine Wc.skip ?_ | refine Wc.exit ?_ | refine Wc.ret ?_ | refine Wc.cond_true rfl ?_ | refine Wc.cond_false rfl ?_ | (refine Wc.drawn (id := 0) 9 (by kernel_rfl) ?_) | (refine rgs_nil ?_; intro vs wk hE; replace H := H.ext hE; clear hE) | (refine RGs.bq (fun _ => rfl) rfl (by intro vs w hE hP; have H := H.ext hE; first | exact dbQ | fail) (fun hc => ?_) (fun hc => ?_) <;> ((try simp only [cmpP, decide_eq_true_eq, decide_eq_false_iff_not, dcd_iff, dcd_no] at hc); try exact prDQ)) | refine RGs.pq (fun _ => rfl) rfl (by intro vs w hE hP; have H := H.ext hE; first | (refine opk 1 rfl ?_; (exact ost_V0d rfl (hF _ (sat_full _) (H.pgFull (i := 1) (j := 2) (l := 3) rfl rfl rfl)) rfl)) | (refine opk 2 rfl ?_; (refine ost_loadW rfl rfl rfl (H.blk (i := 0) rfl) lp ?_; exact ⟨Fr.refl _ _, rfl⟩)) | exact dvQ | fail) ?_)
  clear hF lp hq hs
  obtain ⟨ak, ck, al, cl, ad, cd⟩ := A
  dsimp only [lfP, pgV] at H ⊢
  rw [map_erase, map_erase]
  generalize l.map (·.key) = ks at *
  generalize l.map (·.loc) = ls at *
  repeat' (first | ((first | refine WL.p rfl ?_ | refine WL.u ?_); first | (refine opk 1 rfl ?_; first | (refine ost_O (A := ownR (.slice ak ks.length ck) 42 3 (ks.map cKey)) H rfl (by (exact ixQ)) (fun HO => del_K ak ck ks c (by omega) (by omega) _ _ HO) rfl ?_; clear H; rintro vk wk hfk Lk ⟨rfl, a1, c1, rfl, rfl⟩ H; simp only [List.cons_append, List.nil_append, List.eraseIdx_cons_zero, List.eraseIdx_cons_succ] at H) | (refine ost_O (A := ownR (.slice al ls.length cl) 48 2 (ls.map cLoc)) H rfl (by (exact ixQ)) (fun HO => del_L al cl ls c (by omega) (by omega) _ _ HO) rfl ?_; clear H; rintro vk wk hfk Lk ⟨rfl, a2, c2, rfl, rfl⟩ H; simp only [List.cons_append, List.nil_append, List.eraseIdx_cons_zero, List.eraseIdx_cons_succ] at H)) | refine pvQ ?_ | (refine opk 8 rfl ?_; (refine ost_store1 H rfl rfl vlQ gvQ ixQ (by first | decide | (simp; omega) | (simp; done) | omega) ?_; clear H; intro wk H; simp only [List.set_cons_zero, List.set_cons_succ, Nat.reduceAdd] at H))) | refine Wc.seq ?_ | refine then_n ?_ | refine WL.nil ?_ | refine Wc.region ?_ | refine Wc.block ?_ | refine then_r ?_ | refine then_e ?_ | refine inb_e rfl ?_ | refine inb_o rfl ?_ | refine inb_n ?_ | refine inb_r ?_ | refine Wc.skip ?_ | refine Wc.exit ?_ | refine Wc.ret ?_ | refine Wc.cond_true rfl ?_ | refine Wc.cond_false rfl ?_ | (refine Wc.drawn (id := 0) 9 (by kernel_rfl) ?_) | (refine rgs_nil ?_; intro vs wk hE; replace H := H.ext hE; clear hE) | (refine RGs.bq (fun _ => rfl) rfl (by intro vs w hE hP; have H := H.ext hE; first | exact dbQ | fail) (fun hc => ?_) (fun hc => ?_) <;> ((try simp only [cmpP, decide_eq_true_eq, decide_eq_false_iff_not, dcd_iff, dcd_no] at hc); try exact prDQ)) | refine RGs.pq (fun _ => rfl) rfl (by intro vs w hE hP; have H := H.ext hE; first | exact dvQ | fail) ?_)
  exact fn_end0 rfl ⟨_, _, (H.picks (L' := [_, _, _, _]) [2, 1, 0, 3] rfl (by decide)).join4, rfl, ⟨a1, c1, a2, c2, ad, cd⟩, rfl⟩
theorem tr_put1 (x : ItemT) (l : List ItemT) (A : PAd) (bq bx : Nat) (g : FH) (w : World) (hs : Srt l) (hl : l.length ≤ 8) (hbx : g bx = some (.cells (cItem x).toArray 50 (0, 0)))
    (HO : St w (chO bq (lfP l) A).fp g g [chO bq (lfP l) A] w) :
    Spec Try.prog 39 #[pT bq, pT bx] w (chO bq (lfP l) A).fp g (fun v h' L' => h' = g ∧ ∃ A', L' = [chO bq (lfP (insF x l)) A']) := by
  rw [insF_at hs]
  have H := HO.split4
  have hF := fun w hs9 hP => page_Find (lfP l) A x.key (full w) w hs9 hP
  rw [findP_lf hs hl] at hF
  dsimp only at hF
  generalize hF9 : (chO bq (lfP l) A).fp = F9 at H ⊢
  have lp := pgV_len (lfP l) A
  have lx := cItem_len x
  have lk := cKey_len x.key
  have gk : ((cItem x).drop (0 + 0)).take 3 = cKey x.key := cItem_key x
  have hkl : (l.map (·.key)).length = l.length := List.length_map ..
  have hll : (l.map (·.loc)).length = l.length := List.length_map ..
  have hc := cntK_le (l.map (·.key)) x.key
  generalize cntK (l.map (·.key)) x.key = c at *
  unfold Spec
  refine calls_of Try.func39 rfl Try.ntmps39 (by simp) ?_
  repeat' (first | ((first | refine WL.p rfl ?_ | refine WL.u ?_); first | refine pvQ ?_ | (refine opk 8 rfl ?_; (refine ost_store1 H rfl rfl vlQ gvQ ixQ (by first | decide | (simp; omega) | (simp; done) | omega) ?_; clear H; intro wk H; simp only [List.set_cons_zero, List.set_cons_succ, Nat.reduceAdd] at H)) | (refine opk 9 rfl ?_; (refine ost_build1 H rfl rfl rfl evQ lsQ rfl ?_; clear H; intro bk wk H))) | refine Wc.seq ?_ | refine then_n ?_ | refine WL.nil ?_ | refine Wc.region ?_ | refine Wc.block ?_ | refine then_r ?_ | refine then_e ?_ | refine inb_e rfl ?_ | refine inb_o rfl ?_ | refine inb_n ?_ | refine inb_r ?_ | refine Wc.skip ?_ | refine Wc.exit ?_ | refine Wc.ret ?_ | refine Wc.cond_true rfl ?_ | refine Wc.cond_false rfl ?_ | (refine Wc.drawn (id := 0) 10 (by kernel_rfl) ?_) | (refine rgs_nil ?_; intro vs wk hE; replace H := H.ext hE; clear hE) | (refine RGs.bq (fun _ => rfl) rfl (by intro vs w hE hP; have H := H.ext hE; first | exact dbQ | fail) (fun hc => ?_) (fun hc => ?_) <;> ((try simp only [cmpP, decide_eq_true_eq, decide_eq_false_iff_not, dcd_iff, dcd_no] at hc); try exact prDQ)) | refine RGs.pq (fun _ => rfl) rfl (by intro vs w hE hP; have H := H.ext hE; first | (refine opk 1 rfl ?_; (exact ost_V0d rfl (hF _ (sat_full _) (H.pgFull (i := 1) (j := 2) (l := 3) rfl rfl rfl)) rfl)) | (refine opk 2 rfl ?_; (refine ost_loadW rfl rfl rfl (H.blk (i := 0) rfl) lp ?_; exact ⟨Fr.refl _ _, rfl⟩)) | exact dvQ | fail) ?_)
  clear hF lp hs
  obtain ⟨ak, ck, al, cl, ad, cd⟩ := A
  dsimp only [lfP, pgV] at H ⊢
  rw [map_ins, map_ins]
  generalize l.map (·.key) = ks at *
  generalize l.map (·.loc) = ls at *
  have gl : ((cItem x).drop (0 + 3)).take 2 = cLoc x.loc := cItem_loc x
  have ll := cLoc_len x.loc
  replace H := H.picks (L' := [_, _, _, _]) [1, 0, 2, 3] rfl (by decide)
  refine Wc.drawF (id := 1) 10 [8, 9] (piF [8, 9] [.blk bq (.cells [Value.bool true, .slice ak ks.length ck, .slice al ls.length cl, .slice ad 0 cd].toArray 85 (0, 0)), ownR (.slice al ls.length cl) 48 2 (ls.map cLoc), ownR (.slice ad 0 cd) 24 1 []] fun cc vs g L => match cc with
    | 0 => L = [ownR (.slice ak ks.length ck) 42 3 (ks.map cKey)]
    | 1 => ∃ bn, vs 8 = .slice (some ⟨bn, 0, none⟩) 1 1 ∧ L = [ownR (.slice (some ⟨bn, 0, none⟩) 1 1) 42 3 [cKey x.key], ownR (.slice ak ks.length ck) 42 3 (ks.map cKey)]
    | _ => ∃ a' c', vs 9 = .slice a' (ks.take c ++ x.key :: ks.drop c).length c' ∧ L = [ownR (.slice a' (ks.take c ++ x.key :: ks.drop c).length c') 42 3 ((ks.take c ++ x.key :: ks.drop c).map cKey)]) H (by kernel_rfl) (by kernel_rfl) (piF_0 (A := [_]) rfl) ?_
  clear H
  iterate 4 refine RGf.p rfl (by intro vs w dn g' L hg hd hP H; exact dvQ) ?_
  refine RGf.p rfl (by intro vs w dn g' L hg hd hP H; obtain ⟨T9, rfl⟩ := piF_B hP; exact ost_load1 rfl rfl rfl (H.okB (j := 0) rfl) rfl ⟨Fr.refl _ _, rfl⟩) ?_
  iterate 3 refine RGf.p rfl (by intro vs w dn g' L hg hd hP H; have hb1 := hg _ _ hbx; exact dvQ) ?_
  refine RGf.m rfl (by
    intro vs w dn g' L hg hd hdep hP H
    obtain ⟨T9, rfl, hps, hst⟩ := piF_step (by decide) hP 0 8 rfl hd (.inl rfl)
    subst hps
    refine ost_buildR (rows := [cKey x.key]) H rfl (by decide) rfl (by rfl) (evP1 vxQ) (.cons rfl .nil) rfl (fun r hr => by rw [List.mem_singleton.1 hr]; rfl) ?_
    intro bk wk H2
    exact ⟨g', _, FLe.refl _, hst _ _ [_, _] ⟨bk, rfl, rfl⟩, H2⟩) ?_
  refine RGf.m rfl (by
    intro vs w dn g' L hg hd hdep hP H
    obtain ⟨T9, rfl, ⟨bn, e8, hps⟩, hst⟩ := piF_step (by decide) hP 1 9 rfl hd (.inr ⟨8, rfl, hdep 8 (by kernel_rfl) rfl⟩)
    subst hps
    have e8' : vs (0 + 1 + 1 + 1 + 1 + 1 + 1 + 1 + 1) = _ := e8
    rw [e8']
    replace H : St _ _ _ _ (insA_K ak ck ks bn x.key :: _) _ := (H.picks (L' := [_, _, _, _, _]) [1, 0, 2, 3, 4] rfl (by decide)).join
    refine ost_O H rfl idx0 (fun HO => ins_K ak ck ks c (by omega) bn x.key (by omega) _ _ HO) rfl ?_
    rintro vk wk hfk Lk ⟨rfl, a', c', rfl, rfl⟩ H2
    exact ⟨g', _, FLe.refl _, hst _ _ [_] ⟨a', c', rfl, rfl⟩, H2⟩) ?_
  refine RGf.nil ?_
  intro vs1 wk dn g' L hg hdn hP H
  obtain ⟨T8, hL, a11, c11, e9, hT8⟩ := piF_end hP 9 rfl (hdn 9 rfl)
  subst hT8
  subst hL
  have e9' : vs1 (0 + 1 + 1 + 1 + 1 + 1 + 1 + 1 + 1 + 1) = _ := e9
  dsimp only
  rw [e9']
  clear e9 e9' hP hdn
  replace H := H.forget hg (fun _ _ _ => rfl)
  simp only [List.cons_append, List.nil_append] at H
  generalize ks.take c ++ x.key :: ks.drop c = K9 at *
  repeat' (first | ((first | refine WL.p rfl ?_ | refine WL.u ?_); first | refine pvQ ?_ | (refine opk 8 rfl ?_; (refine ost_store1 H rfl rfl vlQ gvQ ixQ (by first | decide | (simp; omega) | (simp; done) | omega) ?_; clear H; intro wk H; simp only [List.set_cons_zero, List.set_cons_succ, Nat.reduceAdd] at H)) | (refine opk 9 rfl ?_; (refine ost_build1 H rfl rfl rfl evQ lsQ rfl ?_; clear H; intro bk wk H))) | refine Wc.seq ?_ | refine then_n ?_ | refine WL.nil ?_ | refine Wc.region ?_ | refine Wc.block ?_ | refine then_r ?_ | refine then_e ?_ | refine inb_e rfl ?_ | refine inb_o rfl ?_ | refine inb_n ?_ | refine inb_r ?_ | refine Wc.skip ?_ | refine Wc.exit ?_ | refine Wc.ret ?_ | refine Wc.cond_true rfl ?_ | refine Wc.cond_false rfl ?_ | (refine Wc.drawn (id := 0) 10 (by kernel_rfl) ?_) | (refine Wc.drawn (id := 1) 10 (by kernel_rfl) ?_) | (refine rgs_nil ?_; intro vs wk hE; replace H := H.ext hE; clear hE) | (refine RGs.bq (fun _ => rfl) rfl (by intro vs w hE hP; have H := H.ext hE; first | exact dbQ | fail) (fun hc => ?_) (fun hc => ?_) <;> ((try simp only [cmpP, decide_eq_true_eq, decide_eq_false_iff_not, dcd_iff, dcd_no] at hc); try exact prDQ)) | refine RGs.pq (fun _ => rfl) rfl (by intro vs w hE hP; have H := H.ext hE; first | exact dvQ | fail) ?_)
  replace H := H.picks (L' := [_, _, _, _]) [2, 1, 0, 3] rfl (by decide)
  refine Wc.drawF (id := 2) 10 [8, 9] (piF [8, 9] [.blk bq (.cells [Value.bool true, .slice a11 K9.length c11, .slice al ls.length cl, .slice ad 0 cd].toArray 85 (0, 0)), ownR (.slice a11 K9.length c11) 42 3 (K9.map cKey), ownR (.slice ad 0 cd) 24 1 []] fun cc vs g L => match cc with
    | 0 => L = [ownR (.slice al ls.length cl) 48 2 (ls.map cLoc)]
    | 1 => ∃ bn, vs 8 = .slice (some ⟨bn, 0, none⟩) 1 1 ∧ L = [ownR (.slice (some ⟨bn, 0, none⟩) 1 1) 48 2 [cLoc x.loc], ownR (.slice al ls.length cl) 48 2 (ls.map cLoc)]
    | _ => ∃ a' c', vs 9 = .slice a' (ls.take c ++ x.loc :: ls.drop c).length c' ∧ L = [ownR (.slice a' (ls.take c ++ x.loc :: ls.drop c).length c') 48 2 ((ls.take c ++ x.loc :: ls.drop c).map cLoc)]) H (by kernel_rfl) (by kernel_rfl) (piF_0 (A := [_]) rfl) ?_
  clear H
  iterate 4 refine RGf.p rfl (by intro vs w dn g' L hg hd hP H; exact dvQ) ?_
  refine RGf.p rfl (by intro vs w dn g' L hg hd hP H; obtain ⟨T9, rfl⟩ := piF_B hP; exact ost_load1 rfl rfl rfl (H.okB (j := 0) rfl) rfl ⟨Fr.refl _ _, rfl⟩) ?_
  iterate 3 refine RGf.p rfl (by intro vs w dn g' L hg hd hP H; have hb1 := hg _ _ hbx; exact dvQ) ?_
  refine RGf.m rfl (by
    intro vs w dn g' L hg hd hdep hP H
    obtain ⟨T9, rfl, hps, hst⟩ := piF_step (by decide) hP 0 8 rfl hd (.inl rfl)
    subst hps
    refine ost_buildR (rows := [cLoc x.loc]) H rfl (by decide) rfl (by rfl) (evP1 vxQ) (.cons rfl .nil) rfl (fun r hr => by rw [List.mem_singleton.1 hr]; rfl) ?_
    intro bk wk H2
    exact ⟨g', _, FLe.refl _, hst _ _ [_, _] ⟨bk, rfl, rfl⟩, H2⟩) ?_
  refine RGf.m rfl (by
    intro vs w dn g' L hg hd hdep hP H
    obtain ⟨T9, rfl, ⟨bn, e8, hps⟩, hst⟩ := piF_step (by decide) hP 1 9 rfl hd (.inr ⟨8, rfl, hdep 8 (by kernel_rfl) rfl⟩)
    subst hps
    have e8' : vs (0 + 1 + 1 + 1 + 1 + 1 + 1 + 1 + 1) = _ := e8
    rw [e8']
    replace H : St _ _ _ _ (insA_L al cl ls bn x.loc :: _) _ := (H.picks (L' := [_, _, _, _, _]) [1, 0, 2, 3, 4] rfl (by decide)).join
    refine ost_O H rfl idx0 (fun HO => ins_L al cl ls c (by omega) bn x.loc (by omega) _ _ HO) rfl ?_
    rintro vk wk hfk Lk ⟨rfl, a', c', rfl, rfl⟩ H2
    exact ⟨g', _, FLe.refl _, hst _ _ [_] ⟨a', c', rfl, rfl⟩, H2⟩) ?_
  refine RGf.nil ?_
  intro vs2 wk dn g' L hg hdn hP H
  obtain ⟨T8, hL, a21, c21, e9, hT8⟩ := piF_end hP 9 rfl (hdn 9 rfl)
  subst hT8
  subst hL
  have e9' : vs2 (0 + 1 + 1 + 1 + 1 + 1 + 1 + 1 + 1 + 1) = _ := e9
  dsimp only
  rw [e9']
  clear e9 e9' hP hdn
  replace H := H.forget hg (fun _ _ _ => rfl)
  simp only [List.cons_append, List.nil_append] at H
  repeat' (first | ((first | refine WL.p rfl ?_ | refine WL.u ?_); first | refine pvQ ?_ | (refine opk 8 rfl ?_; (refine ost_store1 H rfl rfl vlQ gvQ ixQ (by first | decide | (simp; omega) | (simp; done) | omega) ?_; clear H; intro wk H; simp only [List.set_cons_zero, List.set_cons_succ, Nat.reduceAdd] at H)) | (refine opk 9 rfl ?_; (refine ost_build1 H rfl rfl rfl evQ lsQ rfl ?_; clear H; intro bk wk H))) | refine Wc.seq ?_ | refine then_n ?_ | refine WL.nil ?_ | refine Wc.region ?_ | refine Wc.block ?_ | refine then_r ?_ | refine then_e ?_ | refine inb_e rfl ?_ | refine inb_o rfl ?_ | refine inb_n ?_ | refine inb_r ?_ | refine Wc.skip ?_ | refine Wc.exit ?_ | refine Wc.ret ?_ | refine Wc.cond_true rfl ?_ | refine Wc.cond_false rfl ?_ | (refine Wc.drawn (id := 0) 10 (by kernel_rfl) ?_) | (refine Wc.drawn (id := 1) 10 (by kernel_rfl) ?_) | (refine Wc.drawn (id := 2) 10 (by kernel_rfl) ?_) | (refine rgs_nil ?_; intro vs wk hE; replace H := H.ext hE; clear hE) | (refine RGs.bq (fun _ => rfl) rfl (by intro vs w hE hP; have H := H.ext hE; first | exact dbQ | fail) (fun hc => ?_) (fun hc => ?_) <;> ((try simp only [cmpP, decide_eq_true_eq, decide_eq_false_iff_not, dcd_iff, dcd_no] at hc); try exact prDQ)) | refine RGs.pq (fun _ => rfl) rfl (by intro vs w hE hP; have H := H.ext hE; first | exact dvQ | fail) ?_)
  exact fn_end0 rfl ⟨_, _, (H.picks (L' := [_, _, _, _]) [1, 2, 0, 3] rfl (by decide)).join4, rfl, ⟨a11, c11, a21, c21, ad, cd⟩, rfl⟩
end Go.Tg

