/- Proved: the given statement TreeOldSaid: the Go law TreeOld returns true for every input that it is asked of. No conditions. -/
import Derived.Test.YtbfilhaigbebpaaInst
import Derived.Test.YtbfilhaigbebpaaAuto
import Derived.Test.YtbfilhaigbebpaaYN
import Derived.Test.YtbfilhaigbebpaaYO
set_option linter.unusedVariables false
set_option linter.unusedSimpArgs false
set_option maxRecDepth 100000
set_option maxHeartbeats 16000000
namespace Go.Tg
open Go Go.Proofs
structure WasT where
  d : Nat
  s : Sh d
  a : Option Addr
  c : Nat
noncomputable def cWas (x : WasT) : List Value := [.int .u32 ((Sh.num x.d x.s).toNat : Nat), .slice x.a (Sh.its x.d x.s).length x.c]
structure WasR (g : FH) (T : TrM) (x : WasT) : Prop where
  ok : Sh.Ok x.d x.s
  rep : Rep g T x.d x.s
  rt : (lookM T.roots (Sh.num x.d x.s)).isSome = true
  ln : (Sh.its x.d x.s).length ≤ 1000
  sl : Sl g 5 x.a x.c ((Sh.its x.d x.s).map cItem)
theorem WasR.mono {g g' : FH} {T : TrM} {x : WasT} (h : FLe g g') (H : WasR g T x) : WasR g' T x := ⟨H.ok, H.rep.mono h, H.rt, H.ln, H.sl.mono h⟩
theorem WasR.kept {g : FH} {T T' : TrM} {x : WasT} (h : Kept T T') (H : WasR g T x) : WasR g T' x := ⟨H.ok, Rep.kept h H.rep, h.rt _ H.rt, H.ln, H.sl⟩
theorem was_new {g : FH} {T : TrM} {d : Nat} {s : Sh d} {k : Nat} (H : TrB g T d s k) (hk : k ≤ 1000) {a : Option Addr} {c : Nat} (hs : Sl g 5 a c ((Sh.its d s).map cItem)) : WasR g T ⟨d, s, a, c⟩ :=
  ⟨H.inv.ok, H.inv.rep, by show (lookM T.roots (Sh.num d s)).isSome = true; rw [← H.inv.root, H.inv.cnt]; rfl, Nat.le_trans H.ln hk, hs⟩
theorem trim_TrB {h : FH} {T : TrM} {d : Nat} {s : Sh d} {k : Nat} (H : TrB h T d s k) : TrB h (T.trim (Sh.nums d s) ((Sh.its d s).length : Nat)) d s k := ⟨(trim_inv H.inv).1, H.dp, H.nx, H.ln⟩
theorem rows_was (ws : List WasT) : ∀ r, r ∈ ws.map cWas → r.length = 2 := by
  intro r hr
  obtain ⟨x, -, rfl⟩ := List.mem_map.1 hr
  rfl
theorem was_row {cur : List Value} {ws : List WasT} (h : cur.take (ws.length * 2) = (ws.map cWas).flatten) {k : Nat} (hk : k < ws.length) : (cur.drop (0 + (k : Int).toNat * 2)).take 2 = cWas ws[k] := by
  have h1 := rows_at (rows_was ws) (j := k) (by rw [List.length_map]; exact hk)
  rw [← h, List.getElem_map] at h1
  rw [← h1, List.drop_take, List.take_take, Nat.min_eq_left (by omega)]
  simp
theorem law_TreeOld (w : World) (a : Option Addr) (c : Nat) (l : List Ac14) (hS : Sl (full w) 6 a c (l.map ac14L)) : SpecV Try.prog 5 #[.slice a l.length c] w (.bool true) := by
  have H := St.start (sat_full w)
  have hs := sat_full w
  have hln := hS.lenM
  unfold SpecV
  refine calls_of Try.func5 rfl Try.ntmps5 (by simp) ?_
  repeat' (first | ((first | refine WL.p rfl ?_ | refine WL.u ?_ | refine WL.g rfl rfl ?_ | refine WL.gu rfl ?_); first | (refine opk 1 rfl ?_; first | (refine ost_V H rfl (law14_alive _) rfl ?_; clear H; intro wk H) | (refine ost_C H rfl (tr_New _ _ (sat_full _)) rfl ?_; clear H; rintro vk wk hfk Lk ⟨rfl, tb, mb, rb, rfl, rfl⟩ H; simp only [List.cons_append, List.nil_append] at H)) | refine pvQ ?_ | (refine opk 3 rfl ?_; first | (refine ost_eqA rfl (by decide) rfl rfl tyQ tyQ (fun hc => ?_) (fun hc => ?_) <;> try exact prEQ) | (refine ost_neA rfl (by decide) rfl rfl tyQ tyQ (fun hc => ?_) (fun hc => ?_) <;> try exact prEQ) | (refine ost_cmp rfl rfl rfl rfl (fun hc => ?_) (fun hc => ?_) <;> (simp only [cmpP] at hc; try exact prIQ)) | (refine ost_ptEq rfl rfl rfl (fun hc => ?_) (fun hc => ?_) <;> try (simp at hc; done)) | (refine ost_ptNe rfl rfl rfl (fun hc => ?_) (fun hc => ?_) <;> try (simp at hc; done))) | (refine opk 4 rfl ?_; (refine ost_cmp rfl rfl rfl rfl (fun hc => ?_) (fun hc => ?_) <;> (simp only [cmpP] at hc; try exact prIQ))) | (refine opk 8 rfl ?_; (refine ost_storeW H rfl rfl rfl rfl lQ ixQ lQ okQ ?_; clear H; intro wk H; simp only [List.set_cons_zero, List.set_cons_succ, Nat.reduceAdd] at H)) | (refine opk 9 rfl ?_; first | (refine ost_allocA H rfl ?_; clear H; intro bk wk H) | (refine ost_build1 H rfl rfl rfl evQ lsQ rfl ?_; clear H; intro bk wk H))) | refine Wc.seq ?_ | refine then_n ?_ | refine WL.nil ?_ | refine Wc.region ?_ | refine Wc.block ?_ | refine then_r ?_ | refine then_e ?_ | refine inb_e rfl ?_ | refine inb_o rfl ?_ | refine inb_n ?_ | refine inb_r ?_ | refine Wc.skip ?_ | refine Wc.exit ?_ | refine Wc.ret ?_ | refine Wc.cond_true rfl ?_ | refine Wc.cond_false rfl ?_ | (refine Wc.drawn (id := 28) 9 (by kernel_rfl) ?_) | refine WL.skp rfl rfl ?_ | refine WL.sku rfl ?_ | (refine rgs_nil ?_; intro vs wk hE; replace H := H.ext hE; clear hE) | refine RGs.skp (fun _ => rfl) rfl ?_ | (refine RGs.bq (fun _ => rfl) rfl (by intro vs w hE hP; have H := H.ext hE; first | exact dbQ | fail) (fun hc => ?_) (fun hc => ?_) <;> ((try simp only [cmpP, decide_eq_true_eq, decide_eq_false_iff_not, dcd_iff, dcd_no] at hc); try exact prDQ)) | refine RGs.pq (fun _ => rfl) rfl (by intro vs w hE hP; have H := H.ext hE; first | exact dvQ | fail) ?_)
  all_goals first | (exfalso; omega) | skip
  have hroot := fun g w HO => tr_Root tb mb rb newT g w HO
  repeat' (first | ((first | refine WL.p rfl ?_ | refine WL.u ?_ | refine WL.g rfl rfl ?_ | refine WL.gu rfl ?_); first | (refine opk 1 rfl ?_; (refine ost_O (A := trO tb mb rb newT) H rfl (by (exact ixQ)) (fun HO => hroot _ _ HO) rfl ?_; clear H; rintro vk wk hfk Lk ⟨rfl, rfl, rfl⟩ H; simp only [List.cons_append, List.nil_append, List.eraseIdx_cons_zero, List.eraseIdx_cons_succ] at H)) | (refine opk 9 rfl ?_; first | (refine ost_buildS (l := cWas ⟨0, leafS 1 [], none, 0⟩) rfl (evP_cons (rfl : _ = Value.int _ _) (evP_cons (rfl : _ = Value.slice _ _ _) evP_nil)) (by rfl) (by rfl) ?_) | (refine ost_buildR (rows := [cWas ⟨0, leafS 1 [], none, 0⟩]) H rfl (by decide) rfl (by rfl) (evP1 vxQ) (.cons rfl .nil) rfl (fun r hr => by rw [List.mem_singleton.1 hr]; rfl) ?_; clear H; intro bk wk H)) | refine pvQ ?_ | (refine opk 3 rfl ?_; first | (refine ost_eqA rfl (by decide) rfl rfl tyQ tyQ (fun hc => ?_) (fun hc => ?_) <;> try exact prEQ) | (refine ost_neA rfl (by decide) rfl rfl tyQ tyQ (fun hc => ?_) (fun hc => ?_) <;> try exact prEQ) | (refine ost_cmp rfl rfl rfl rfl (fun hc => ?_) (fun hc => ?_) <;> (simp only [cmpP] at hc; try exact prIQ)) | (refine ost_ptEq rfl rfl rfl (fun hc => ?_) (fun hc => ?_) <;> try (simp at hc; done)) | (refine ost_ptNe rfl rfl rfl (fun hc => ?_) (fun hc => ?_) <;> try (simp at hc; done))) | (refine opk 4 rfl ?_; (refine ost_cmp rfl rfl rfl rfl (fun hc => ?_) (fun hc => ?_) <;> (simp only [cmpP] at hc; try exact prIQ))) | (refine opk 8 rfl ?_; (refine ost_storeW H rfl rfl rfl rfl lQ ixQ lQ okQ ?_; clear H; intro wk H; simp only [List.set_cons_zero, List.set_cons_succ, Nat.reduceAdd] at H)) | (refine opk 9 rfl ?_; first | (refine ost_allocA H rfl ?_; clear H; intro bk wk H) | (refine ost_build1 H rfl rfl rfl evQ lsQ rfl ?_; clear H; intro bk wk H))) | refine Wc.seq ?_ | refine then_n ?_ | refine WL.nil ?_ | refine Wc.region ?_ | refine Wc.block ?_ | refine then_r ?_ | refine then_e ?_ | refine inb_e rfl ?_ | refine inb_o rfl ?_ | refine inb_n ?_ | refine inb_r ?_ | refine Wc.skip ?_ | refine Wc.exit ?_ | refine Wc.ret ?_ | refine Wc.cond_true rfl ?_ | refine Wc.cond_false rfl ?_ | (refine Wc.drawn (id := 28) 9 (by kernel_rfl) ?_) | refine WL.skp rfl rfl ?_ | refine WL.sku rfl ?_ | (refine rgs_nil ?_; intro vs wk hE; replace H := H.ext hE; clear hE) | refine RGs.skp (fun _ => rfl) rfl ?_ | (refine RGs.bq (fun _ => rfl) rfl (by intro vs w hE hP; have H := H.ext hE; first | exact dbQ | fail) (fun hc => ?_) (fun hc => ?_) <;> ((try simp only [cmpP, decide_eq_true_eq, decide_eq_false_iff_not, dcd_iff, dcd_no] at hc); try exact prDQ)) | refine RGs.pq (fun _ => rfl) rfl (by intro vs w hE hP; have H := H.ext hE; first | exact dvQ | fail) ?_)
  refine Wc.loopE (fun s0 m st w' => ∃ (i d1 : Nat) (s1 : Sh d1) (T : TrM) (g' : FH) (mb rb : Nat) (ws : List WasT) (aw : Option Addr) (cw : Nat), m = l.length - i ∧ i ≤ l.length ∧ i ≤ 60 ∧ Agree [2, 4, 5, 7, 8, 9, 10, 20, 21, 22, 23, 24, 25, 26, 27, 28, 29, 30, 31, 32, 33, 34, 35, 36, 37, 38, 39, 40, 41, 42, 43, 44, 45, 46, 47, 48, 49, 50, 51, 52, 53, 54, 55, 56, 57, 58, 59, 60, 61, 62, 63, 64, 65, 66, 67, 68, 69, 70, 71, 72, 73, 74, 75, 76, 77, 78, 79, 80, 81, 82, 83, 84, 85, 86, 87, 88, 89, 90, 91, 92, 93, 94, 95, 96, 97, 98, 99, 100, 101, 102, 103, 104, 105, 106] st s0 ∧ st 4 = .slice aw ws.length cw ∧ st 5 = .int .i64 i ∧ FLe (full w) g' ∧ TrB g' T d1 s1 i ∧ ws.length ≤ i + 1 ∧ (∀ x ∈ ws, WasR g' T x) ∧ St w [] (full w) g' [ownR (.slice aw ws.length cw) 71 2 (ws.map cWas), trO tb mb rb T] w') l.length ⟨0, 0, leafS 1 [], newT, full w, mb, rb, [⟨0, leafS 1 [], none, 0⟩], _, _, rfl, by omega, by omega, Agree.refl _ _, rfl, rfl, FLe.refl _, newT_inv _, Nat.le_refl _, fun x hx => by
      obtain rfl := List.mem_singleton.1 hx
      exact was_new (newT_inv _) (by decide) (Sl.nil _ _), H⟩ ?_
  clear H
  rintro m st w' ⟨i, d1, s1, T, g', mb1, rb1, ws, aw, cw, rfl, hi1, hi2, hA, e1, e2, hle0, hT, hwl, hws, H⟩
  obtain ⟨j9, rfl⟩ := hA.env2 e1 e2
  clear hA e1 e2
  by_cases hlt : i < l.length ∧ i < 60
  · obtain ⟨b, off, l9, T9, fr, e1, eb, eg⟩ := hS.getM (by decide) (Nat.lt_of_le_of_lt (Nat.zero_le _) hlt.1)
    subst e1
    have g9 := eg (i : Int).toNat i hlt.1 (by omega)
    clear eg
    replace eb := hle0 _ _ eb
    obtain ⟨x, hx9⟩ : ∃ x, x = l[i] := ⟨_, rfl⟩
    rw [← hx9] at g9
    clear hx9
    have l6 := ac14L_len x
    have gk := ac14_key x
    have gd := ac14_kd x
    have g8 : (l9.drop (off + (i : Int).toNat * 6 + 1)).take 3 = cKey x.it.key := by
      rw [row_part g9 (q := 1) (n := 3) (by decide)]; exact gk
    have g7 : l9[off + (i : Int).toNat * 6 + 0]? = some (.int .u8 x.kd.toNat) := by
      rw [row_cell g9 (q := 0) (by rw [l6]; decide)]; exact gd
    have lk := cKey_len x.it.key
    have u0 := x.kd.toNat_lt
    have hlnm := hT.ln
    have hT0 := hT
    by_cases hk3 : x.kd.toNat % 6 = 3 ∨ x.kd.toNat % 6 = 4
    · have hD := fun g w hT HO => tr_DropA tb mb1 rb1 T d1 s1 i x.it.key g w hT (by omega) HO
      generalize dropI (Sh.its d1 s1) x.it.key = Z at hD
      repeat' (first | ((first | refine WL.p rfl ?_ | refine WL.u ?_ | refine WL.g rfl rfl ?_ | refine WL.gu rfl ?_); first | (refine opk 1 rfl ?_; (refine ost_H (A := trO tb mb1 rb1 T) H rfl (by (exact ixQ)) (fun HO => hD _ _ hT HO) rfl ?_; clear H; rintro vk wk hfk Lk ⟨T1, d1, s1, rfl, rfl, hT1, -, hk1, -⟩ hle H; simp only [List.cons_append, List.nil_append, List.eraseIdx_cons_zero, List.eraseIdx_cons_succ] at H)) | refine pvQ ?_ | (refine opk 3 rfl ?_; first | (refine ost_eqA rfl (by decide) rfl rfl tyQ tyQ (fun hc => ?_) (fun hc => ?_) <;> try exact prEQ) | (refine ost_neA rfl (by decide) rfl rfl tyQ tyQ (fun hc => ?_) (fun hc => ?_) <;> try exact prEQ) | (refine ost_cmp rfl rfl rfl rfl (fun hc => ?_) (fun hc => ?_) <;> (simp only [cmpP] at hc; try exact prIQ)) | (refine ost_ptEq rfl rfl rfl (fun hc => ?_) (fun hc => ?_) <;> try (simp at hc; done)) | (refine ost_ptNe rfl rfl rfl (fun hc => ?_) (fun hc => ?_) <;> try (simp at hc; done))) | (refine opk 4 rfl ?_; (refine ost_cmp rfl rfl rfl rfl (fun hc => ?_) (fun hc => ?_) <;> (simp only [cmpP] at hc; try exact prIQ))) | (refine opk 8 rfl ?_; (refine ost_storeW H rfl rfl rfl rfl lQ ixQ lQ okQ ?_; clear H; intro wk H; simp only [List.set_cons_zero, List.set_cons_succ, Nat.reduceAdd] at H)) | (refine opk 9 rfl ?_; first | (refine ost_allocA H rfl ?_; clear H; intro bk wk H) | (refine ost_build1 H rfl rfl rfl evQ lsQ rfl ?_; clear H; intro bk wk H))) | refine Wc.seq ?_ | refine then_n ?_ | refine WL.nil ?_ | refine Wc.region ?_ | refine Wc.block ?_ | refine then_r ?_ | refine then_e ?_ | refine inb_e rfl ?_ | refine inb_o rfl ?_ | refine inb_n ?_ | refine inb_r ?_ | refine Wc.skip ?_ | refine Wc.exit ?_ | refine Wc.ret ?_ | refine Wc.cond_true rfl ?_ | refine Wc.cond_false rfl ?_ | refine WL.skp rfl rfl ?_ | refine WL.sku rfl ?_)
      all_goals first | (exfalso; omega) | (exfalso; exact hc rfl) | skip
      all_goals
        replace eb := hle _ _ eb
        have hws1 : ∀ x ∈ ws, WasR hfk T1 x := fun x hx => ((hws x hx).mono hle).kept hk1
        have hln1 := hT1.ln
        have hwl2 : (ws.map cWas).length ≤ 1000 := by rw [List.length_map]; omega
        have hr1 : T1.root = Sh.num d1 s1 := hT1.inv.root
        have hroot1 := fun g w HO => tr_Root tb mb1 rb1 T1 g w HO
        rw [hr1] at hroot1
        have hrn := fun w hs hF hR => tr_Range tb mb1 rb1 T1 d1 s1 leastK greatK (full w) w hs hF hT1.inv.ok hT1.inv.srt hR hT1.inv.root (by omega)
        rw [rangeI_all] at hrn
        repeat' (first | ((first | refine WL.p rfl ?_ | refine WL.u ?_ | refine WL.g rfl rfl ?_ | refine WL.gu rfl ?_); first | (refine opk 1 rfl ?_; first | (refine ost_O (A := trO tb mb1 rb1 T1) H rfl (by (exact ixQ)) (fun HO => hroot1 _ _ HO) rfl ?_; clear H; rintro vk wk hfk Lk ⟨rfl, rfl, rfl⟩ H; simp only [List.cons_append, List.nil_append, List.eraseIdx_cons_zero, List.eraseIdx_cons_succ] at H) | (refine ost_V H rfl (law14_least _) rfl ?_; clear H; intro wk H) | (refine ost_V H rfl (law14_greatest _) rfl ?_; clear H; intro wk H) | (refine ost_C H rfl (hrn _ (sat_full _) (H.trF (i := 0) rfl) (hT1.inv.rep.mono H.sat.le)) rfl ?_; clear H; rintro vk wk hfk Lk ⟨a9, c9, rfl, rfl⟩ H; simp only [List.cons_append, List.nil_append] at H; obtain ⟨a8, c8, h9, e9, hle9, hN9, H9⟩ := H.freezeR (rows_len5 _); injection e9 with e91 e92 e93; subst e91; subst e93; clear H; have H := H9; clear H9) | (refine ost_appR (rows := ws.map cWas) (row := cWas ⟨d1, s1, a9, c9⟩) H rfl rfl rfl (by (exact ixQ)) (by (exact ixQ)) (by rfl) (by first | simp; done | exact Nat.succ_pos _) rfl (allOne_of rfl) rfl (by omega) ?_; clear H; intro aa ca wk H; simp only [List.set_cons_zero, List.set_cons_succ] at H)) | (refine opk 9 rfl ?_; first | (refine ost_buildS (l := cWas ⟨d1, s1, a9, c9⟩) rfl (evP_cons (rfl : _ = Value.int _ _) (evP_cons (rfl : _ = Value.slice _ _ _) evP_nil)) (by rfl) (by rfl) ?_) | (refine ost_buildR (rows := [cWas ⟨d1, s1, a9, c9⟩]) H rfl (by decide) rfl (by rfl) (evP1 vxQ) (.cons rfl .nil) rfl (fun r hr => by rw [List.mem_singleton.1 hr]; rfl) ?_; clear H; intro bk wk H)) | refine pvQ ?_ | (refine opk 3 rfl ?_; first | (refine ost_eqA rfl (by decide) rfl rfl tyQ tyQ (fun hc => ?_) (fun hc => ?_) <;> try exact prEQ) | (refine ost_neA rfl (by decide) rfl rfl tyQ tyQ (fun hc => ?_) (fun hc => ?_) <;> try exact prEQ) | (refine ost_cmp rfl rfl rfl rfl (fun hc => ?_) (fun hc => ?_) <;> (simp only [cmpP] at hc; try exact prIQ)) | (refine ost_ptEq rfl rfl rfl (fun hc => ?_) (fun hc => ?_) <;> try (simp at hc; done)) | (refine ost_ptNe rfl rfl rfl (fun hc => ?_) (fun hc => ?_) <;> try (simp at hc; done))) | (refine opk 4 rfl ?_; (refine ost_cmp rfl rfl rfl rfl (fun hc => ?_) (fun hc => ?_) <;> (simp only [cmpP] at hc; try exact prIQ))) | (refine opk 8 rfl ?_; (refine ost_storeW H rfl rfl rfl rfl lQ ixQ lQ okQ ?_; clear H; intro wk H; simp only [List.set_cons_zero, List.set_cons_succ, Nat.reduceAdd] at H)) | (refine opk 9 rfl ?_; first | (refine ost_allocA H rfl ?_; clear H; intro bk wk H) | (refine ost_build1 H rfl rfl rfl evQ lsQ rfl ?_; clear H; intro bk wk H))) | refine Wc.seq ?_ | refine then_n ?_ | refine WL.nil ?_ | refine Wc.region ?_ | refine Wc.block ?_ | refine then_r ?_ | refine then_e ?_ | refine inb_e rfl ?_ | refine inb_o rfl ?_ | refine inb_n ?_ | refine inb_r ?_ | refine Wc.skip ?_ | refine Wc.exit ?_ | refine Wc.ret ?_ | refine Wc.cond_true rfl ?_ | refine Wc.cond_false rfl ?_ | refine WL.skp rfl rfl ?_ | refine WL.sku rfl ?_)
        all_goals first | (exfalso; omega) | (exfalso; exact hc rfl) | skip
        have hT1' := hT1.mono hle9 (Nat.le_refl _)
        have hWS : ∀ y ∈ ws ++ [(⟨d1, s1, a9, c9⟩ : WasT)], WasR h9 T1 y := by
          intro y hy
          rcases List.mem_append.1 hy with hy | hy
          · exact (hws1 y hy).mono hle9
          · obtain rfl := List.mem_singleton.1 hy
            exact was_new hT1' (by omega) hN9
        have hWl : (ws ++ [(⟨d1, s1, a9, c9⟩ : WasT)]).length = ws.length + 1 := by simp
        rw [show ws.map cWas ++ [cWas ⟨d1, s1, a9, c9⟩] = (ws ++ [(⟨d1, s1, a9, c9⟩ : WasT)]).map cWas from by rw [List.map_append]; rfl] at H ⊢
        simp only [List.length_map] at H ⊢
        replace hwl : ws.length ≤ i + 1 := hwl
        generalize ws ++ [(⟨d1, s1, a9, c9⟩ : WasT)] = WS at *
        have H8 := H.picks (L' := [ownR (.slice aa WS.length ca) 71 2 (WS.map cWas), trO tb mb1 rb1 T1]) [2, 1] rfl (by decide)
        clear H
        unfold ownR at H8
        rw [List.length_map] at H8
        have hmx := own_mx H8 (i := 0) rfl
        obtain ⟨g0, cur, e1, hnc, hcl, hct, H9⟩ := H8.ownBlk (i := 0) rfl (by omega)
        subst e1
        simp only [List.set_cons_zero] at H9
        refine Wc.loopE (fun s0 m s w' => ∃ k : Nat, m = WS.length - k ∧ k ≤ WS.length ∧ Agree [2, 7, 8, 9, 10, 69, 70, 71, 72, 73, 74, 75, 76, 77, 78, 79, 80, 81, 82, 83, 84, 85, 86, 87, 88, 89, 90, 91, 92, 93, 94, 95, 96, 97, 98, 99, 100, 101, 102, 103, 104, 105, 106] s s0 ∧ s 69 = .int .i64 k ∧ ∃ g2, FLe h9 g2 ∧ St w [] (full w) g2 [.blk g0 (.cells cur.toArray 71 (0, 0)), trO tb mb1 rb1 T1] w') WS.length ⟨0, rfl, by omega, Agree.refl _ _, rfl, h9, FLe.refl _, H9⟩ ?_
        clear H8 H9
        rintro m s w' ⟨k, rfl, hk, hA, e1, g2, hg2, H⟩
        obtain ⟨jk, rfl⟩ := hA.env1 e1
        clear hA e1
        by_cases hlk : k < WS.length
        · have gr := was_row hct hlk
          obtain ⟨y, hy⟩ : ∃ y, y = WS[k] := ⟨_, rfl⟩
          have hyR := (hWS y (by rw [hy]; exact List.getElem_mem hlk)).mono hg2
          rw [← hy] at gr
          clear hy
          have ly : (cWas y).length = 2 := rfl
          have q0 : (cWas y)[0 + 0]? = some (.int .u32 ((Sh.num y.d y.s).toNat : Nat)) := rfl
          have q1 : (cWas y)[0 + 1]? = some (.slice y.a (Sh.its y.d y.s).length y.c) := rfl
          have hly := hyR.ln
          have hat := fun w hs hF hR => tr_At tb mb1 rb1 T1 y.d y.s (full w) w hs hF hyR.ok hR (by omega) hyR.rt
          have hN8 := hyR.sl
          have hyp := hyR.rep
          have ho : ∀ u ∈ cWas y, u.oneCell' = true := by
            intro u hu
            rcases List.mem_cons.1 hu with rfl | hu
            · rfl
            · obtain rfl := List.mem_singleton.1 hu; rfl
          generalize cWas y = row at gr ly q0 q1 ho
          clear hWS hws hyR
          repeat' (first | ((first | refine WL.p rfl ?_ | refine WL.u ?_ | refine WL.g rfl rfl ?_ | refine WL.gu rfl ?_); first | (refine opk 1 rfl ?_; (refine ost_C H rfl (hat _ (sat_full _) (H.trF (i := 2) rfl) (hyp.mono H.sat.le)) rfl ?_; clear H; rintro vk wk hfk Lk ⟨a7, c7, rfl, rfl⟩ H; simp only [List.cons_append, List.nil_append] at H; obtain ⟨a6, c6, h7, e7, hle7, hN7, H9⟩ := H.freezeR (rows_len5 _); injection e7 with e91 e92 e93; subst e91; subst e93; clear H; have H := H9; clear H9)) | refine pvQ ?_ | (refine opk 3 rfl ?_; first | (refine ost_eqA rfl (by decide) rfl rfl tyQ tyQ (fun hc => ?_) (fun hc => ?_) <;> try exact prEQ) | (refine ost_neA rfl (by decide) rfl rfl tyQ tyQ (fun hc => ?_) (fun hc => ?_) <;> try exact prEQ) | (refine ost_cmp rfl rfl rfl rfl (fun hc => ?_) (fun hc => ?_) <;> (simp only [cmpP] at hc; try exact prIQ)) | (refine ost_ptEq rfl rfl rfl (fun hc => ?_) (fun hc => ?_) <;> try (simp at hc; done)) | (refine ost_ptNe rfl rfl rfl (fun hc => ?_) (fun hc => ?_) <;> try (simp at hc; done))) | (refine opk 4 rfl ?_; (refine ost_cmp rfl rfl rfl rfl (fun hc => ?_) (fun hc => ?_) <;> (simp only [cmpP] at hc; try exact prIQ))) | (refine opk 8 rfl ?_; (refine ost_storeW H rfl rfl rfl rfl lQ ixQ lQ okQ ?_; clear H; intro wk H; simp only [List.set_cons_zero, List.set_cons_succ, Nat.reduceAdd] at H)) | (refine opk 9 rfl ?_; first | (refine ost_allocA H rfl ?_; clear H; intro bk wk H) | (refine ost_build1 H rfl rfl rfl evQ lsQ rfl ?_; clear H; intro bk wk H))) | refine Wc.seq ?_ | refine then_n ?_ | refine WL.nil ?_ | refine Wc.region ?_ | refine Wc.block ?_ | refine then_r ?_ | refine then_e ?_ | refine inb_e rfl ?_ | refine inb_o rfl ?_ | refine inb_n ?_ | refine inb_r ?_ | refine Wc.skip ?_ | refine Wc.exit ?_ | refine Wc.ret ?_ | refine Wc.cond_true rfl ?_ | refine Wc.cond_false rfl ?_ | refine WL.skp rfl rfl ?_ | refine WL.sku rfl ?_)
          all_goals first | (exfalso; omega) | (exfalso; exact hc rfl) | skip
          obtain ⟨b7, eb7⟩ := H.nameB idx0
          subst eb7
          replace hN8 := hN8.mono hle7
          have qq1 := hN7.lenM
          have qq2 := hN8.lenM
          refine Wc.loopE (fun s0 m s w' => ∃ kk : Nat, m = (Sh.its y.d y.s).length - kk ∧ kk ≤ (Sh.its y.d y.s).length ∧ Agree [2, 10, 92, 93, 94, 95, 96, 97, 98, 99, 100, 101, 102, 103, 104, 105] s s0 ∧ s 92 = .int .i64 kk ∧ St w [] (full w) h7 [.blk b7 (.cells row.toArray 71 (0, 0)), .blk g0 (.cells cur.toArray 71 (0, 0)), trO tb mb1 rb1 T1] w') (Sh.its y.d y.s).length ⟨0, rfl, by omega, Agree.refl _ _, rfl, H⟩ ?_
          clear H
          rintro m s w' ⟨kk, rfl, hkk, hA, e1, H⟩
          obtain ⟨jkk, rfl⟩ := hA.env1 e1
          clear hA e1
          by_cases hlkk : kk < (Sh.its y.d y.s).length
          · obtain ⟨bx, ox, Lx, Tx, fx, e1, ebx, egx⟩ := hN7.getM (by decide) (Nat.lt_of_le_of_lt (Nat.zero_le _) hlkk)
            subst e1
            have g1 := egx (kk : Int).toNat kk hlkk (by omega)
            obtain ⟨bz, oz, Lz, Tz, fz, e1, ebz, egz⟩ := hN8.getM (by decide) (Nat.lt_of_le_of_lt (Nat.zero_le _) hlkk)
            rw [e1] at q1
            have g2 := egz (kk : Int).toNat kk hlkk (by omega)
            clear egx egz
            generalize (Sh.its y.d y.s)[kk] = z at g1 g2
            have lz := cItem_len z
            repeat' (first | ((first | refine WL.p rfl ?_ | refine WL.u ?_ | refine WL.g rfl rfl ?_ | refine WL.gu rfl ?_); first | refine pvQ ?_ | (refine opk 3 rfl ?_; first | (refine ost_eqA rfl (by decide) rfl rfl tyQ tyQ (fun hc => ?_) (fun hc => ?_) <;> try exact prEQ) | (refine ost_neA rfl (by decide) rfl rfl tyQ tyQ (fun hc => ?_) (fun hc => ?_) <;> try exact prEQ) | (refine ost_cmp rfl rfl rfl rfl (fun hc => ?_) (fun hc => ?_) <;> (simp only [cmpP] at hc; try exact prIQ)) | (refine ost_ptEq rfl rfl rfl (fun hc => ?_) (fun hc => ?_) <;> try (simp at hc; done)) | (refine ost_ptNe rfl rfl rfl (fun hc => ?_) (fun hc => ?_) <;> try (simp at hc; done))) | (refine opk 4 rfl ?_; (refine ost_cmp rfl rfl rfl rfl (fun hc => ?_) (fun hc => ?_) <;> (simp only [cmpP] at hc; try exact prIQ))) | (refine opk 8 rfl ?_; (refine ost_storeW H rfl rfl rfl rfl lQ ixQ lQ okQ ?_; clear H; intro wk H; simp only [List.set_cons_zero, List.set_cons_succ, Nat.reduceAdd] at H)) | (refine opk 9 rfl ?_; first | (refine ost_allocA H rfl ?_; clear H; intro bk wk H) | (refine ost_build1 H rfl rfl rfl evQ lsQ rfl ?_; clear H; intro bk wk H))) | refine Wc.seq ?_ | refine then_n ?_ | refine WL.nil ?_ | refine Wc.region ?_ | refine Wc.block ?_ | refine then_r ?_ | refine then_e ?_ | refine inb_e rfl ?_ | refine inb_o rfl ?_ | refine inb_n ?_ | refine inb_r ?_ | refine Wc.skip ?_ | refine Wc.exit ?_ | refine Wc.ret ?_ | refine Wc.cond_true rfl ?_ | refine Wc.cond_false rfl ?_ | (refine Wc.drawn (id := 28) 9 (by kernel_rfl) ?_) | refine WL.skp rfl rfl ?_ | refine WL.sku rfl ?_ | (refine rgs_nil ?_; intro vs wk hE; replace H := H.ext hE; clear hE) | refine RGs.skp (fun _ => rfl) rfl ?_ | (refine RGs.bq (fun _ => rfl) rfl (by intro vs w hE hP; have H := H.ext hE; first | exact dbQ | fail) (fun hc => ?_) (fun hc => ?_) <;> ((try simp only [cmpP, decide_eq_true_eq, decide_eq_false_iff_not, dcd_iff, dcd_no] at hc); try exact prDQ)) | refine RGs.pq (fun _ => rfl) rfl (by intro vs w hE hP; have H := H.ext hE; first | exact dvQ | fail) ?_)
            all_goals first | (exfalso; omega) | (exfalso; exact hc rfl) | skip
            exact ⟨(Sh.its y.d y.s).length - (kk + 1), by omega, kk + 1, rfl, by omega, by (repeat' (first | exact Agree.refl _ _ | exact Agree.havoc | refine Agree.upd rfl ?_ | refine Agree.hav2 rfl ?_)), rfl, H⟩
          · repeat' (first | ((first | refine WL.p rfl ?_ | refine WL.u ?_ | refine WL.g rfl rfl ?_ | refine WL.gu rfl ?_); first | refine pvQ ?_ | (refine opk 3 rfl ?_; first | (refine ost_eqA rfl (by decide) rfl rfl tyQ tyQ (fun hc => ?_) (fun hc => ?_) <;> try exact prEQ) | (refine ost_neA rfl (by decide) rfl rfl tyQ tyQ (fun hc => ?_) (fun hc => ?_) <;> try exact prEQ) | (refine ost_cmp rfl rfl rfl rfl (fun hc => ?_) (fun hc => ?_) <;> (simp only [cmpP] at hc; try exact prIQ)) | (refine ost_ptEq rfl rfl rfl (fun hc => ?_) (fun hc => ?_) <;> try (simp at hc; done)) | (refine ost_ptNe rfl rfl rfl (fun hc => ?_) (fun hc => ?_) <;> try (simp at hc; done))) | (refine opk 4 rfl ?_; (refine ost_cmp rfl rfl rfl rfl (fun hc => ?_) (fun hc => ?_) <;> (simp only [cmpP] at hc; try exact prIQ))) | (refine opk 8 rfl ?_; (refine ost_storeW H rfl rfl rfl rfl lQ ixQ lQ okQ ?_; clear H; intro wk H; simp only [List.set_cons_zero, List.set_cons_succ, Nat.reduceAdd] at H)) | (refine opk 9 rfl ?_; first | (refine ost_allocA H rfl ?_; clear H; intro bk wk H) | (refine ost_build1 H rfl rfl rfl evQ lsQ rfl ?_; clear H; intro bk wk H))) | refine Wc.seq ?_ | refine then_n ?_ | refine WL.nil ?_ | refine Wc.region ?_ | refine Wc.block ?_ | refine then_r ?_ | refine then_e ?_ | refine inb_e rfl ?_ | refine inb_o rfl ?_ | refine inb_n ?_ | refine inb_r ?_ | refine Wc.skip ?_ | refine Wc.exit ?_ | refine Wc.ret ?_ | refine Wc.cond_true rfl ?_ | refine Wc.cond_false rfl ?_ | (refine Wc.drawn (id := 28) 9 (by kernel_rfl) ?_) | refine WL.skp rfl rfl ?_ | refine WL.sku rfl ?_ | (refine rgs_nil ?_; intro vs wk hE; replace H := H.ext hE; clear hE) | refine RGs.skp (fun _ => rfl) rfl ?_ | (refine RGs.bq (fun _ => rfl) rfl (by intro vs w hE hP; have H := H.ext hE; first | exact dbQ | fail) (fun hc => ?_) (fun hc => ?_) <;> ((try simp only [cmpP, decide_eq_true_eq, decide_eq_false_iff_not, dcd_iff, dcd_no] at hc); try exact prDQ)) | refine RGs.pq (fun _ => rfl) rfl (by intro vs w hE hP; have H := H.ext hE; first | exact dvQ | fail) ?_)
            all_goals first | (exfalso; omega) | (exfalso; exact hc rfl) | skip
            exact ⟨WS.length - (k + 1), by omega, k + 1, rfl, by omega, by (repeat' (first | exact Agree.refl _ _ | exact Agree.havoc | refine Agree.upd rfl ?_ | refine Agree.hav2 rfl ?_)), rfl, h7, hg2.trans hle7, H.picks [1, 2] rfl (by decide)⟩
        · obtain rfl : k = WS.length := by omega
          repeat' (first | ((first | refine WL.p rfl ?_ | refine WL.u ?_ | refine WL.g rfl rfl ?_ | refine WL.gu rfl ?_); first | refine pvQ ?_ | (refine opk 3 rfl ?_; first | (refine ost_eqA rfl (by decide) rfl rfl tyQ tyQ (fun hc => ?_) (fun hc => ?_) <;> try exact prEQ) | (refine ost_neA rfl (by decide) rfl rfl tyQ tyQ (fun hc => ?_) (fun hc => ?_) <;> try exact prEQ) | (refine ost_cmp rfl rfl rfl rfl (fun hc => ?_) (fun hc => ?_) <;> (simp only [cmpP] at hc; try exact prIQ)) | (refine ost_ptEq rfl rfl rfl (fun hc => ?_) (fun hc => ?_) <;> try (simp at hc; done)) | (refine ost_ptNe rfl rfl rfl (fun hc => ?_) (fun hc => ?_) <;> try (simp at hc; done))) | (refine opk 4 rfl ?_; (refine ost_cmp rfl rfl rfl rfl (fun hc => ?_) (fun hc => ?_) <;> (simp only [cmpP] at hc; try exact prIQ))) | (refine opk 8 rfl ?_; (refine ost_storeW H rfl rfl rfl rfl lQ ixQ lQ okQ ?_; clear H; intro wk H; simp only [List.set_cons_zero, List.set_cons_succ, Nat.reduceAdd] at H)) | (refine opk 9 rfl ?_; first | (refine ost_allocA H rfl ?_; clear H; intro bk wk H) | (refine ost_build1 H rfl rfl rfl evQ lsQ rfl ?_; clear H; intro bk wk H))) | refine Wc.seq ?_ | refine then_n ?_ | refine WL.nil ?_ | refine Wc.region ?_ | refine Wc.block ?_ | refine then_r ?_ | refine then_e ?_ | refine inb_e rfl ?_ | refine inb_o rfl ?_ | refine inb_n ?_ | refine inb_r ?_ | refine Wc.skip ?_ | refine Wc.exit ?_ | refine Wc.ret ?_ | refine Wc.cond_true rfl ?_ | refine Wc.cond_false rfl ?_ | refine WL.skp rfl rfl ?_ | refine WL.sku rfl ?_)
          all_goals first | (exfalso; omega) | (exfalso; exact hc rfl) | skip
          have H2 := H.blkOwnN (i := 0) rfl hcl (n := WS.length) hnc hmx.2
          rw [hct] at H2
          simp only [List.set_cons_zero] at H2
          have e3 : HA.own (.slice (some ⟨g0, 0, none⟩) WS.length ca) 71 2 WS.length (WS.map cWas).flatten = ownR (.slice (some ⟨g0, 0, none⟩) WS.length ca) 71 2 (WS.map cWas) := by
            unfold ownR; rw [List.length_map]
          rw [e3] at H2
          exact ⟨l.length - (i + 1), by omega, i + 1, d1, s1, T1, g2, mb1, rb1, WS, _, ca, rfl, by omega, by omega, by (repeat' (first | exact Agree.refl _ _ | exact Agree.havoc | refine Agree.upd rfl ?_ | refine Agree.hav2 rfl ?_)), rfl, rfl, H.le hs, hT1'.mono hg2 (Nat.le_refl _), by omega, fun y hy => (hWS y hy).mono hg2, H2⟩
    · by_cases hk5 : x.kd.toNat % 6 = 5
      · have hD := fun g w hT HO => tr_Trim tb mb1 rb1 T d1 s1 g w hT (hT0.nodes (by omega)) HO
        have hTr := fun h (hT : TrB h T d1 s1 i) => trim_TrB hT
        generalize hT1e : T.trim (Sh.nums d1 s1) ((Sh.its d1 s1).length : Nat) = T1 at hD hTr
        repeat' (first | ((first | refine WL.p rfl ?_ | refine WL.u ?_ | refine WL.g rfl rfl ?_ | refine WL.gu rfl ?_); first | (refine opk 1 rfl ?_; (refine ost_H (A := trO tb mb1 rb1 T) H rfl (by (exact ixQ)) (fun HO => hD _ _ hT.inv HO) rfl ?_; clear H; rintro vk wk hfk Lk ⟨mb1, rb1, rfl, rfl⟩ hle H; simp only [List.cons_append, List.nil_append, List.eraseIdx_cons_zero, List.eraseIdx_cons_succ] at H)) | refine pvQ ?_ | (refine opk 3 rfl ?_; first | (refine ost_eqA rfl (by decide) rfl rfl tyQ tyQ (fun hc => ?_) (fun hc => ?_) <;> try exact prEQ) | (refine ost_neA rfl (by decide) rfl rfl tyQ tyQ (fun hc => ?_) (fun hc => ?_) <;> try exact prEQ) | (refine ost_cmp rfl rfl rfl rfl (fun hc => ?_) (fun hc => ?_) <;> (simp only [cmpP] at hc; try exact prIQ)) | (refine ost_ptEq rfl rfl rfl (fun hc => ?_) (fun hc => ?_) <;> try (simp at hc; done)) | (refine ost_ptNe rfl rfl rfl (fun hc => ?_) (fun hc => ?_) <;> try (simp at hc; done))) | (refine opk 4 rfl ?_; (refine ost_cmp rfl rfl rfl rfl (fun hc => ?_) (fun hc => ?_) <;> (simp only [cmpP] at hc; try exact prIQ))) | (refine opk 8 rfl ?_; (refine ost_storeW H rfl rfl rfl rfl lQ ixQ lQ okQ ?_; clear H; intro wk H; simp only [List.set_cons_zero, List.set_cons_succ, Nat.reduceAdd] at H)) | (refine opk 9 rfl ?_; first | (refine ost_allocA H rfl ?_; clear H; intro bk wk H) | (refine ost_build1 H rfl rfl rfl evQ lsQ rfl ?_; clear H; intro bk wk H))) | refine Wc.seq ?_ | refine then_n ?_ | refine WL.nil ?_ | refine Wc.region ?_ | refine Wc.block ?_ | refine then_r ?_ | refine then_e ?_ | refine inb_e rfl ?_ | refine inb_o rfl ?_ | refine inb_n ?_ | refine inb_r ?_ | refine Wc.skip ?_ | refine Wc.exit ?_ | refine Wc.ret ?_ | refine Wc.cond_true rfl ?_ | refine Wc.cond_false rfl ?_ | refine WL.skp rfl rfl ?_ | refine WL.sku rfl ?_)
        all_goals first | (exfalso; omega) | (exfalso; exact hc rfl) | skip
        have hT1 := (hTr _ (hT.mono hle (Nat.le_refl _))).mono (FLe.refl _) (Nat.le_succ i)
        have H9 := (H.nilOwn 71 2).picks (L' := [trO tb mb1 rb1 T1, ownR (.slice none ([] : List WasT).length 0) 71 2 (([] : List WasT).map cWas)]) [1, 0] rfl (by decide)
        clear H
        have H := H9
        clear H9
        replace hwl : ([] : List WasT).length ≤ i + 1 := Nat.zero_le _
        have hws1 : ∀ x ∈ ([] : List WasT), WasR hfk T1 x := fun x hx => (List.not_mem_nil hx).elim
        have hln1 := hT1.ln
        have hwl2 : (([] : List WasT).map cWas).length ≤ 1000 := by rw [List.length_map]; omega
        have hr1 : T1.root = Sh.num d1 s1 := hT1.inv.root
        have hroot1 := fun g w HO => tr_Root tb mb1 rb1 T1 g w HO
        rw [hr1] at hroot1
        have hrn := fun w hs hF hR => tr_Range tb mb1 rb1 T1 d1 s1 leastK greatK (full w) w hs hF hT1.inv.ok hT1.inv.srt hR hT1.inv.root (by omega)
        rw [rangeI_all] at hrn
        repeat' (first | ((first | refine WL.p rfl ?_ | refine WL.u ?_ | refine WL.g rfl rfl ?_ | refine WL.gu rfl ?_); first | (refine opk 1 rfl ?_; first | (refine ost_O (A := trO tb mb1 rb1 T1) H rfl (by (exact ixQ)) (fun HO => hroot1 _ _ HO) rfl ?_; clear H; rintro vk wk hfk Lk ⟨rfl, rfl, rfl⟩ H; simp only [List.cons_append, List.nil_append, List.eraseIdx_cons_zero, List.eraseIdx_cons_succ] at H) | (refine ost_V H rfl (law14_least _) rfl ?_; clear H; intro wk H) | (refine ost_V H rfl (law14_greatest _) rfl ?_; clear H; intro wk H) | (refine ost_C H rfl (hrn _ (sat_full _) (H.trF (i := 0) rfl) (hT1.inv.rep.mono H.sat.le)) rfl ?_; clear H; rintro vk wk hfk Lk ⟨a9, c9, rfl, rfl⟩ H; simp only [List.cons_append, List.nil_append] at H; obtain ⟨a8, c8, h9, e9, hle9, hN9, H9⟩ := H.freezeR (rows_len5 _); injection e9 with e91 e92 e93; subst e91; subst e93; clear H; have H := H9; clear H9) | (refine ost_appR (rows := ([] : List WasT).map cWas) (row := cWas ⟨d1, s1, a9, c9⟩) H rfl rfl rfl (by (exact ixQ)) (by (exact ixQ)) (by rfl) (by first | simp; done | exact Nat.succ_pos _) rfl (allOne_of rfl) rfl (by omega) ?_; clear H; intro aa ca wk H; simp only [List.set_cons_zero, List.set_cons_succ] at H)) | (refine opk 9 rfl ?_; first | (refine ost_buildS (l := cWas ⟨d1, s1, a9, c9⟩) rfl (evP_cons (rfl : _ = Value.int _ _) (evP_cons (rfl : _ = Value.slice _ _ _) evP_nil)) (by rfl) (by rfl) ?_) | (refine ost_buildR (rows := [cWas ⟨d1, s1, a9, c9⟩]) H rfl (by decide) rfl (by rfl) (evP1 vxQ) (.cons rfl .nil) rfl (fun r hr => by rw [List.mem_singleton.1 hr]; rfl) ?_; clear H; intro bk wk H)) | refine pvQ ?_ | (refine opk 3 rfl ?_; first | (refine ost_eqA rfl (by decide) rfl rfl tyQ tyQ (fun hc => ?_) (fun hc => ?_) <;> try exact prEQ) | (refine ost_neA rfl (by decide) rfl rfl tyQ tyQ (fun hc => ?_) (fun hc => ?_) <;> try exact prEQ) | (refine ost_cmp rfl rfl rfl rfl (fun hc => ?_) (fun hc => ?_) <;> (simp only [cmpP] at hc; try exact prIQ)) | (refine ost_ptEq rfl rfl rfl (fun hc => ?_) (fun hc => ?_) <;> try (simp at hc; done)) | (refine ost_ptNe rfl rfl rfl (fun hc => ?_) (fun hc => ?_) <;> try (simp at hc; done))) | (refine opk 4 rfl ?_; (refine ost_cmp rfl rfl rfl rfl (fun hc => ?_) (fun hc => ?_) <;> (simp only [cmpP] at hc; try exact prIQ))) | (refine opk 8 rfl ?_; (refine ost_storeW H rfl rfl rfl rfl lQ ixQ lQ okQ ?_; clear H; intro wk H; simp only [List.set_cons_zero, List.set_cons_succ, Nat.reduceAdd] at H)) | (refine opk 9 rfl ?_; first | (refine ost_allocA H rfl ?_; clear H; intro bk wk H) | (refine ost_build1 H rfl rfl rfl evQ lsQ rfl ?_; clear H; intro bk wk H))) | refine Wc.seq ?_ | refine then_n ?_ | refine WL.nil ?_ | refine Wc.region ?_ | refine Wc.block ?_ | refine then_r ?_ | refine then_e ?_ | refine inb_e rfl ?_ | refine inb_o rfl ?_ | refine inb_n ?_ | refine inb_r ?_ | refine Wc.skip ?_ | refine Wc.exit ?_ | refine Wc.ret ?_ | refine Wc.cond_true rfl ?_ | refine Wc.cond_false rfl ?_ | refine WL.skp rfl rfl ?_ | refine WL.sku rfl ?_)
        all_goals first | (exfalso; omega) | (exfalso; exact hc rfl) | skip
        have hT1' := hT1.mono hle9 (Nat.le_refl _)
        have hWS : ∀ y ∈ ([] : List WasT) ++ [(⟨d1, s1, a9, c9⟩ : WasT)], WasR h9 T1 y := by
          intro y hy
          rcases List.mem_append.1 hy with hy | hy
          · exact (hws1 y hy).mono hle9
          · obtain rfl := List.mem_singleton.1 hy
            exact was_new hT1' (by omega) hN9
        have hWl : (([] : List WasT) ++ [(⟨d1, s1, a9, c9⟩ : WasT)]).length = ([] : List WasT).length + 1 := by simp
        rw [show ([] : List WasT).map cWas ++ [cWas ⟨d1, s1, a9, c9⟩] = (([] : List WasT) ++ [(⟨d1, s1, a9, c9⟩ : WasT)]).map cWas from by rw [List.map_append]; rfl] at H ⊢
        simp only [List.length_map] at H ⊢
        replace hwl : ([] : List WasT).length ≤ i + 1 := hwl
        generalize ([] : List WasT) ++ [(⟨d1, s1, a9, c9⟩ : WasT)] = WS at *
        have H8 := H.picks (L' := [ownR (.slice aa WS.length ca) 71 2 (WS.map cWas), trO tb mb1 rb1 T1]) [2, 1] rfl (by decide)
        clear H
        unfold ownR at H8
        rw [List.length_map] at H8
        have hmx := own_mx H8 (i := 0) rfl
        obtain ⟨g0, cur, e1, hnc, hcl, hct, H9⟩ := H8.ownBlk (i := 0) rfl (by omega)
        subst e1
        simp only [List.set_cons_zero] at H9
        refine Wc.loopE (fun s0 m s w' => ∃ k : Nat, m = WS.length - k ∧ k ≤ WS.length ∧ Agree [2, 7, 8, 9, 10, 69, 70, 71, 72, 73, 74, 75, 76, 77, 78, 79, 80, 81, 82, 83, 84, 85, 86, 87, 88, 89, 90, 91, 92, 93, 94, 95, 96, 97, 98, 99, 100, 101, 102, 103, 104, 105, 106] s s0 ∧ s 69 = .int .i64 k ∧ ∃ g2, FLe h9 g2 ∧ St w [] (full w) g2 [.blk g0 (.cells cur.toArray 71 (0, 0)), trO tb mb1 rb1 T1] w') WS.length ⟨0, rfl, by omega, Agree.refl _ _, rfl, h9, FLe.refl _, H9⟩ ?_
        clear H8 H9
        rintro m s w' ⟨k, rfl, hk, hA, e1, g2, hg2, H⟩
        obtain ⟨jk, rfl⟩ := hA.env1 e1
        clear hA e1
        by_cases hlk : k < WS.length
        · have gr := was_row hct hlk
          obtain ⟨y, hy⟩ : ∃ y, y = WS[k] := ⟨_, rfl⟩
          have hyR := (hWS y (by rw [hy]; exact List.getElem_mem hlk)).mono hg2
          rw [← hy] at gr
          clear hy
          have ly : (cWas y).length = 2 := rfl
          have q0 : (cWas y)[0 + 0]? = some (.int .u32 ((Sh.num y.d y.s).toNat : Nat)) := rfl
          have q1 : (cWas y)[0 + 1]? = some (.slice y.a (Sh.its y.d y.s).length y.c) := rfl
          have hly := hyR.ln
          have hat := fun w hs hF hR => tr_At tb mb1 rb1 T1 y.d y.s (full w) w hs hF hyR.ok hR (by omega) hyR.rt
          have hN8 := hyR.sl
          have hyp := hyR.rep
          have ho : ∀ u ∈ cWas y, u.oneCell' = true := by
            intro u hu
            rcases List.mem_cons.1 hu with rfl | hu
            · rfl
            · obtain rfl := List.mem_singleton.1 hu; rfl
          generalize cWas y = row at gr ly q0 q1 ho
          clear hWS hws hyR
          repeat' (first | ((first | refine WL.p rfl ?_ | refine WL.u ?_ | refine WL.g rfl rfl ?_ | refine WL.gu rfl ?_); first | (refine opk 1 rfl ?_; (refine ost_C H rfl (hat _ (sat_full _) (H.trF (i := 2) rfl) (hyp.mono H.sat.le)) rfl ?_; clear H; rintro vk wk hfk Lk ⟨a7, c7, rfl, rfl⟩ H; simp only [List.cons_append, List.nil_append] at H; obtain ⟨a6, c6, h7, e7, hle7, hN7, H9⟩ := H.freezeR (rows_len5 _); injection e7 with e91 e92 e93; subst e91; subst e93; clear H; have H := H9; clear H9)) | refine pvQ ?_ | (refine opk 3 rfl ?_; first | (refine ost_eqA rfl (by decide) rfl rfl tyQ tyQ (fun hc => ?_) (fun hc => ?_) <;> try exact prEQ) | (refine ost_neA rfl (by decide) rfl rfl tyQ tyQ (fun hc => ?_) (fun hc => ?_) <;> try exact prEQ) | (refine ost_cmp rfl rfl rfl rfl (fun hc => ?_) (fun hc => ?_) <;> (simp only [cmpP] at hc; try exact prIQ)) | (refine ost_ptEq rfl rfl rfl (fun hc => ?_) (fun hc => ?_) <;> try (simp at hc; done)) | (refine ost_ptNe rfl rfl rfl (fun hc => ?_) (fun hc => ?_) <;> try (simp at hc; done))) | (refine opk 4 rfl ?_; (refine ost_cmp rfl rfl rfl rfl (fun hc => ?_) (fun hc => ?_) <;> (simp only [cmpP] at hc; try exact prIQ))) | (refine opk 8 rfl ?_; (refine ost_storeW H rfl rfl rfl rfl lQ ixQ lQ okQ ?_; clear H; intro wk H; simp only [List.set_cons_zero, List.set_cons_succ, Nat.reduceAdd] at H)) | (refine opk 9 rfl ?_; first | (refine ost_allocA H rfl ?_; clear H; intro bk wk H) | (refine ost_build1 H rfl rfl rfl evQ lsQ rfl ?_; clear H; intro bk wk H))) | refine Wc.seq ?_ | refine then_n ?_ | refine WL.nil ?_ | refine Wc.region ?_ | refine Wc.block ?_ | refine then_r ?_ | refine then_e ?_ | refine inb_e rfl ?_ | refine inb_o rfl ?_ | refine inb_n ?_ | refine inb_r ?_ | refine Wc.skip ?_ | refine Wc.exit ?_ | refine Wc.ret ?_ | refine Wc.cond_true rfl ?_ | refine Wc.cond_false rfl ?_ | refine WL.skp rfl rfl ?_ | refine WL.sku rfl ?_)
          all_goals first | (exfalso; omega) | (exfalso; exact hc rfl) | skip
          obtain ⟨b7, eb7⟩ := H.nameB idx0
          subst eb7
          replace hN8 := hN8.mono hle7
          have qq1 := hN7.lenM
          have qq2 := hN8.lenM
          refine Wc.loopE (fun s0 m s w' => ∃ kk : Nat, m = (Sh.its y.d y.s).length - kk ∧ kk ≤ (Sh.its y.d y.s).length ∧ Agree [2, 10, 92, 93, 94, 95, 96, 97, 98, 99, 100, 101, 102, 103, 104, 105] s s0 ∧ s 92 = .int .i64 kk ∧ St w [] (full w) h7 [.blk b7 (.cells row.toArray 71 (0, 0)), .blk g0 (.cells cur.toArray 71 (0, 0)), trO tb mb1 rb1 T1] w') (Sh.its y.d y.s).length ⟨0, rfl, by omega, Agree.refl _ _, rfl, H⟩ ?_
          clear H
          rintro m s w' ⟨kk, rfl, hkk, hA, e1, H⟩
          obtain ⟨jkk, rfl⟩ := hA.env1 e1
          clear hA e1
          by_cases hlkk : kk < (Sh.its y.d y.s).length
          · obtain ⟨bx, ox, Lx, Tx, fx, e1, ebx, egx⟩ := hN7.getM (by decide) (Nat.lt_of_le_of_lt (Nat.zero_le _) hlkk)
            subst e1
            have g1 := egx (kk : Int).toNat kk hlkk (by omega)
            obtain ⟨bz, oz, Lz, Tz, fz, e1, ebz, egz⟩ := hN8.getM (by decide) (Nat.lt_of_le_of_lt (Nat.zero_le _) hlkk)
            rw [e1] at q1
            have g2 := egz (kk : Int).toNat kk hlkk (by omega)
            clear egx egz
            generalize (Sh.its y.d y.s)[kk] = z at g1 g2
            have lz := cItem_len z
            repeat' (first | ((first | refine WL.p rfl ?_ | refine WL.u ?_ | refine WL.g rfl rfl ?_ | refine WL.gu rfl ?_); first | refine pvQ ?_ | (refine opk 3 rfl ?_; first | (refine ost_eqA rfl (by decide) rfl rfl tyQ tyQ (fun hc => ?_) (fun hc => ?_) <;> try exact prEQ) | (refine ost_neA rfl (by decide) rfl rfl tyQ tyQ (fun hc => ?_) (fun hc => ?_) <;> try exact prEQ) | (refine ost_cmp rfl rfl rfl rfl (fun hc => ?_) (fun hc => ?_) <;> (simp only [cmpP] at hc; try exact prIQ)) | (refine ost_ptEq rfl rfl rfl (fun hc => ?_) (fun hc => ?_) <;> try (simp at hc; done)) | (refine ost_ptNe rfl rfl rfl (fun hc => ?_) (fun hc => ?_) <;> try (simp at hc; done))) | (refine opk 4 rfl ?_; (refine ost_cmp rfl rfl rfl rfl (fun hc => ?_) (fun hc => ?_) <;> (simp only [cmpP] at hc; try exact prIQ))) | (refine opk 8 rfl ?_; (refine ost_storeW H rfl rfl rfl rfl lQ ixQ lQ okQ ?_; clear H; intro wk H; simp only [List.set_cons_zero, List.set_cons_succ, Nat.reduceAdd] at H)) | (refine opk 9 rfl ?_; first | (refine ost_allocA H rfl ?_; clear H; intro bk wk H) | (refine ost_build1 H rfl rfl rfl evQ lsQ rfl ?_; clear H; intro bk wk H))) | refine Wc.seq ?_ | refine then_n ?_ | refine WL.nil ?_ | refine Wc.region ?_ | refine Wc.block ?_ | refine then_r ?_ | refine then_e ?_ | refine inb_e rfl ?_ | refine inb_o rfl ?_ | refine inb_n ?_ | refine inb_r ?_ | refine Wc.skip ?_ | refine Wc.exit ?_ | refine Wc.ret ?_ | refine Wc.cond_true rfl ?_ | refine Wc.cond_false rfl ?_ | (refine Wc.drawn (id := 28) 9 (by kernel_rfl) ?_) | refine WL.skp rfl rfl ?_ | refine WL.sku rfl ?_ | (refine rgs_nil ?_; intro vs wk hE; replace H := H.ext hE; clear hE) | refine RGs.skp (fun _ => rfl) rfl ?_ | (refine RGs.bq (fun _ => rfl) rfl (by intro vs w hE hP; have H := H.ext hE; first | exact dbQ | fail) (fun hc => ?_) (fun hc => ?_) <;> ((try simp only [cmpP, decide_eq_true_eq, decide_eq_false_iff_not, dcd_iff, dcd_no] at hc); try exact prDQ)) | refine RGs.pq (fun _ => rfl) rfl (by intro vs w hE hP; have H := H.ext hE; first | exact dvQ | fail) ?_)
            all_goals first | (exfalso; omega) | (exfalso; exact hc rfl) | skip
            exact ⟨(Sh.its y.d y.s).length - (kk + 1), by omega, kk + 1, rfl, by omega, by (repeat' (first | exact Agree.refl _ _ | exact Agree.havoc | refine Agree.upd rfl ?_ | refine Agree.hav2 rfl ?_)), rfl, H⟩
          · repeat' (first | ((first | refine WL.p rfl ?_ | refine WL.u ?_ | refine WL.g rfl rfl ?_ | refine WL.gu rfl ?_); first | refine pvQ ?_ | (refine opk 3 rfl ?_; first | (refine ost_eqA rfl (by decide) rfl rfl tyQ tyQ (fun hc => ?_) (fun hc => ?_) <;> try exact prEQ) | (refine ost_neA rfl (by decide) rfl rfl tyQ tyQ (fun hc => ?_) (fun hc => ?_) <;> try exact prEQ) | (refine ost_cmp rfl rfl rfl rfl (fun hc => ?_) (fun hc => ?_) <;> (simp only [cmpP] at hc; try exact prIQ)) | (refine ost_ptEq rfl rfl rfl (fun hc => ?_) (fun hc => ?_) <;> try (simp at hc; done)) | (refine ost_ptNe rfl rfl rfl (fun hc => ?_) (fun hc => ?_) <;> try (simp at hc; done))) | (refine opk 4 rfl ?_; (refine ost_cmp rfl rfl rfl rfl (fun hc => ?_) (fun hc => ?_) <;> (simp only [cmpP] at hc; try exact prIQ))) | (refine opk 8 rfl ?_; (refine ost_storeW H rfl rfl rfl rfl lQ ixQ lQ okQ ?_; clear H; intro wk H; simp only [List.set_cons_zero, List.set_cons_succ, Nat.reduceAdd] at H)) | (refine opk 9 rfl ?_; first | (refine ost_allocA H rfl ?_; clear H; intro bk wk H) | (refine ost_build1 H rfl rfl rfl evQ lsQ rfl ?_; clear H; intro bk wk H))) | refine Wc.seq ?_ | refine then_n ?_ | refine WL.nil ?_ | refine Wc.region ?_ | refine Wc.block ?_ | refine then_r ?_ | refine then_e ?_ | refine inb_e rfl ?_ | refine inb_o rfl ?_ | refine inb_n ?_ | refine inb_r ?_ | refine Wc.skip ?_ | refine Wc.exit ?_ | refine Wc.ret ?_ | refine Wc.cond_true rfl ?_ | refine Wc.cond_false rfl ?_ | (refine Wc.drawn (id := 28) 9 (by kernel_rfl) ?_) | refine WL.skp rfl rfl ?_ | refine WL.sku rfl ?_ | (refine rgs_nil ?_; intro vs wk hE; replace H := H.ext hE; clear hE) | refine RGs.skp (fun _ => rfl) rfl ?_ | (refine RGs.bq (fun _ => rfl) rfl (by intro vs w hE hP; have H := H.ext hE; first | exact dbQ | fail) (fun hc => ?_) (fun hc => ?_) <;> ((try simp only [cmpP, decide_eq_true_eq, decide_eq_false_iff_not, dcd_iff, dcd_no] at hc); try exact prDQ)) | refine RGs.pq (fun _ => rfl) rfl (by intro vs w hE hP; have H := H.ext hE; first | exact dvQ | fail) ?_)
            all_goals first | (exfalso; omega) | (exfalso; exact hc rfl) | skip
            exact ⟨WS.length - (k + 1), by omega, k + 1, rfl, by omega, by (repeat' (first | exact Agree.refl _ _ | exact Agree.havoc | refine Agree.upd rfl ?_ | refine Agree.hav2 rfl ?_)), rfl, h7, hg2.trans hle7, H.picks [1, 2] rfl (by decide)⟩
        · obtain rfl : k = WS.length := by omega
          repeat' (first | ((first | refine WL.p rfl ?_ | refine WL.u ?_ | refine WL.g rfl rfl ?_ | refine WL.gu rfl ?_); first | refine pvQ ?_ | (refine opk 3 rfl ?_; first | (refine ost_eqA rfl (by decide) rfl rfl tyQ tyQ (fun hc => ?_) (fun hc => ?_) <;> try exact prEQ) | (refine ost_neA rfl (by decide) rfl rfl tyQ tyQ (fun hc => ?_) (fun hc => ?_) <;> try exact prEQ) | (refine ost_cmp rfl rfl rfl rfl (fun hc => ?_) (fun hc => ?_) <;> (simp only [cmpP] at hc; try exact prIQ)) | (refine ost_ptEq rfl rfl rfl (fun hc => ?_) (fun hc => ?_) <;> try (simp at hc; done)) | (refine ost_ptNe rfl rfl rfl (fun hc => ?_) (fun hc => ?_) <;> try (simp at hc; done))) | (refine opk 4 rfl ?_; (refine ost_cmp rfl rfl rfl rfl (fun hc => ?_) (fun hc => ?_) <;> (simp only [cmpP] at hc; try exact prIQ))) | (refine opk 8 rfl ?_; (refine ost_storeW H rfl rfl rfl rfl lQ ixQ lQ okQ ?_; clear H; intro wk H; simp only [List.set_cons_zero, List.set_cons_succ, Nat.reduceAdd] at H)) | (refine opk 9 rfl ?_; first | (refine ost_allocA H rfl ?_; clear H; intro bk wk H) | (refine ost_build1 H rfl rfl rfl evQ lsQ rfl ?_; clear H; intro bk wk H))) | refine Wc.seq ?_ | refine then_n ?_ | refine WL.nil ?_ | refine Wc.region ?_ | refine Wc.block ?_ | refine then_r ?_ | refine then_e ?_ | refine inb_e rfl ?_ | refine inb_o rfl ?_ | refine inb_n ?_ | refine inb_r ?_ | refine Wc.skip ?_ | refine Wc.exit ?_ | refine Wc.ret ?_ | refine Wc.cond_true rfl ?_ | refine Wc.cond_false rfl ?_ | refine WL.skp rfl rfl ?_ | refine WL.sku rfl ?_)
          all_goals first | (exfalso; omega) | (exfalso; exact hc rfl) | skip
          have H2 := H.blkOwnN (i := 0) rfl hcl (n := WS.length) hnc hmx.2
          rw [hct] at H2
          simp only [List.set_cons_zero] at H2
          have e3 : HA.own (.slice (some ⟨g0, 0, none⟩) WS.length ca) 71 2 WS.length (WS.map cWas).flatten = ownR (.slice (some ⟨g0, 0, none⟩) WS.length ca) 71 2 (WS.map cWas) := by
            unfold ownR; rw [List.length_map]
          rw [e3] at H2
          exact ⟨l.length - (i + 1), by omega, i + 1, d1, s1, T1, g2, mb1, rb1, WS, _, ca, rfl, by omega, by omega, by (repeat' (first | exact Agree.refl _ _ | exact Agree.havoc | refine Agree.upd rfl ?_ | refine Agree.hav2 rfl ?_)), rfl, rfl, H.le hs, hT1'.mono hg2 (Nat.le_refl _), by omega, fun y hy => (hWS y hy).mono hg2, H2⟩
      · have hP := fun g w hT HO => tr_PutA tb mb1 rb1 T d1 s1 i x.it g w hT (by omega) HO
        have hI := law14_item x
        generalize putI (Sh.its d1 s1) x.it = Z at hP
        repeat' (first | ((first | refine WL.p rfl ?_ | refine WL.u ?_ | refine WL.g rfl rfl ?_ | refine WL.gu rfl ?_); first | (refine opk 1 rfl ?_; first | (refine ost_V H rfl (hI _) rfl ?_; clear H; intro wk H) | (refine ost_H (A := trO tb mb1 rb1 T) H rfl (by (exact ixQ)) (fun HO => hP _ _ hT HO) rfl ?_; clear H; rintro vk wk hfk Lk ⟨T1, d1, s1, rfl, rfl, hT1, -, hk1, -⟩ hle H; simp only [List.cons_append, List.nil_append, List.eraseIdx_cons_zero, List.eraseIdx_cons_succ] at H)) | refine pvQ ?_ | (refine opk 3 rfl ?_; first | (refine ost_eqA rfl (by decide) rfl rfl tyQ tyQ (fun hc => ?_) (fun hc => ?_) <;> try exact prEQ) | (refine ost_neA rfl (by decide) rfl rfl tyQ tyQ (fun hc => ?_) (fun hc => ?_) <;> try exact prEQ) | (refine ost_cmp rfl rfl rfl rfl (fun hc => ?_) (fun hc => ?_) <;> (simp only [cmpP] at hc; try exact prIQ)) | (refine ost_ptEq rfl rfl rfl (fun hc => ?_) (fun hc => ?_) <;> try (simp at hc; done)) | (refine ost_ptNe rfl rfl rfl (fun hc => ?_) (fun hc => ?_) <;> try (simp at hc; done))) | (refine opk 4 rfl ?_; (refine ost_cmp rfl rfl rfl rfl (fun hc => ?_) (fun hc => ?_) <;> (simp only [cmpP] at hc; try exact prIQ))) | (refine opk 8 rfl ?_; (refine ost_storeW H rfl rfl rfl rfl lQ ixQ lQ okQ ?_; clear H; intro wk H; simp only [List.set_cons_zero, List.set_cons_succ, Nat.reduceAdd] at H)) | (refine opk 9 rfl ?_; first | (refine ost_allocA H rfl ?_; clear H; intro bk wk H) | (refine ost_build1 H rfl rfl rfl evQ lsQ rfl ?_; clear H; intro bk wk H))) | refine Wc.seq ?_ | refine then_n ?_ | refine WL.nil ?_ | refine Wc.region ?_ | refine Wc.block ?_ | refine then_r ?_ | refine then_e ?_ | refine inb_e rfl ?_ | refine inb_o rfl ?_ | refine inb_n ?_ | refine inb_r ?_ | refine Wc.skip ?_ | refine Wc.exit ?_ | refine Wc.ret ?_ | refine Wc.cond_true rfl ?_ | refine Wc.cond_false rfl ?_ | refine WL.skp rfl rfl ?_ | refine WL.sku rfl ?_)
        all_goals first | (exfalso; omega) | (exfalso; exact hc rfl) | skip
        have hws1 : ∀ x ∈ ws, WasR hfk T1 x := fun x hx => ((hws x hx).mono hle).kept hk1
        have hln1 := hT1.ln
        have hwl2 : (ws.map cWas).length ≤ 1000 := by rw [List.length_map]; omega
        have hr1 : T1.root = Sh.num d1 s1 := hT1.inv.root
        have hroot1 := fun g w HO => tr_Root tb mb1 rb1 T1 g w HO
        rw [hr1] at hroot1
        have hrn := fun w hs hF hR => tr_Range tb mb1 rb1 T1 d1 s1 leastK greatK (full w) w hs hF hT1.inv.ok hT1.inv.srt hR hT1.inv.root (by omega)
        rw [rangeI_all] at hrn
        repeat' (first | ((first | refine WL.p rfl ?_ | refine WL.u ?_ | refine WL.g rfl rfl ?_ | refine WL.gu rfl ?_); first | (refine opk 1 rfl ?_; first | (refine ost_O (A := trO tb mb1 rb1 T1) H rfl (by (exact ixQ)) (fun HO => hroot1 _ _ HO) rfl ?_; clear H; rintro vk wk hfk Lk ⟨rfl, rfl, rfl⟩ H; simp only [List.cons_append, List.nil_append, List.eraseIdx_cons_zero, List.eraseIdx_cons_succ] at H) | (refine ost_V H rfl (law14_least _) rfl ?_; clear H; intro wk H) | (refine ost_V H rfl (law14_greatest _) rfl ?_; clear H; intro wk H) | (refine ost_C H rfl (hrn _ (sat_full _) (H.trF (i := 0) rfl) (hT1.inv.rep.mono H.sat.le)) rfl ?_; clear H; rintro vk wk hfk Lk ⟨a9, c9, rfl, rfl⟩ H; simp only [List.cons_append, List.nil_append] at H; obtain ⟨a8, c8, h9, e9, hle9, hN9, H9⟩ := H.freezeR (rows_len5 _); injection e9 with e91 e92 e93; subst e91; subst e93; clear H; have H := H9; clear H9) | (refine ost_appR (rows := ws.map cWas) (row := cWas ⟨d1, s1, a9, c9⟩) H rfl rfl rfl (by (exact ixQ)) (by (exact ixQ)) (by rfl) (by first | simp; done | exact Nat.succ_pos _) rfl (allOne_of rfl) rfl (by omega) ?_; clear H; intro aa ca wk H; simp only [List.set_cons_zero, List.set_cons_succ] at H)) | (refine opk 9 rfl ?_; first | (refine ost_buildS (l := cWas ⟨d1, s1, a9, c9⟩) rfl (evP_cons (rfl : _ = Value.int _ _) (evP_cons (rfl : _ = Value.slice _ _ _) evP_nil)) (by rfl) (by rfl) ?_) | (refine ost_buildR (rows := [cWas ⟨d1, s1, a9, c9⟩]) H rfl (by decide) rfl (by rfl) (evP1 vxQ) (.cons rfl .nil) rfl (fun r hr => by rw [List.mem_singleton.1 hr]; rfl) ?_; clear H; intro bk wk H)) | refine pvQ ?_ | (refine opk 3 rfl ?_; first | (refine ost_eqA rfl (by decide) rfl rfl tyQ tyQ (fun hc => ?_) (fun hc => ?_) <;> try exact prEQ) | (refine ost_neA rfl (by decide) rfl rfl tyQ tyQ (fun hc => ?_) (fun hc => ?_) <;> try exact prEQ) | (refine ost_cmp rfl rfl rfl rfl (fun hc => ?_) (fun hc => ?_) <;> (simp only [cmpP] at hc; try exact prIQ)) | (refine ost_ptEq rfl rfl rfl (fun hc => ?_) (fun hc => ?_) <;> try (simp at hc; done)) | (refine ost_ptNe rfl rfl rfl (fun hc => ?_) (fun hc => ?_) <;> try (simp at hc; done))) | (refine opk 4 rfl ?_; (refine ost_cmp rfl rfl rfl rfl (fun hc => ?_) (fun hc => ?_) <;> (simp only [cmpP] at hc; try exact prIQ))) | (refine opk 8 rfl ?_; (refine ost_storeW H rfl rfl rfl rfl lQ ixQ lQ okQ ?_; clear H; intro wk H; simp only [List.set_cons_zero, List.set_cons_succ, Nat.reduceAdd] at H)) | (refine opk 9 rfl ?_; first | (refine ost_allocA H rfl ?_; clear H; intro bk wk H) | (refine ost_build1 H rfl rfl rfl evQ lsQ rfl ?_; clear H; intro bk wk H))) | refine Wc.seq ?_ | refine then_n ?_ | refine WL.nil ?_ | refine Wc.region ?_ | refine Wc.block ?_ | refine then_r ?_ | refine then_e ?_ | refine inb_e rfl ?_ | refine inb_o rfl ?_ | refine inb_n ?_ | refine inb_r ?_ | refine Wc.skip ?_ | refine Wc.exit ?_ | refine Wc.ret ?_ | refine Wc.cond_true rfl ?_ | refine Wc.cond_false rfl ?_ | refine WL.skp rfl rfl ?_ | refine WL.sku rfl ?_)
        all_goals first | (exfalso; omega) | (exfalso; exact hc rfl) | skip
        have hT1' := hT1.mono hle9 (Nat.le_refl _)
        have hWS : ∀ y ∈ ws ++ [(⟨d1, s1, a9, c9⟩ : WasT)], WasR h9 T1 y := by
          intro y hy
          rcases List.mem_append.1 hy with hy | hy
          · exact (hws1 y hy).mono hle9
          · obtain rfl := List.mem_singleton.1 hy
            exact was_new hT1' (by omega) hN9
        have hWl : (ws ++ [(⟨d1, s1, a9, c9⟩ : WasT)]).length = ws.length + 1 := by simp
        rw [show ws.map cWas ++ [cWas ⟨d1, s1, a9, c9⟩] = (ws ++ [(⟨d1, s1, a9, c9⟩ : WasT)]).map cWas from by rw [List.map_append]; rfl] at H ⊢
        simp only [List.length_map] at H ⊢
        replace hwl : ws.length ≤ i + 1 := hwl
        generalize ws ++ [(⟨d1, s1, a9, c9⟩ : WasT)] = WS at *
        have H8 := H.picks (L' := [ownR (.slice aa WS.length ca) 71 2 (WS.map cWas), trO tb mb1 rb1 T1]) [2, 1] rfl (by decide)
        clear H
        unfold ownR at H8
        rw [List.length_map] at H8
        have hmx := own_mx H8 (i := 0) rfl
        obtain ⟨g0, cur, e1, hnc, hcl, hct, H9⟩ := H8.ownBlk (i := 0) rfl (by omega)
        subst e1
        simp only [List.set_cons_zero] at H9
        refine Wc.loopE (fun s0 m s w' => ∃ k : Nat, m = WS.length - k ∧ k ≤ WS.length ∧ Agree [2, 7, 8, 9, 10, 69, 70, 71, 72, 73, 74, 75, 76, 77, 78, 79, 80, 81, 82, 83, 84, 85, 86, 87, 88, 89, 90, 91, 92, 93, 94, 95, 96, 97, 98, 99, 100, 101, 102, 103, 104, 105, 106] s s0 ∧ s 69 = .int .i64 k ∧ ∃ g2, FLe h9 g2 ∧ St w [] (full w) g2 [.blk g0 (.cells cur.toArray 71 (0, 0)), trO tb mb1 rb1 T1] w') WS.length ⟨0, rfl, by omega, Agree.refl _ _, rfl, h9, FLe.refl _, H9⟩ ?_
        clear H8 H9
        rintro m s w' ⟨k, rfl, hk, hA, e1, g2, hg2, H⟩
        obtain ⟨jk, rfl⟩ := hA.env1 e1
        clear hA e1
        by_cases hlk : k < WS.length
        · have gr := was_row hct hlk
          obtain ⟨y, hy⟩ : ∃ y, y = WS[k] := ⟨_, rfl⟩
          have hyR := (hWS y (by rw [hy]; exact List.getElem_mem hlk)).mono hg2
          rw [← hy] at gr
          clear hy
          have ly : (cWas y).length = 2 := rfl
          have q0 : (cWas y)[0 + 0]? = some (.int .u32 ((Sh.num y.d y.s).toNat : Nat)) := rfl
          have q1 : (cWas y)[0 + 1]? = some (.slice y.a (Sh.its y.d y.s).length y.c) := rfl
          have hly := hyR.ln
          have hat := fun w hs hF hR => tr_At tb mb1 rb1 T1 y.d y.s (full w) w hs hF hyR.ok hR (by omega) hyR.rt
          have hN8 := hyR.sl
          have hyp := hyR.rep
          have ho : ∀ u ∈ cWas y, u.oneCell' = true := by
            intro u hu
            rcases List.mem_cons.1 hu with rfl | hu
            · rfl
            · obtain rfl := List.mem_singleton.1 hu; rfl
          generalize cWas y = row at gr ly q0 q1 ho
          clear hWS hws hyR
          repeat' (first | ((first | refine WL.p rfl ?_ | refine WL.u ?_ | refine WL.g rfl rfl ?_ | refine WL.gu rfl ?_); first | (refine opk 1 rfl ?_; (refine ost_C H rfl (hat _ (sat_full _) (H.trF (i := 2) rfl) (hyp.mono H.sat.le)) rfl ?_; clear H; rintro vk wk hfk Lk ⟨a7, c7, rfl, rfl⟩ H; simp only [List.cons_append, List.nil_append] at H; obtain ⟨a6, c6, h7, e7, hle7, hN7, H9⟩ := H.freezeR (rows_len5 _); injection e7 with e91 e92 e93; subst e91; subst e93; clear H; have H := H9; clear H9)) | refine pvQ ?_ | (refine opk 3 rfl ?_; first | (refine ost_eqA rfl (by decide) rfl rfl tyQ tyQ (fun hc => ?_) (fun hc => ?_) <;> try exact prEQ) | (refine ost_neA rfl (by decide) rfl rfl tyQ tyQ (fun hc => ?_) (fun hc => ?_) <;> try exact prEQ) | (refine ost_cmp rfl rfl rfl rfl (fun hc => ?_) (fun hc => ?_) <;> (simp only [cmpP] at hc; try exact prIQ)) | (refine ost_ptEq rfl rfl rfl (fun hc => ?_) (fun hc => ?_) <;> try (simp at hc; done)) | (refine ost_ptNe rfl rfl rfl (fun hc => ?_) (fun hc => ?_) <;> try (simp at hc; done))) | (refine opk 4 rfl ?_; (refine ost_cmp rfl rfl rfl rfl (fun hc => ?_) (fun hc => ?_) <;> (simp only [cmpP] at hc; try exact prIQ))) | (refine opk 8 rfl ?_; (refine ost_storeW H rfl rfl rfl rfl lQ ixQ lQ okQ ?_; clear H; intro wk H; simp only [List.set_cons_zero, List.set_cons_succ, Nat.reduceAdd] at H)) | (refine opk 9 rfl ?_; first | (refine ost_allocA H rfl ?_; clear H; intro bk wk H) | (refine ost_build1 H rfl rfl rfl evQ lsQ rfl ?_; clear H; intro bk wk H))) | refine Wc.seq ?_ | refine then_n ?_ | refine WL.nil ?_ | refine Wc.region ?_ | refine Wc.block ?_ | refine then_r ?_ | refine then_e ?_ | refine inb_e rfl ?_ | refine inb_o rfl ?_ | refine inb_n ?_ | refine inb_r ?_ | refine Wc.skip ?_ | refine Wc.exit ?_ | refine Wc.ret ?_ | refine Wc.cond_true rfl ?_ | refine Wc.cond_false rfl ?_ | refine WL.skp rfl rfl ?_ | refine WL.sku rfl ?_)
          all_goals first | (exfalso; omega) | (exfalso; exact hc rfl) | skip
          obtain ⟨b7, eb7⟩ := H.nameB idx0
          subst eb7
          replace hN8 := hN8.mono hle7
          have qq1 := hN7.lenM
          have qq2 := hN8.lenM
          refine Wc.loopE (fun s0 m s w' => ∃ kk : Nat, m = (Sh.its y.d y.s).length - kk ∧ kk ≤ (Sh.its y.d y.s).length ∧ Agree [2, 10, 92, 93, 94, 95, 96, 97, 98, 99, 100, 101, 102, 103, 104, 105] s s0 ∧ s 92 = .int .i64 kk ∧ St w [] (full w) h7 [.blk b7 (.cells row.toArray 71 (0, 0)), .blk g0 (.cells cur.toArray 71 (0, 0)), trO tb mb1 rb1 T1] w') (Sh.its y.d y.s).length ⟨0, rfl, by omega, Agree.refl _ _, rfl, H⟩ ?_
          clear H
          rintro m s w' ⟨kk, rfl, hkk, hA, e1, H⟩
          obtain ⟨jkk, rfl⟩ := hA.env1 e1
          clear hA e1
          by_cases hlkk : kk < (Sh.its y.d y.s).length
          · obtain ⟨bx, ox, Lx, Tx, fx, e1, ebx, egx⟩ := hN7.getM (by decide) (Nat.lt_of_le_of_lt (Nat.zero_le _) hlkk)
            subst e1
            have g1 := egx (kk : Int).toNat kk hlkk (by omega)
            obtain ⟨bz, oz, Lz, Tz, fz, e1, ebz, egz⟩ := hN8.getM (by decide) (Nat.lt_of_le_of_lt (Nat.zero_le _) hlkk)
            rw [e1] at q1
            have g2 := egz (kk : Int).toNat kk hlkk (by omega)
            clear egx egz
            generalize (Sh.its y.d y.s)[kk] = z at g1 g2
            have lz := cItem_len z
            repeat' (first | ((first | refine WL.p rfl ?_ | refine WL.u ?_ | refine WL.g rfl rfl ?_ | refine WL.gu rfl ?_); first | refine pvQ ?_ | (refine opk 3 rfl ?_; first | (refine ost_eqA rfl (by decide) rfl rfl tyQ tyQ (fun hc => ?_) (fun hc => ?_) <;> try exact prEQ) | (refine ost_neA rfl (by decide) rfl rfl tyQ tyQ (fun hc => ?_) (fun hc => ?_) <;> try exact prEQ) | (refine ost_cmp rfl rfl rfl rfl (fun hc => ?_) (fun hc => ?_) <;> (simp only [cmpP] at hc; try exact prIQ)) | (refine ost_ptEq rfl rfl rfl (fun hc => ?_) (fun hc => ?_) <;> try (simp at hc; done)) | (refine ost_ptNe rfl rfl rfl (fun hc => ?_) (fun hc => ?_) <;> try (simp at hc; done))) | (refine opk 4 rfl ?_; (refine ost_cmp rfl rfl rfl rfl (fun hc => ?_) (fun hc => ?_) <;> (simp only [cmpP] at hc; try exact prIQ))) | (refine opk 8 rfl ?_; (refine ost_storeW H rfl rfl rfl rfl lQ ixQ lQ okQ ?_; clear H; intro wk H; simp only [List.set_cons_zero, List.set_cons_succ, Nat.reduceAdd] at H)) | (refine opk 9 rfl ?_; first | (refine ost_allocA H rfl ?_; clear H; intro bk wk H) | (refine ost_build1 H rfl rfl rfl evQ lsQ rfl ?_; clear H; intro bk wk H))) | refine Wc.seq ?_ | refine then_n ?_ | refine WL.nil ?_ | refine Wc.region ?_ | refine Wc.block ?_ | refine then_r ?_ | refine then_e ?_ | refine inb_e rfl ?_ | refine inb_o rfl ?_ | refine inb_n ?_ | refine inb_r ?_ | refine Wc.skip ?_ | refine Wc.exit ?_ | refine Wc.ret ?_ | refine Wc.cond_true rfl ?_ | refine Wc.cond_false rfl ?_ | (refine Wc.drawn (id := 28) 9 (by kernel_rfl) ?_) | refine WL.skp rfl rfl ?_ | refine WL.sku rfl ?_ | (refine rgs_nil ?_; intro vs wk hE; replace H := H.ext hE; clear hE) | refine RGs.skp (fun _ => rfl) rfl ?_ | (refine RGs.bq (fun _ => rfl) rfl (by intro vs w hE hP; have H := H.ext hE; first | exact dbQ | fail) (fun hc => ?_) (fun hc => ?_) <;> ((try simp only [cmpP, decide_eq_true_eq, decide_eq_false_iff_not, dcd_iff, dcd_no] at hc); try exact prDQ)) | refine RGs.pq (fun _ => rfl) rfl (by intro vs w hE hP; have H := H.ext hE; first | exact dvQ | fail) ?_)
            all_goals first | (exfalso; omega) | (exfalso; exact hc rfl) | skip
            exact ⟨(Sh.its y.d y.s).length - (kk + 1), by omega, kk + 1, rfl, by omega, by (repeat' (first | exact Agree.refl _ _ | exact Agree.havoc | refine Agree.upd rfl ?_ | refine Agree.hav2 rfl ?_)), rfl, H⟩
          · repeat' (first | ((first | refine WL.p rfl ?_ | refine WL.u ?_ | refine WL.g rfl rfl ?_ | refine WL.gu rfl ?_); first | refine pvQ ?_ | (refine opk 3 rfl ?_; first | (refine ost_eqA rfl (by decide) rfl rfl tyQ tyQ (fun hc => ?_) (fun hc => ?_) <;> try exact prEQ) | (refine ost_neA rfl (by decide) rfl rfl tyQ tyQ (fun hc => ?_) (fun hc => ?_) <;> try exact prEQ) | (refine ost_cmp rfl rfl rfl rfl (fun hc => ?_) (fun hc => ?_) <;> (simp only [cmpP] at hc; try exact prIQ)) | (refine ost_ptEq rfl rfl rfl (fun hc => ?_) (fun hc => ?_) <;> try (simp at hc; done)) | (refine ost_ptNe rfl rfl rfl (fun hc => ?_) (fun hc => ?_) <;> try (simp at hc; done))) | (refine opk 4 rfl ?_; (refine ost_cmp rfl rfl rfl rfl (fun hc => ?_) (fun hc => ?_) <;> (simp only [cmpP] at hc; try exact prIQ))) | (refine opk 8 rfl ?_; (refine ost_storeW H rfl rfl rfl rfl lQ ixQ lQ okQ ?_; clear H; intro wk H; simp only [List.set_cons_zero, List.set_cons_succ, Nat.reduceAdd] at H)) | (refine opk 9 rfl ?_; first | (refine ost_allocA H rfl ?_; clear H; intro bk wk H) | (refine ost_build1 H rfl rfl rfl evQ lsQ rfl ?_; clear H; intro bk wk H))) | refine Wc.seq ?_ | refine then_n ?_ | refine WL.nil ?_ | refine Wc.region ?_ | refine Wc.block ?_ | refine then_r ?_ | refine then_e ?_ | refine inb_e rfl ?_ | refine inb_o rfl ?_ | refine inb_n ?_ | refine inb_r ?_ | refine Wc.skip ?_ | refine Wc.exit ?_ | refine Wc.ret ?_ | refine Wc.cond_true rfl ?_ | refine Wc.cond_false rfl ?_ | (refine Wc.drawn (id := 28) 9 (by kernel_rfl) ?_) | refine WL.skp rfl rfl ?_ | refine WL.sku rfl ?_ | (refine rgs_nil ?_; intro vs wk hE; replace H := H.ext hE; clear hE) | refine RGs.skp (fun _ => rfl) rfl ?_ | (refine RGs.bq (fun _ => rfl) rfl (by intro vs w hE hP; have H := H.ext hE; first | exact dbQ | fail) (fun hc => ?_) (fun hc => ?_) <;> ((try simp only [cmpP, decide_eq_true_eq, decide_eq_false_iff_not, dcd_iff, dcd_no] at hc); try exact prDQ)) | refine RGs.pq (fun _ => rfl) rfl (by intro vs w hE hP; have H := H.ext hE; first | exact dvQ | fail) ?_)
            all_goals first | (exfalso; omega) | (exfalso; exact hc rfl) | skip
            exact ⟨WS.length - (k + 1), by omega, k + 1, rfl, by omega, by (repeat' (first | exact Agree.refl _ _ | exact Agree.havoc | refine Agree.upd rfl ?_ | refine Agree.hav2 rfl ?_)), rfl, h7, hg2.trans hle7, H.picks [1, 2] rfl (by decide)⟩
        · obtain rfl : k = WS.length := by omega
          repeat' (first | ((first | refine WL.p rfl ?_ | refine WL.u ?_ | refine WL.g rfl rfl ?_ | refine WL.gu rfl ?_); first | refine pvQ ?_ | (refine opk 3 rfl ?_; first | (refine ost_eqA rfl (by decide) rfl rfl tyQ tyQ (fun hc => ?_) (fun hc => ?_) <;> try exact prEQ) | (refine ost_neA rfl (by decide) rfl rfl tyQ tyQ (fun hc => ?_) (fun hc => ?_) <;> try exact prEQ) | (refine ost_cmp rfl rfl rfl rfl (fun hc => ?_) (fun hc => ?_) <;> (simp only [cmpP] at hc; try exact prIQ)) | (refine ost_ptEq rfl rfl rfl (fun hc => ?_) (fun hc => ?_) <;> try (simp at hc; done)) | (refine ost_ptNe rfl rfl rfl (fun hc => ?_) (fun hc => ?_) <;> try (simp at hc; done))) | (refine opk 4 rfl ?_; (refine ost_cmp rfl rfl rfl rfl (fun hc => ?_) (fun hc => ?_) <;> (simp only [cmpP] at hc; try exact prIQ))) | (refine opk 8 rfl ?_; (refine ost_storeW H rfl rfl rfl rfl lQ ixQ lQ okQ ?_; clear H; intro wk H; simp only [List.set_cons_zero, List.set_cons_succ, Nat.reduceAdd] at H)) | (refine opk 9 rfl ?_; first | (refine ost_allocA H rfl ?_; clear H; intro bk wk H) | (refine ost_build1 H rfl rfl rfl evQ lsQ rfl ?_; clear H; intro bk wk H))) | refine Wc.seq ?_ | refine then_n ?_ | refine WL.nil ?_ | refine Wc.region ?_ | refine Wc.block ?_ | refine then_r ?_ | refine then_e ?_ | refine inb_e rfl ?_ | refine inb_o rfl ?_ | refine inb_n ?_ | refine inb_r ?_ | refine Wc.skip ?_ | refine Wc.exit ?_ | refine Wc.ret ?_ | refine Wc.cond_true rfl ?_ | refine Wc.cond_false rfl ?_ | refine WL.skp rfl rfl ?_ | refine WL.sku rfl ?_)
          all_goals first | (exfalso; omega) | (exfalso; exact hc rfl) | skip
          have H2 := H.blkOwnN (i := 0) rfl hcl (n := WS.length) hnc hmx.2
          rw [hct] at H2
          simp only [List.set_cons_zero] at H2
          have e3 : HA.own (.slice (some ⟨g0, 0, none⟩) WS.length ca) 71 2 WS.length (WS.map cWas).flatten = ownR (.slice (some ⟨g0, 0, none⟩) WS.length ca) 71 2 (WS.map cWas) := by
            unfold ownR; rw [List.length_map]
          rw [e3] at H2
          exact ⟨l.length - (i + 1), by omega, i + 1, d1, s1, T1, g2, mb1, rb1, WS, _, ca, rfl, by omega, by omega, by (repeat' (first | exact Agree.refl _ _ | exact Agree.havoc | refine Agree.upd rfl ?_ | refine Agree.hav2 rfl ?_)), rfl, rfl, H.le hs, hT1'.mono hg2 (Nat.le_refl _), by omega, fun y hy => (hWS y hy).mono hg2, H2⟩
  · repeat' (first | ((first | refine WL.p rfl ?_ | refine WL.u ?_ | refine WL.g rfl rfl ?_ | refine WL.gu rfl ?_); first | refine pvQ ?_ | (refine opk 3 rfl ?_; first | (refine ost_eqA rfl (by decide) rfl rfl tyQ tyQ (fun hc => ?_) (fun hc => ?_) <;> try exact prEQ) | (refine ost_neA rfl (by decide) rfl rfl tyQ tyQ (fun hc => ?_) (fun hc => ?_) <;> try exact prEQ) | (refine ost_cmp rfl rfl rfl rfl (fun hc => ?_) (fun hc => ?_) <;> (simp only [cmpP] at hc; try exact prIQ)) | (refine ost_ptEq rfl rfl rfl (fun hc => ?_) (fun hc => ?_) <;> try (simp at hc; done)) | (refine ost_ptNe rfl rfl rfl (fun hc => ?_) (fun hc => ?_) <;> try (simp at hc; done))) | (refine opk 4 rfl ?_; (refine ost_cmp rfl rfl rfl rfl (fun hc => ?_) (fun hc => ?_) <;> (simp only [cmpP] at hc; try exact prIQ))) | (refine opk 8 rfl ?_; (refine ost_storeW H rfl rfl rfl rfl lQ ixQ lQ okQ ?_; clear H; intro wk H; simp only [List.set_cons_zero, List.set_cons_succ, Nat.reduceAdd] at H)) | (refine opk 9 rfl ?_; first | (refine ost_allocA H rfl ?_; clear H; intro bk wk H) | (refine ost_build1 H rfl rfl rfl evQ lsQ rfl ?_; clear H; intro bk wk H))) | refine Wc.seq ?_ | refine then_n ?_ | refine WL.nil ?_ | refine Wc.region ?_ | refine Wc.block ?_ | refine then_r ?_ | refine then_e ?_ | refine inb_e rfl ?_ | refine inb_o rfl ?_ | refine inb_n ?_ | refine inb_r ?_ | refine Wc.skip ?_ | refine Wc.exit ?_ | refine Wc.ret ?_ | refine Wc.cond_true rfl ?_ | refine Wc.cond_false rfl ?_ | refine WL.skp rfl rfl ?_ | refine WL.sku rfl ?_)
    all_goals first | (exfalso; omega) | ((first | refine fn_ret1 (v := .bool _) rfl rfl ⟨?_, H.fr⟩ | refine fn_ret1 (v := .int _ _) rfl rfl ⟨?_, H.fr⟩ | refine fn_ret1 (v := .string _) rfl rfl ⟨?_, H.fr⟩); rfl)
end Go.Tg
namespace Go.Proofs.Ytbfilhaigbebpaa
open Go.ChangeShapes Go.WideShapes Go.ChangeAt Go.RowKit Go.Tg
theorem treeOld_lifted (os : Os) (started : os.Started) (H : Type) (enc : TypeId × Value → H) :
    ReturnsInHanded {} Try.checked os 5 .any (Rows.treeOldSpec.pre6 enc Try.prog Try.f5 Rows.treeOldRow.domain false) (Rows.treeOldSpec.post enc Try.prog Try.f5 false true false false) := by
  refine returnsInHanded_of_change (C := Try.checked) own_ started (by kernel_rfl) Try.func5
    (ChangeSpec.witness6 (enc := enc) (C := Try.checked) false ⟨#[], #[.slice none 0 0], []⟩ 8 (by kernel_rfl) (by kernel_rfl) (by kernel_rfl) (by kernel_rfl)) ?_
  intro W base args ds gs before hval0 hW hcnd _
  have hval : ∀ (j : Nat) t v, Try.f5.params[j]? = some t → args[j]? = some v → Value.okWide Try.prog W .any base t v := hval0
  have hW' := hW
  obtain ⟨p, q, hA0, -, -, -, -⟩ := hW'
  have hA : DataW.TrodAll enc Try.prog W 0 (fun _ => true) true Try.f5.params.toList args.toList ds p := hA0
  rw [Try.params5] at hA hval
  obtain ⟨v0, d0, rfl, rfl, h0⟩ := trodAll_one hA
  obtain ⟨la, lc, l, e0, lr⟩ := acs14_of (Td.of h0)
  obtain rfl := val_of1 e0 (okWide_slice Try.underlying22 (hval 0 _ v0 rfl rfl))
  refine (law_TreeOld (w := W) la lc l lr).mono fun e W' ⟨v, he, hv, hE⟩ => ⟨v, he, ?_⟩
  subst hv
  exact law_post rfl hW hE rfl (by kernel_rfl) Try.underlying4 laid_ (by kernel_rfl)
theorem treeOld_holds : Rows.TreeOldSaid :=
  OpenClaim.holds_of_wide 5 Try.f5 rfl rfl rfl rfl rfl rfl rfl ⟨rfl, rfl, rfl, rfl, rfl⟩ rfl rfl rfl rfl rfl (by kernel_rfl) Try.func5 (by kernel_rfl)
    (of_decide_eq_true (by kernel_rfl)) (by unfold Func.isWrapper; first | (rw [if_pos (by decide +kernel)]; kernel_rfl) | (rw [if_neg (by decide +kernel)]; exact ⟨rfl, rfl⟩))
    (fun os started H enc _ => treeOld_lifted os started H enc)
end Go.Proofs.Ytbfilhaigbebpaa

