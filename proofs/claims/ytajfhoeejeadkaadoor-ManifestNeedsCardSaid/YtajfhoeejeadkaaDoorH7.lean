/- Proved: the given statement ManifestNeedsCardSaid: the Go law ManifestNeeds returns true for every input that it is asked of. No conditions. -/
import Derived.Test.YtajfhoeejeadkaaDoorInst
import Derived.Test.YtajfhoeejeadkaaDoorAuto
import Derived.Test.YtajfhoeejeadkaaDoorH6
set_option linter.unusedVariables false
set_option linter.unusedSimpArgs false
set_option maxRecDepth 100000
set_option maxHeartbeats 8000000
namespace Go.Tg
open Go Go.Proofs
def tempW : List UInt8 := [109, 97, 110, 105, 102, 101, 115, 116, 46, 110, 101, 119]
theorem man_need (m : ManT) : manW ∈ needM m := need_mem.2 (.inl rfl)
theorem temp_need (m : ManT) : tempW ∉ needM m := fun h => by
  rcases need_mem.1 h with h | ⟨s, -, h⟩ | ⟨-, h⟩
  · exact absurd h (by decide)
  · unfold tempW segW at h; simp at h
  · unfold tempW baseW at h; simp at h
theorem orph_mem {m : ManT} {T : List (List UInt8)} {x : List UInt8} (h : x ∈ orphM m T) : x ∉ needM m := by
  have := (List.mem_filter.1 h).2
  simpa using this
theorem orph_twice (m : ManT) (T : List (List UInt8)) : orphM m (orphM m T) = orphM m T := by
  unfold orphM
  rw [List.filter_filter]; simp
theorem orph_temp (m : ManT) (T : List (List UInt8)) : ∃ r, orphM m (manW :: tempW :: T) = tempW :: r := by
  refine ⟨orphM m T, ?_⟩
  unfold orphM
  rw [List.filter_cons, List.filter_cons]
  simp [man_need, temp_need]
def alK (l : List (List UInt8)) (segs : List UInt32) (k : Nat) : List (List UInt8) := ([manW, tempW] ++ l) ++ (segs.take k).map fun s => segW s.toNat
theorem alK_succ (l : List (List UInt8)) {segs : List UInt32} {k : Nat} (h : k < segs.length) : alK l segs (k + 1) = alK l segs k ++ [segW segs[k].toNat] := by
  unfold alK
  rw [List.take_add_one, List.getElem?_eq_getElem h, List.map_append, ← List.append_assoc]; rfl
theorem alK_len (l : List (List UInt8)) (segs : List UInt32) (k : Nat) : (alK l segs k).length ≤ 2 + l.length + segs.length := by
  unfold alK
  simp only [List.length_append, List.length_map, List.length_take, List.length_cons, List.length_nil]; omega
theorem law_ManifestNeeds (m : ManT) (A : MAd) (an : Option Addr) (cn : Nat) (l : List (List UInt8)) (w : World) (hT0 : Half (full w)) (hW0 : Pow (full w)) (hP0 : MnR (full w) m A) (hN0 : Sl (full w) 1 an cn (l.map cStr)) :
    SpecV Tryd.prog 16 #[.agg (mnV m A).toArray, .slice an l.length cn] w (.bool true) := by
  have H := St.start (sat_full w)
  have al := alive16 (full w)
  generalize hh : full w = h0 at H hT0 hW0 hP0 hN0 al
  have hTh := hT0
  clear hT0
  have lm := mnV_len m A
  have q17 : (mnV m A)[0 + 17]? = some (.int .u32 m.base.toNat) := mnL_17 _ _ _ _ _ _ _
  have q18 : (mnV m A)[0 + 18]? = some (.slice A.a m.segs.length A.c) := mnL_18 _ _ _ _ _ _ _
  have tm := law16_theirs m A
  have hRR := r16_Right m A
  have hPs : Sl h0 1 A.a A.c (m.segs.map cKid) := hP0
  have hln := hN0.lenM
  have hls := hPs.lenM
  have hlm : (l.map cStr).length = l.length := List.length_map ..
  have hone := cStr_one l
  rw [show l.length = (l.map cStr).length from hlm.symm]
  unfold SpecV
  refine calls_of Tryd.func16 rfl Tryd.ntmps16 (by simp) ?_
  by_cases hl : m.segs.length ≤ 300 ∧ l.length ≤ 300
  · obtain ⟨hl1, hl2⟩ := hl
    cases hq : rightM m with
    | false =>
      rw [hq] at hRR
      repeat' (first | ((first | refine WL.p rfl ?_ | refine WL.u ?_ | refine WL.g rfl rfl ?_ | refine WL.gu rfl ?_); first | (refine opk 1 rfl ?_; first | (refine ost_V H rfl (al _ H.sat hTh hW0) rfl ?_; clear H; intro wk H) | (refine ost_V H rfl (hRR _ _ (sat_full _) (hP0.full H)) rfl ?_; clear H; intro wk H)) | refine pvQ ?_ | (refine opk 3 rfl ?_; first | (refine ost_cmp rfl rfl rfl rfl (fun hc => ?_) (fun hc => ?_) <;> (simp only [cmpP] at hc; try exact prIQ)) | (refine ost_streqB rfl rfl rfl (fun hc => ?_) (fun hc => ?_) <;> try exact prEQ) | (refine ost_strneB rfl rfl rfl (fun hc => ?_) (fun hc => ?_) <;> try exact prEQ) | (refine ost_streq rfl rfl rfl (fun hc => ?_) (fun hc => ?_) <;> try exact absurd rfl hc) | (refine ost_strne rfl rfl rfl (fun hc => ?_) (fun hc => ?_))) | (refine opk 4 rfl ?_; (refine ost_cmp rfl rfl rfl rfl (fun hc => ?_) (fun hc => ?_) <;> (simp only [cmpP] at hc; try exact prIQ))) | (refine opk 9 rfl ?_; first | (refine ost_boxq H rfl ?_; clear H; intro bk wk H) | (refine ost_build1 H rfl rfl rfl evQ lsQ rfl ?_; clear H; intro bk wk H))) | refine Wc.seq ?_ | refine then_n ?_ | refine WL.nil ?_ | refine Wc.region ?_ | refine Wc.block ?_ | refine then_r ?_ | refine then_e ?_ | refine inb_e rfl ?_ | refine inb_o rfl ?_ | refine inb_n ?_ | refine inb_r ?_ | refine Wc.skip ?_ | refine Wc.exit ?_ | refine Wc.ret ?_ | refine Wc.cond_true rfl ?_ | refine Wc.cond_false rfl ?_ | refine WL.skp rfl rfl ?_ | refine WL.sku rfl ?_)
      all_goals first | ((first | refine fn_ret1 (v := .bool _) rfl rfl ⟨?_, H.fr⟩ | refine fn_ret1 (v := .int _ _) rfl rfl ⟨?_, H.fr⟩ | refine fn_ret1 (v := .string _) rfl rfl ⟨?_, H.fr⟩); rfl) | (exfalso; omega)
    | true =>
      rw [hq] at hRR
      repeat' (first | ((first | refine WL.p rfl ?_ | refine WL.u ?_ | refine WL.g rfl rfl ?_ | refine WL.gu rfl ?_); first | (refine opk 1 rfl ?_; first | (refine ost_V H rfl (al _ H.sat hTh hW0) rfl ?_; clear H; intro wk H) | (refine ost_V H rfl (hRR _ _ (sat_full _) (hP0.full H)) rfl ?_; clear H; intro wk H) | (refine ost_appRs (rows := [manW, tempW].map cStr) (more := l.map cStr) H rfl rfl rfl (by (exact ixQ)) (hN0.full H) (by rfl) (by decide) hone rfl (by rw [hlm]; simp; omega) ?_; clear H; intro aa ca wk H; simp only [List.set_cons_zero, List.set_cons_succ] at H)) | (refine opk 9 rfl ?_; (refine ost_buildR (rows := [manW, tempW].map cStr) H rfl (by decide) rfl (by rfl) (evP_cons (rfl : _ = Value.string _) (evP_cons (rfl : _ = Value.string _) evP_nil)) (.cons rfl (.cons rfl .nil)) rfl (rows_cStr [manW, tempW]) ?_; clear H; intro bk wk H)) | refine pvQ ?_ | (refine opk 3 rfl ?_; first | (refine ost_cmp rfl rfl rfl rfl (fun hc => ?_) (fun hc => ?_) <;> (simp only [cmpP] at hc; try exact prIQ)) | (refine ost_streqB rfl rfl rfl (fun hc => ?_) (fun hc => ?_) <;> try exact prEQ) | (refine ost_strneB rfl rfl rfl (fun hc => ?_) (fun hc => ?_) <;> try exact prEQ) | (refine ost_streq rfl rfl rfl (fun hc => ?_) (fun hc => ?_) <;> try exact absurd rfl hc) | (refine ost_strne rfl rfl rfl (fun hc => ?_) (fun hc => ?_))) | (refine opk 4 rfl ?_; (refine ost_cmp rfl rfl rfl rfl (fun hc => ?_) (fun hc => ?_) <;> (simp only [cmpP] at hc; try exact prIQ))) | (refine opk 9 rfl ?_; first | (refine ost_boxq H rfl ?_; clear H; intro bk wk H) | (refine ost_build1 H rfl rfl rfl evQ lsQ rfl ?_; clear H; intro bk wk H))) | refine Wc.seq ?_ | refine then_n ?_ | refine WL.nil ?_ | refine Wc.region ?_ | refine Wc.block ?_ | refine then_r ?_ | refine then_e ?_ | refine inb_e rfl ?_ | refine inb_o rfl ?_ | refine inb_n ?_ | refine inb_r ?_ | refine Wc.skip ?_ | refine Wc.exit ?_ | refine Wc.ret ?_ | refine Wc.cond_true rfl ?_ | refine Wc.cond_false rfl ?_ | refine WL.skp rfl rfl ?_ | refine WL.sku rfl ?_)
      all_goals first | (exfalso; omega) | skip
      obtain ⟨bm, ebm⟩ := H.nameB idx1
      subst ebm
      have e0 : [manW, tempW].map cStr ++ l.map cStr = (alK l m.segs 0).map cStr := by unfold alK; simp
      rw [e0] at H ⊢
      refine Wc.loopE (fun s0 n s w' => ∃ (k : Nat) (a1 : Option Addr) (c1 : Nat), n = m.segs.length - k ∧ k ≤ m.segs.length ∧ Agree [5, 7, 36, 37, 38, 39, 40, 41, 42, 43, 44, 45] s s0 ∧ s 36 = .int .i64 k ∧ s 5 = .slice a1 ((alK l m.segs k).map cStr).length c1 ∧
        St w [] h0 h0 [ownR (.slice a1 ((alK l m.segs k).map cStr).length c1) 9 1 ((alK l m.segs k).map cStr), .blk bm (.cells (mnV m A).toArray 93 (0, 0))] w') m.segs.length ⟨0, aa, ca, rfl, by omega, Agree.refl _ _, rfl, rfl, H⟩ ?_
      clear H e0
      rintro n s w' ⟨k, aT, cT, rfl, hk, hA9, e1, e2, H⟩
      obtain ⟨j, rfl⟩ := hA9.env2 e1 e2
      clear hA9 e1 e2
      have hkl := alK_len l m.segs k
      have hkm : ((alK l m.segs k).map cStr).length = (alK l m.segs k).length := List.length_map ..
      by_cases hlt : k < m.segs.length
      · obtain ⟨b', off, L, T9, fr, e1, eb, eg⟩ := hPs.getM (by decide) (Nat.lt_of_le_of_lt (Nat.zero_le _) hlt)
        have g1 : L[off + (k : Int).toNat * 1]? = some (.int .u32 m.segs[k].toNat) := row_cell (eg (k : Int).toNat k hlt (by omega)) (q := 0) (by simp [cKid])
        clear eg
        have hsu := alK_succ l hlt
        have hSN := man_SegName m.segs[k] h0
        generalize m.segs[k] = sg at g1 hsu hSN
        have hsu2 : (alK l m.segs (k + 1)).map cStr = (alK l m.segs k).map cStr ++ [[Value.string (bstr (segW sg.toNat))]] := by rw [hsu, List.map_append]; rfl
        have hr1 := rows_cStr (alK l m.segs k)
        clear hsu
        generalize (alK l m.segs k).map cStr = R at H hsu2 hkm hr1 ⊢
        rw [e1]
        repeat' (first | ((first | refine WL.p rfl ?_ | refine WL.u ?_ | refine WL.g rfl rfl ?_ | refine WL.gu rfl ?_); first | (refine opk 1 rfl ?_; first | (refine ost_V H rfl (hSN _ H.sat hW0) rfl ?_; clear H; intro wk H) | (refine ost_appR (rows := R) (row := [Value.string (bstr (segW sg.toNat))]) H rfl rfl rfl (by (exact ixQ)) (by (exact ixQ)) (by rfl) (by first | simp; done | exact Nat.succ_pos _) rfl (allOne_of rfl) rfl (by omega) ?_; clear H; intro aa ca wk H; simp only [List.set_cons_zero, List.set_cons_succ] at H)) | (refine opk 9 rfl ?_; (refine ost_buildR (rows := [[Value.string (bstr (segW sg.toNat))]]) H rfl (by decide) rfl (by rfl) (evP1 vxQ) (.cons rfl .nil) rfl (fun r hr => by rw [List.mem_singleton.1 hr]; rfl) ?_; clear H; intro bk wk H)) | refine pvQ ?_ | (refine opk 3 rfl ?_; first | (refine ost_cmp rfl rfl rfl rfl (fun hc => ?_) (fun hc => ?_) <;> (simp only [cmpP] at hc; try exact prIQ)) | (refine ost_streqB rfl rfl rfl (fun hc => ?_) (fun hc => ?_) <;> try exact prEQ) | (refine ost_strneB rfl rfl rfl (fun hc => ?_) (fun hc => ?_) <;> try exact prEQ) | (refine ost_streq rfl rfl rfl (fun hc => ?_) (fun hc => ?_) <;> try exact absurd rfl hc) | (refine ost_strne rfl rfl rfl (fun hc => ?_) (fun hc => ?_))) | (refine opk 4 rfl ?_; (refine ost_cmp rfl rfl rfl rfl (fun hc => ?_) (fun hc => ?_) <;> (simp only [cmpP] at hc; try exact prIQ))) | (refine opk 9 rfl ?_; first | (refine ost_boxq H rfl ?_; clear H; intro bk wk H) | (refine ost_build1 H rfl rfl rfl evQ lsQ rfl ?_; clear H; intro bk wk H))) | refine Wc.seq ?_ | refine then_n ?_ | refine WL.nil ?_ | refine Wc.region ?_ | refine Wc.block ?_ | refine then_r ?_ | refine then_e ?_ | refine inb_e rfl ?_ | refine inb_o rfl ?_ | refine inb_n ?_ | refine inb_r ?_ | refine Wc.skip ?_ | refine Wc.exit ?_ | refine Wc.ret ?_ | refine Wc.cond_true rfl ?_ | refine Wc.cond_false rfl ?_ | refine WL.skp rfl rfl ?_ | refine WL.sku rfl ?_)
        rw [← hsu2] at H
        exact ⟨m.segs.length - (k + 1), by omega, k + 1, aa, ca, rfl, by omega, by (repeat' (first | exact Agree.refl _ _ | exact Agree.havoc | refine Agree.upd rfl ?_ | refine Agree.hav2 rfl ?_)), rfl, by rw [hsu2]; rfl, H.picks [1, 2] rfl (by decide)⟩
      · obtain rfl : k = m.segs.length := by omega
        have hT0 : alK l m.segs m.segs.length = manW :: tempW :: (l ++ (m.segs.take m.segs.length).map fun s => segW s.toNat) := by unfold alK; simp
        generalize l ++ (m.segs.take m.segs.length).map (fun s => segW s.toNat) = T0 at hT0
        generalize hTT : alK l m.segs m.segs.length = T at H hT0 hkl hkm ⊢
        by_cases hb : m.base.toNat = 0
        · repeat' (first | ((first | refine WL.p rfl ?_ | refine WL.u ?_ | refine WL.g rfl rfl ?_ | refine WL.gu rfl ?_); first | refine pvQ ?_ | (refine opk 3 rfl ?_; first | (refine ost_cmp rfl rfl rfl rfl (fun hc => ?_) (fun hc => ?_) <;> (simp only [cmpP] at hc; try exact prIQ)) | (refine ost_streqB rfl rfl rfl (fun hc => ?_) (fun hc => ?_) <;> try exact prEQ) | (refine ost_strneB rfl rfl rfl (fun hc => ?_) (fun hc => ?_) <;> try exact prEQ) | (refine ost_streq rfl rfl rfl (fun hc => ?_) (fun hc => ?_) <;> try exact absurd rfl hc) | (refine ost_strne rfl rfl rfl (fun hc => ?_) (fun hc => ?_))) | (refine opk 4 rfl ?_; (refine ost_cmp rfl rfl rfl rfl (fun hc => ?_) (fun hc => ?_) <;> (simp only [cmpP] at hc; try exact prIQ))) | (refine opk 9 rfl ?_; first | (refine ost_boxq H rfl ?_; clear H; intro bk wk H) | (refine ost_build1 H rfl rfl rfl evQ lsQ rfl ?_; clear H; intro bk wk H))) | refine Wc.seq ?_ | refine then_n ?_ | refine WL.nil ?_ | refine Wc.region ?_ | refine Wc.block ?_ | refine then_r ?_ | refine then_e ?_ | refine inb_e rfl ?_ | refine inb_o rfl ?_ | refine inb_n ?_ | refine inb_r ?_ | refine Wc.skip ?_ | refine Wc.exit ?_ | refine Wc.ret ?_ | refine Wc.cond_true rfl ?_ | refine Wc.cond_false rfl ?_ | refine WL.skp rfl rfl ?_ | refine WL.sku rfl ?_)
          have hTm : (T.map cStr).length = T.length := List.length_map ..
          obtain ⟨a3, c3, h3, e3, hle3, hS3, H9⟩ := H.freezeR (rows_cStr T)
          injection e3 with e31 e32 e33
          subst e31; subst e33
          clear H
          have H := H9
          clear H9
          have hW3 := hW0.mono hle3
          have hP3 := hP0.mono hle3
          rw [hTm]
          have cO := fun w hs => man_Orphans m A h3 w hs hW3 hP3 (by omega) _ _ T hS3 (by omega)
          obtain ⟨r, hr⟩ := orph_temp m T0
          rw [← hT0] at hr
          have hmem := fun x h => @orph_mem m T x h
          have htw := orph_twice m T
          have hol : (orphM m T).length ≤ T.length := List.length_filter_le _ _
          generalize orphM m T = o at cO hr hmem htw hol
          have hop : 0 < o.length := by rw [hr]; simp
          repeat' (first | ((first | refine WL.p rfl ?_ | refine WL.u ?_ | refine WL.g rfl rfl ?_ | refine WL.gu rfl ?_); first | (refine opk 1 rfl ?_; first | (refine ost_V H rfl (tm _) rfl ?_; clear H; intro wk H) | (refine ost_Sk H rfl (cO _ H.sat) rfl ?_; clear H; rintro vk wk hfk Lk ⟨a9, c9, rfl, rfl⟩ hle H; simp only [List.cons_append, List.nil_append] at H)) | refine pvQ ?_ | (refine opk 3 rfl ?_; first | (refine ost_cmp rfl rfl rfl rfl (fun hc => ?_) (fun hc => ?_) <;> (simp only [cmpP] at hc; try exact prIQ)) | (refine ost_streqB rfl rfl rfl (fun hc => ?_) (fun hc => ?_) <;> try exact prEQ) | (refine ost_strneB rfl rfl rfl (fun hc => ?_) (fun hc => ?_) <;> try exact prEQ) | (refine ost_streq rfl rfl rfl (fun hc => ?_) (fun hc => ?_) <;> try exact absurd rfl hc) | (refine ost_strne rfl rfl rfl (fun hc => ?_) (fun hc => ?_))) | (refine opk 4 rfl ?_; (refine ost_cmp rfl rfl rfl rfl (fun hc => ?_) (fun hc => ?_) <;> (simp only [cmpP] at hc; try exact prIQ))) | (refine opk 9 rfl ?_; first | (refine ost_boxq H rfl ?_; clear H; intro bk wk H) | (refine ost_build1 H rfl rfl rfl evQ lsQ rfl ?_; clear H; intro bk wk H))) | refine Wc.seq ?_ | refine then_n ?_ | refine WL.nil ?_ | refine Wc.region ?_ | refine Wc.block ?_ | refine then_r ?_ | refine then_e ?_ | refine inb_e rfl ?_ | refine inb_o rfl ?_ | refine inb_n ?_ | refine inb_r ?_ | refine Wc.skip ?_ | refine Wc.exit ?_ | refine Wc.ret ?_ | refine Wc.cond_true rfl ?_ | refine Wc.cond_false rfl ?_ | refine WL.skp rfl rfl ?_ | refine WL.sku rfl ?_)
          obtain ⟨a4, c4, h4, e4, hle4, hS4, H8⟩ := H.freezeS
          injection e4 with e41 e42 e43
          subst e41; subst e43
          clear H
          have H := H8
          clear H8
          have hW4 := (hW3.mono hle).mono hle4
          have hP4 := (hP3.mono hle).mono hle4
          have hPs : Sl h4 1 A.a A.c (m.segs.map cKid) := hP4
          have ho0 : o[0] = tempW := by simp [hr]
          obtain ⟨b5, off5, l5, T5, fr5, e5, eb5, eg5⟩ := hS4.getM (by decide) hop
          subst e5
          have gO : ∀ (k : Nat) (h : k < o.length), l5[off5 + (k : Int).toNat * 1]? = some (.string (bstr o[k])) := fun k h => row_cell (eg5 (k : Int).toNat k h (by omega)) (q := 0) (by simp [cStr])
          have g0 : l5[off5 + (0 : Int).toNat * 1]? = some (.string (bstr tempW)) := by rw [← ho0]; exact gO 0 hop
          clear eg5
          obtain ⟨bm, ebm⟩ := H.nameB idx0
          subst ebm
          repeat' (first | ((first | refine WL.p rfl ?_ | refine WL.u ?_ | refine WL.g rfl rfl ?_ | refine WL.gu rfl ?_); first | (refine opk 3 rfl ?_; (refine ost_strneD (q := false) (a := tempW) (b := tempW) rfl rfl rfl (by simp) ?_)) | refine pvQ ?_ | (refine opk 3 rfl ?_; first | (refine ost_cmp rfl rfl rfl rfl (fun hc => ?_) (fun hc => ?_) <;> (simp only [cmpP] at hc; try exact prIQ)) | (refine ost_streqB rfl rfl rfl (fun hc => ?_) (fun hc => ?_) <;> try exact prEQ) | (refine ost_strneB rfl rfl rfl (fun hc => ?_) (fun hc => ?_) <;> try exact prEQ) | (refine ost_streq rfl rfl rfl (fun hc => ?_) (fun hc => ?_) <;> try exact absurd rfl hc) | (refine ost_strne rfl rfl rfl (fun hc => ?_) (fun hc => ?_))) | (refine opk 4 rfl ?_; (refine ost_cmp rfl rfl rfl rfl (fun hc => ?_) (fun hc => ?_) <;> (simp only [cmpP] at hc; try exact prIQ))) | (refine opk 9 rfl ?_; first | (refine ost_boxq H rfl ?_; clear H; intro bk wk H) | (refine ost_build1 H rfl rfl rfl evQ lsQ rfl ?_; clear H; intro bk wk H))) | refine Wc.seq ?_ | refine then_n ?_ | refine WL.nil ?_ | refine Wc.region ?_ | refine Wc.block ?_ | refine then_r ?_ | refine then_e ?_ | refine inb_e rfl ?_ | refine inb_o rfl ?_ | refine inb_n ?_ | refine inb_r ?_ | refine Wc.skip ?_ | refine Wc.exit ?_ | refine Wc.ret ?_ | refine Wc.cond_true rfl ?_ | refine Wc.cond_false rfl ?_ | refine WL.skp rfl rfl ?_ | refine WL.sku rfl ?_)
          refine Wc.loopE (fun s0 n s w' => ∃ i : Nat, n = m.segs.length - i ∧ i ≤ m.segs.length ∧ Agree [4, 10, 12, 71, 72, 73, 74, 75, 76, 77, 78, 79, 80, 81, 82, 83, 84, 85, 86, 87, 88, 89, 90, 91, 92, 93, 94, 95, 96, 97, 98, 99, 100, 101, 102] s s0 ∧ s 71 = .int .i64 i ∧ St w [] h0 h4 [.blk bm (.cells (mnV m A).toArray 93 (0, 0))] w') m.segs.length ⟨0, rfl, by omega, Agree.refl _ _, rfl, H⟩ ?_
          clear H
          rintro n s w' ⟨i, rfl, hi, hA9, e1, H⟩
          obtain ⟨j, rfl⟩ := hA9.env1 e1
          clear hA9 e1
          by_cases hlt : i < m.segs.length
          · obtain ⟨b', off, L, T9, fr, e1, eb, eg⟩ := hPs.getM (by decide) (Nat.lt_of_le_of_lt (Nat.zero_le _) hlt)
            have g1 : L[off + (i : Int).toNat * 1]? = some (.int .u32 m.segs[i].toNat) := row_cell (eg (i : Int).toNat i hlt (by omega)) (q := 0) (by simp [cKid])
            clear eg
            have hsg := List.getElem_mem hlt
            generalize m.segs[i] = sg at g1 hsg
            have q18b := q18
            rw [e1] at q18b
            rw [e1]
            repeat' (first | ((first | refine WL.p rfl ?_ | refine WL.u ?_ | refine WL.g rfl rfl ?_ | refine WL.gu rfl ?_); first | refine pvQ ?_ | (refine opk 3 rfl ?_; first | (refine ost_cmp rfl rfl rfl rfl (fun hc => ?_) (fun hc => ?_) <;> (simp only [cmpP] at hc; try exact prIQ)) | (refine ost_streqB rfl rfl rfl (fun hc => ?_) (fun hc => ?_) <;> try exact prEQ) | (refine ost_strneB rfl rfl rfl (fun hc => ?_) (fun hc => ?_) <;> try exact prEQ) | (refine ost_streq rfl rfl rfl (fun hc => ?_) (fun hc => ?_) <;> try exact absurd rfl hc) | (refine ost_strne rfl rfl rfl (fun hc => ?_) (fun hc => ?_))) | (refine opk 4 rfl ?_; (refine ost_cmp rfl rfl rfl rfl (fun hc => ?_) (fun hc => ?_) <;> (simp only [cmpP] at hc; try exact prIQ))) | (refine opk 9 rfl ?_; first | (refine ost_boxq H rfl ?_; clear H; intro bk wk H) | (refine ost_build1 H rfl rfl rfl evQ lsQ rfl ?_; clear H; intro bk wk H))) | refine Wc.seq ?_ | refine then_n ?_ | refine WL.nil ?_ | refine Wc.region ?_ | refine Wc.block ?_ | refine then_r ?_ | refine then_e ?_ | refine inb_e rfl ?_ | refine inb_o rfl ?_ | refine inb_n ?_ | refine inb_r ?_ | refine Wc.skip ?_ | refine Wc.exit ?_ | refine Wc.ret ?_ | refine Wc.cond_true rfl ?_ | refine Wc.cond_false rfl ?_ | refine WL.skp rfl rfl ?_ | refine WL.sku rfl ?_)
            have hSN := man_SegName sg h4
            have hBN := man_BaseName m.base h4
            refine Wc.loopE (fun s0 n s w' => ∃ k : Nat, n = o.length - k ∧ k ≤ o.length ∧ Agree [4, 12, 77, 78, 79, 80, 81, 82, 83, 84, 85, 86, 87, 88, 89, 90, 91, 92, 93, 94, 95, 96, 97, 98, 99, 100, 101] s s0 ∧ s 77 = .int .i64 k ∧ St w [] h0 h4 [.blk bm (.cells (mnV m A).toArray 93 (0, 0))] w') o.length ⟨0, rfl, by omega, Agree.refl _ _, rfl, H⟩ ?_
            clear H
            rintro n s w' ⟨k, rfl, hk, hA9, e1, H⟩
            obtain ⟨j9, rfl⟩ := hA9.env1 e1
            clear hA9 e1
            by_cases hlk : k < o.length
            · have gk := gO k hlk
              have hx := fun h => hmem _ (List.getElem_mem hlk) (need_mem.2 h)
              generalize o[k] = x at gk hx
              have hx1 : x ≠ segW sg.toNat := fun e => hx (.inr (.inl ⟨sg, hsg, e⟩))
              have hx2 : x ≠ manW := fun e => hx (.inl e)
              by_cases hb : m.base.toNat = 0
              · repeat' (first | ((first | refine WL.p rfl ?_ | refine WL.u ?_ | refine WL.g rfl rfl ?_ | refine WL.gu rfl ?_); first | (refine opk 1 rfl ?_; (refine ost_V H rfl (hSN _ H.sat hW4) rfl ?_; clear H; intro wk H)) | (refine opk 3 rfl ?_; first | (refine ost_streqD (q := false) (a := x) (b := segW sg.toNat) rfl rfl rfl (by simp [hx1]) ?_) | (refine ost_streqD (q := false) (a := x) (b := manW) rfl rfl rfl (by simp [hx2]) ?_)) | refine pvQ ?_ | (refine opk 3 rfl ?_; first | (refine ost_cmp rfl rfl rfl rfl (fun hc => ?_) (fun hc => ?_) <;> (simp only [cmpP] at hc; try exact prIQ)) | (refine ost_streqB rfl rfl rfl (fun hc => ?_) (fun hc => ?_) <;> try exact prEQ) | (refine ost_strneB rfl rfl rfl (fun hc => ?_) (fun hc => ?_) <;> try exact prEQ) | (refine ost_streq rfl rfl rfl (fun hc => ?_) (fun hc => ?_) <;> try exact absurd rfl hc) | (refine ost_strne rfl rfl rfl (fun hc => ?_) (fun hc => ?_))) | (refine opk 4 rfl ?_; (refine ost_cmp rfl rfl rfl rfl (fun hc => ?_) (fun hc => ?_) <;> (simp only [cmpP] at hc; try exact prIQ))) | (refine opk 9 rfl ?_; first | (refine ost_boxq H rfl ?_; clear H; intro bk wk H) | (refine ost_build1 H rfl rfl rfl evQ lsQ rfl ?_; clear H; intro bk wk H))) | refine Wc.seq ?_ | refine then_n ?_ | refine WL.nil ?_ | refine Wc.region ?_ | refine Wc.block ?_ | refine then_r ?_ | refine then_e ?_ | refine inb_e rfl ?_ | refine inb_o rfl ?_ | refine inb_n ?_ | refine inb_r ?_ | refine Wc.skip ?_ | refine Wc.exit ?_ | refine Wc.ret ?_ | refine Wc.cond_true rfl ?_ | refine Wc.cond_false rfl ?_ | refine WL.skp rfl rfl ?_ | refine WL.sku rfl ?_)
                all_goals exact ⟨o.length - (k + 1), by omega, k + 1, rfl, by omega, by (repeat' (first | exact Agree.refl _ _ | exact Agree.havoc | refine Agree.upd rfl ?_ | refine Agree.hav2 rfl ?_)), rfl, H⟩
              · have hx3 : x ≠ baseW m.base.toNat := fun e => hx (.inr (.inr ⟨hb, e⟩))
                repeat' (first | ((first | refine WL.p rfl ?_ | refine WL.u ?_ | refine WL.g rfl rfl ?_ | refine WL.gu rfl ?_); first | (refine opk 1 rfl ?_; first | (refine ost_V H rfl (hSN _ H.sat hW4) rfl ?_; clear H; intro wk H) | (refine ost_V H rfl (hBN _ H.sat hW4) rfl ?_; clear H; intro wk H)) | (refine opk 3 rfl ?_; first | (refine ost_streqD (q := false) (a := x) (b := segW sg.toNat) rfl rfl rfl (by simp [hx1]) ?_) | (refine ost_streqD (q := false) (a := x) (b := manW) rfl rfl rfl (by simp [hx2]) ?_) | (refine ost_streqD (q := false) (a := x) (b := baseW m.base.toNat) rfl rfl rfl (by simp [hx3]) ?_)) | refine pvQ ?_ | (refine opk 3 rfl ?_; first | (refine ost_cmp rfl rfl rfl rfl (fun hc => ?_) (fun hc => ?_) <;> (simp only [cmpP] at hc; try exact prIQ)) | (refine ost_streqB rfl rfl rfl (fun hc => ?_) (fun hc => ?_) <;> try exact prEQ) | (refine ost_strneB rfl rfl rfl (fun hc => ?_) (fun hc => ?_) <;> try exact prEQ) | (refine ost_streq rfl rfl rfl (fun hc => ?_) (fun hc => ?_) <;> try exact absurd rfl hc) | (refine ost_strne rfl rfl rfl (fun hc => ?_) (fun hc => ?_))) | (refine opk 4 rfl ?_; (refine ost_cmp rfl rfl rfl rfl (fun hc => ?_) (fun hc => ?_) <;> (simp only [cmpP] at hc; try exact prIQ))) | (refine opk 9 rfl ?_; first | (refine ost_boxq H rfl ?_; clear H; intro bk wk H) | (refine ost_build1 H rfl rfl rfl evQ lsQ rfl ?_; clear H; intro bk wk H))) | refine Wc.seq ?_ | refine then_n ?_ | refine WL.nil ?_ | refine Wc.region ?_ | refine Wc.block ?_ | refine then_r ?_ | refine then_e ?_ | refine inb_e rfl ?_ | refine inb_o rfl ?_ | refine inb_n ?_ | refine inb_r ?_ | refine Wc.skip ?_ | refine Wc.exit ?_ | refine Wc.ret ?_ | refine Wc.cond_true rfl ?_ | refine Wc.cond_false rfl ?_ | refine WL.skp rfl rfl ?_ | refine WL.sku rfl ?_)
                all_goals exact ⟨o.length - (k + 1), by omega, k + 1, rfl, by omega, by (repeat' (first | exact Agree.refl _ _ | exact Agree.havoc | refine Agree.upd rfl ?_ | refine Agree.hav2 rfl ?_)), rfl, H⟩
            · repeat' (first | ((first | refine WL.p rfl ?_ | refine WL.u ?_ | refine WL.g rfl rfl ?_ | refine WL.gu rfl ?_); first | refine pvQ ?_ | (refine opk 3 rfl ?_; first | (refine ost_cmp rfl rfl rfl rfl (fun hc => ?_) (fun hc => ?_) <;> (simp only [cmpP] at hc; try exact prIQ)) | (refine ost_streqB rfl rfl rfl (fun hc => ?_) (fun hc => ?_) <;> try exact prEQ) | (refine ost_strneB rfl rfl rfl (fun hc => ?_) (fun hc => ?_) <;> try exact prEQ) | (refine ost_streq rfl rfl rfl (fun hc => ?_) (fun hc => ?_) <;> try exact absurd rfl hc) | (refine ost_strne rfl rfl rfl (fun hc => ?_) (fun hc => ?_))) | (refine opk 4 rfl ?_; (refine ost_cmp rfl rfl rfl rfl (fun hc => ?_) (fun hc => ?_) <;> (simp only [cmpP] at hc; try exact prIQ))) | (refine opk 9 rfl ?_; first | (refine ost_boxq H rfl ?_; clear H; intro bk wk H) | (refine ost_build1 H rfl rfl rfl evQ lsQ rfl ?_; clear H; intro bk wk H))) | refine Wc.seq ?_ | refine then_n ?_ | refine WL.nil ?_ | refine Wc.region ?_ | refine Wc.block ?_ | refine then_r ?_ | refine then_e ?_ | refine inb_e rfl ?_ | refine inb_o rfl ?_ | refine inb_n ?_ | refine inb_r ?_ | refine Wc.skip ?_ | refine Wc.exit ?_ | refine Wc.ret ?_ | refine Wc.cond_true rfl ?_ | refine Wc.cond_false rfl ?_ | refine WL.skp rfl rfl ?_ | refine WL.sku rfl ?_)
              exact ⟨m.segs.length - (i + 1), by omega, i + 1, rfl, by omega, by (repeat' (first | exact Agree.refl _ _ | exact Agree.havoc | refine Agree.upd rfl ?_ | refine Agree.hav2 rfl ?_)), rfl, H⟩
          · have cP := fun w hs => man_Orphans m A h4 w hs hW4 hP4 (by omega) _ _ o hS4 (by omega)
            rw [htw] at cP
            repeat' (first | ((first | refine WL.p rfl ?_ | refine WL.u ?_ | refine WL.g rfl rfl ?_ | refine WL.gu rfl ?_); first | (refine opk 1 rfl ?_; first | (refine ost_V H rfl (tm _) rfl ?_; clear H; intro wk H) | (refine ost_Sk H rfl (cP _ H.sat) rfl ?_; clear H; rintro vk wk hfk Lk ⟨a9, c9, rfl, rfl⟩ hle H; simp only [List.cons_append, List.nil_append] at H)) | refine pvQ ?_ | (refine opk 3 rfl ?_; first | (refine ost_cmp rfl rfl rfl rfl (fun hc => ?_) (fun hc => ?_) <;> (simp only [cmpP] at hc; try exact prIQ)) | (refine ost_streqB rfl rfl rfl (fun hc => ?_) (fun hc => ?_) <;> try exact prEQ) | (refine ost_strneB rfl rfl rfl (fun hc => ?_) (fun hc => ?_) <;> try exact prEQ) | (refine ost_streq rfl rfl rfl (fun hc => ?_) (fun hc => ?_) <;> try exact absurd rfl hc) | (refine ost_strne rfl rfl rfl (fun hc => ?_) (fun hc => ?_))) | (refine opk 4 rfl ?_; (refine ost_cmp rfl rfl rfl rfl (fun hc => ?_) (fun hc => ?_) <;> (simp only [cmpP] at hc; try exact prIQ))) | (refine opk 9 rfl ?_; first | (refine ost_boxq H rfl ?_; clear H; intro bk wk H) | (refine ost_build1 H rfl rfl rfl evQ lsQ rfl ?_; clear H; intro bk wk H))) | refine Wc.seq ?_ | refine then_n ?_ | refine WL.nil ?_ | refine Wc.region ?_ | refine Wc.block ?_ | refine then_r ?_ | refine then_e ?_ | refine inb_e rfl ?_ | refine inb_o rfl ?_ | refine inb_n ?_ | refine inb_r ?_ | refine Wc.skip ?_ | refine Wc.exit ?_ | refine Wc.ret ?_ | refine Wc.cond_true rfl ?_ | refine Wc.cond_false rfl ?_ | refine WL.skp rfl rfl ?_ | refine WL.sku rfl ?_)
            (first | refine fn_ret1 (v := .bool _) rfl rfl ⟨?_, H.fr⟩ | refine fn_ret1 (v := .int _ _) rfl rfl ⟨?_, H.fr⟩ | refine fn_ret1 (v := .string _) rfl rfl ⟨?_, H.fr⟩)
            rfl
        · have hBN := man_BaseName m.base h0
          have hr1 := rows_cStr T
          have hsu2 : (T ++ [baseW m.base.toNat]).map cStr = T.map cStr ++ [[Value.string (bstr (baseW m.base.toNat))]] := by rw [List.map_append]; rfl
          have hT1 : T ++ [baseW m.base.toNat] = manW :: tempW :: (T0 ++ [baseW m.base.toNat]) := by rw [hT0]; rfl
          have hkl1 : (T ++ [baseW m.base.toNat]).length ≤ 3 + l.length + m.segs.length := by rw [List.length_append, List.length_singleton]; omega
          repeat' (first | ((first | refine WL.p rfl ?_ | refine WL.u ?_ | refine WL.g rfl rfl ?_ | refine WL.gu rfl ?_); first | (refine opk 1 rfl ?_; first | (refine ost_V H rfl (hBN _ H.sat hW0) rfl ?_; clear H; intro wk H) | (refine ost_appR (rows := T.map cStr) (row := [Value.string (bstr (baseW m.base.toNat))]) H rfl rfl rfl (by (exact ixQ)) (by (exact ixQ)) (by rfl) (by first | simp; done | exact Nat.succ_pos _) rfl (allOne_of rfl) rfl (by omega) ?_; clear H; intro aa ca wk H; simp only [List.set_cons_zero, List.set_cons_succ] at H)) | (refine opk 9 rfl ?_; (refine ost_buildR (rows := [[Value.string (bstr (baseW m.base.toNat))]]) H rfl (by decide) rfl (by rfl) (evP1 vxQ) (.cons rfl .nil) rfl (fun r hr => by rw [List.mem_singleton.1 hr]; rfl) ?_; clear H; intro bk wk H)) | refine pvQ ?_ | (refine opk 3 rfl ?_; first | (refine ost_cmp rfl rfl rfl rfl (fun hc => ?_) (fun hc => ?_) <;> (simp only [cmpP] at hc; try exact prIQ)) | (refine ost_streqB rfl rfl rfl (fun hc => ?_) (fun hc => ?_) <;> try exact prEQ) | (refine ost_strneB rfl rfl rfl (fun hc => ?_) (fun hc => ?_) <;> try exact prEQ) | (refine ost_streq rfl rfl rfl (fun hc => ?_) (fun hc => ?_) <;> try exact absurd rfl hc) | (refine ost_strne rfl rfl rfl (fun hc => ?_) (fun hc => ?_))) | (refine opk 4 rfl ?_; (refine ost_cmp rfl rfl rfl rfl (fun hc => ?_) (fun hc => ?_) <;> (simp only [cmpP] at hc; try exact prIQ))) | (refine opk 9 rfl ?_; first | (refine ost_boxq H rfl ?_; clear H; intro bk wk H) | (refine ost_build1 H rfl rfl rfl evQ lsQ rfl ?_; clear H; intro bk wk H))) | refine Wc.seq ?_ | refine then_n ?_ | refine WL.nil ?_ | refine Wc.region ?_ | refine Wc.block ?_ | refine then_r ?_ | refine then_e ?_ | refine inb_e rfl ?_ | refine inb_o rfl ?_ | refine inb_n ?_ | refine inb_r ?_ | refine Wc.skip ?_ | refine Wc.exit ?_ | refine Wc.ret ?_ | refine Wc.cond_true rfl ?_ | refine Wc.cond_false rfl ?_ | refine WL.skp rfl rfl ?_ | refine WL.sku rfl ?_)
          rw [← hsu2] at H ⊢
          replace H := H.picks (L' := [_, _]) [1, 2] rfl (by decide)
          clear hT0 hkl hkm hsu2 hTT hr1
          have hT0 := hT1
          have hkl := hkl1
          clear hT1 hkl1
          generalize T ++ [baseW m.base.toNat] = T at H hT0 hkl ⊢
          generalize T0 ++ [baseW m.base.toNat] = T0 at hT0
          have hTm : (T.map cStr).length = T.length := List.length_map ..
          obtain ⟨a3, c3, h3, e3, hle3, hS3, H9⟩ := H.freezeR (rows_cStr T)
          injection e3 with e31 e32 e33
          subst e31; subst e33
          clear H
          have H := H9
          clear H9
          have hW3 := hW0.mono hle3
          have hP3 := hP0.mono hle3
          rw [hTm]
          have cO := fun w hs => man_Orphans m A h3 w hs hW3 hP3 (by omega) _ _ T hS3 (by omega)
          obtain ⟨r, hr⟩ := orph_temp m T0
          rw [← hT0] at hr
          have hmem := fun x h => @orph_mem m T x h
          have htw := orph_twice m T
          have hol : (orphM m T).length ≤ T.length := List.length_filter_le _ _
          generalize orphM m T = o at cO hr hmem htw hol
          have hop : 0 < o.length := by rw [hr]; simp
          repeat' (first | ((first | refine WL.p rfl ?_ | refine WL.u ?_ | refine WL.g rfl rfl ?_ | refine WL.gu rfl ?_); first | (refine opk 1 rfl ?_; first | (refine ost_V H rfl (tm _) rfl ?_; clear H; intro wk H) | (refine ost_Sk H rfl (cO _ H.sat) rfl ?_; clear H; rintro vk wk hfk Lk ⟨a9, c9, rfl, rfl⟩ hle H; simp only [List.cons_append, List.nil_append] at H)) | refine pvQ ?_ | (refine opk 3 rfl ?_; first | (refine ost_cmp rfl rfl rfl rfl (fun hc => ?_) (fun hc => ?_) <;> (simp only [cmpP] at hc; try exact prIQ)) | (refine ost_streqB rfl rfl rfl (fun hc => ?_) (fun hc => ?_) <;> try exact prEQ) | (refine ost_strneB rfl rfl rfl (fun hc => ?_) (fun hc => ?_) <;> try exact prEQ) | (refine ost_streq rfl rfl rfl (fun hc => ?_) (fun hc => ?_) <;> try exact absurd rfl hc) | (refine ost_strne rfl rfl rfl (fun hc => ?_) (fun hc => ?_))) | (refine opk 4 rfl ?_; (refine ost_cmp rfl rfl rfl rfl (fun hc => ?_) (fun hc => ?_) <;> (simp only [cmpP] at hc; try exact prIQ))) | (refine opk 9 rfl ?_; first | (refine ost_boxq H rfl ?_; clear H; intro bk wk H) | (refine ost_build1 H rfl rfl rfl evQ lsQ rfl ?_; clear H; intro bk wk H))) | refine Wc.seq ?_ | refine then_n ?_ | refine WL.nil ?_ | refine Wc.region ?_ | refine Wc.block ?_ | refine then_r ?_ | refine then_e ?_ | refine inb_e rfl ?_ | refine inb_o rfl ?_ | refine inb_n ?_ | refine inb_r ?_ | refine Wc.skip ?_ | refine Wc.exit ?_ | refine Wc.ret ?_ | refine Wc.cond_true rfl ?_ | refine Wc.cond_false rfl ?_ | refine WL.skp rfl rfl ?_ | refine WL.sku rfl ?_)
          obtain ⟨a4, c4, h4, e4, hle4, hS4, H8⟩ := H.freezeS
          injection e4 with e41 e42 e43
          subst e41; subst e43
          clear H
          have H := H8
          clear H8
          have hW4 := (hW3.mono hle).mono hle4
          have hP4 := (hP3.mono hle).mono hle4
          have hPs : Sl h4 1 A.a A.c (m.segs.map cKid) := hP4
          have ho0 : o[0] = tempW := by simp [hr]
          obtain ⟨b5, off5, l5, T5, fr5, e5, eb5, eg5⟩ := hS4.getM (by decide) hop
          subst e5
          have gO : ∀ (k : Nat) (h : k < o.length), l5[off5 + (k : Int).toNat * 1]? = some (.string (bstr o[k])) := fun k h => row_cell (eg5 (k : Int).toNat k h (by omega)) (q := 0) (by simp [cStr])
          have g0 : l5[off5 + (0 : Int).toNat * 1]? = some (.string (bstr tempW)) := by rw [← ho0]; exact gO 0 hop
          clear eg5
          obtain ⟨bm, ebm⟩ := H.nameB idx0
          subst ebm
          repeat' (first | ((first | refine WL.p rfl ?_ | refine WL.u ?_ | refine WL.g rfl rfl ?_ | refine WL.gu rfl ?_); first | (refine opk 3 rfl ?_; (refine ost_strneD (q := false) (a := tempW) (b := tempW) rfl rfl rfl (by simp) ?_)) | refine pvQ ?_ | (refine opk 3 rfl ?_; first | (refine ost_cmp rfl rfl rfl rfl (fun hc => ?_) (fun hc => ?_) <;> (simp only [cmpP] at hc; try exact prIQ)) | (refine ost_streqB rfl rfl rfl (fun hc => ?_) (fun hc => ?_) <;> try exact prEQ) | (refine ost_strneB rfl rfl rfl (fun hc => ?_) (fun hc => ?_) <;> try exact prEQ) | (refine ost_streq rfl rfl rfl (fun hc => ?_) (fun hc => ?_) <;> try exact absurd rfl hc) | (refine ost_strne rfl rfl rfl (fun hc => ?_) (fun hc => ?_))) | (refine opk 4 rfl ?_; (refine ost_cmp rfl rfl rfl rfl (fun hc => ?_) (fun hc => ?_) <;> (simp only [cmpP] at hc; try exact prIQ))) | (refine opk 9 rfl ?_; first | (refine ost_boxq H rfl ?_; clear H; intro bk wk H) | (refine ost_build1 H rfl rfl rfl evQ lsQ rfl ?_; clear H; intro bk wk H))) | refine Wc.seq ?_ | refine then_n ?_ | refine WL.nil ?_ | refine Wc.region ?_ | refine Wc.block ?_ | refine then_r ?_ | refine then_e ?_ | refine inb_e rfl ?_ | refine inb_o rfl ?_ | refine inb_n ?_ | refine inb_r ?_ | refine Wc.skip ?_ | refine Wc.exit ?_ | refine Wc.ret ?_ | refine Wc.cond_true rfl ?_ | refine Wc.cond_false rfl ?_ | refine WL.skp rfl rfl ?_ | refine WL.sku rfl ?_)
          refine Wc.loopE (fun s0 n s w' => ∃ i : Nat, n = m.segs.length - i ∧ i ≤ m.segs.length ∧ Agree [4, 10, 12, 71, 72, 73, 74, 75, 76, 77, 78, 79, 80, 81, 82, 83, 84, 85, 86, 87, 88, 89, 90, 91, 92, 93, 94, 95, 96, 97, 98, 99, 100, 101, 102] s s0 ∧ s 71 = .int .i64 i ∧ St w [] h0 h4 [.blk bm (.cells (mnV m A).toArray 93 (0, 0))] w') m.segs.length ⟨0, rfl, by omega, Agree.refl _ _, rfl, H⟩ ?_
          clear H
          rintro n s w' ⟨i, rfl, hi, hA9, e1, H⟩
          obtain ⟨j, rfl⟩ := hA9.env1 e1
          clear hA9 e1
          by_cases hlt : i < m.segs.length
          · obtain ⟨b', off, L, T9, fr, e1, eb, eg⟩ := hPs.getM (by decide) (Nat.lt_of_le_of_lt (Nat.zero_le _) hlt)
            have g1 : L[off + (i : Int).toNat * 1]? = some (.int .u32 m.segs[i].toNat) := row_cell (eg (i : Int).toNat i hlt (by omega)) (q := 0) (by simp [cKid])
            clear eg
            have hsg := List.getElem_mem hlt
            generalize m.segs[i] = sg at g1 hsg
            have q18b := q18
            rw [e1] at q18b
            rw [e1]
            repeat' (first | ((first | refine WL.p rfl ?_ | refine WL.u ?_ | refine WL.g rfl rfl ?_ | refine WL.gu rfl ?_); first | refine pvQ ?_ | (refine opk 3 rfl ?_; first | (refine ost_cmp rfl rfl rfl rfl (fun hc => ?_) (fun hc => ?_) <;> (simp only [cmpP] at hc; try exact prIQ)) | (refine ost_streqB rfl rfl rfl (fun hc => ?_) (fun hc => ?_) <;> try exact prEQ) | (refine ost_strneB rfl rfl rfl (fun hc => ?_) (fun hc => ?_) <;> try exact prEQ) | (refine ost_streq rfl rfl rfl (fun hc => ?_) (fun hc => ?_) <;> try exact absurd rfl hc) | (refine ost_strne rfl rfl rfl (fun hc => ?_) (fun hc => ?_))) | (refine opk 4 rfl ?_; (refine ost_cmp rfl rfl rfl rfl (fun hc => ?_) (fun hc => ?_) <;> (simp only [cmpP] at hc; try exact prIQ))) | (refine opk 9 rfl ?_; first | (refine ost_boxq H rfl ?_; clear H; intro bk wk H) | (refine ost_build1 H rfl rfl rfl evQ lsQ rfl ?_; clear H; intro bk wk H))) | refine Wc.seq ?_ | refine then_n ?_ | refine WL.nil ?_ | refine Wc.region ?_ | refine Wc.block ?_ | refine then_r ?_ | refine then_e ?_ | refine inb_e rfl ?_ | refine inb_o rfl ?_ | refine inb_n ?_ | refine inb_r ?_ | refine Wc.skip ?_ | refine Wc.exit ?_ | refine Wc.ret ?_ | refine Wc.cond_true rfl ?_ | refine Wc.cond_false rfl ?_ | refine WL.skp rfl rfl ?_ | refine WL.sku rfl ?_)
            have hSN := man_SegName sg h4
            have hBN := man_BaseName m.base h4
            refine Wc.loopE (fun s0 n s w' => ∃ k : Nat, n = o.length - k ∧ k ≤ o.length ∧ Agree [4, 12, 77, 78, 79, 80, 81, 82, 83, 84, 85, 86, 87, 88, 89, 90, 91, 92, 93, 94, 95, 96, 97, 98, 99, 100, 101] s s0 ∧ s 77 = .int .i64 k ∧ St w [] h0 h4 [.blk bm (.cells (mnV m A).toArray 93 (0, 0))] w') o.length ⟨0, rfl, by omega, Agree.refl _ _, rfl, H⟩ ?_
            clear H
            rintro n s w' ⟨k, rfl, hk, hA9, e1, H⟩
            obtain ⟨j9, rfl⟩ := hA9.env1 e1
            clear hA9 e1
            by_cases hlk : k < o.length
            · have gk := gO k hlk
              have hx := fun h => hmem _ (List.getElem_mem hlk) (need_mem.2 h)
              generalize o[k] = x at gk hx
              have hx1 : x ≠ segW sg.toNat := fun e => hx (.inr (.inl ⟨sg, hsg, e⟩))
              have hx2 : x ≠ manW := fun e => hx (.inl e)
              by_cases hb : m.base.toNat = 0
              · repeat' (first | ((first | refine WL.p rfl ?_ | refine WL.u ?_ | refine WL.g rfl rfl ?_ | refine WL.gu rfl ?_); first | (refine opk 1 rfl ?_; (refine ost_V H rfl (hSN _ H.sat hW4) rfl ?_; clear H; intro wk H)) | (refine opk 3 rfl ?_; first | (refine ost_streqD (q := false) (a := x) (b := segW sg.toNat) rfl rfl rfl (by simp [hx1]) ?_) | (refine ost_streqD (q := false) (a := x) (b := manW) rfl rfl rfl (by simp [hx2]) ?_)) | refine pvQ ?_ | (refine opk 3 rfl ?_; first | (refine ost_cmp rfl rfl rfl rfl (fun hc => ?_) (fun hc => ?_) <;> (simp only [cmpP] at hc; try exact prIQ)) | (refine ost_streqB rfl rfl rfl (fun hc => ?_) (fun hc => ?_) <;> try exact prEQ) | (refine ost_strneB rfl rfl rfl (fun hc => ?_) (fun hc => ?_) <;> try exact prEQ) | (refine ost_streq rfl rfl rfl (fun hc => ?_) (fun hc => ?_) <;> try exact absurd rfl hc) | (refine ost_strne rfl rfl rfl (fun hc => ?_) (fun hc => ?_))) | (refine opk 4 rfl ?_; (refine ost_cmp rfl rfl rfl rfl (fun hc => ?_) (fun hc => ?_) <;> (simp only [cmpP] at hc; try exact prIQ))) | (refine opk 9 rfl ?_; first | (refine ost_boxq H rfl ?_; clear H; intro bk wk H) | (refine ost_build1 H rfl rfl rfl evQ lsQ rfl ?_; clear H; intro bk wk H))) | refine Wc.seq ?_ | refine then_n ?_ | refine WL.nil ?_ | refine Wc.region ?_ | refine Wc.block ?_ | refine then_r ?_ | refine then_e ?_ | refine inb_e rfl ?_ | refine inb_o rfl ?_ | refine inb_n ?_ | refine inb_r ?_ | refine Wc.skip ?_ | refine Wc.exit ?_ | refine Wc.ret ?_ | refine Wc.cond_true rfl ?_ | refine Wc.cond_false rfl ?_ | refine WL.skp rfl rfl ?_ | refine WL.sku rfl ?_)
                all_goals exact ⟨o.length - (k + 1), by omega, k + 1, rfl, by omega, by (repeat' (first | exact Agree.refl _ _ | exact Agree.havoc | refine Agree.upd rfl ?_ | refine Agree.hav2 rfl ?_)), rfl, H⟩
              · have hx3 : x ≠ baseW m.base.toNat := fun e => hx (.inr (.inr ⟨hb, e⟩))
                repeat' (first | ((first | refine WL.p rfl ?_ | refine WL.u ?_ | refine WL.g rfl rfl ?_ | refine WL.gu rfl ?_); first | (refine opk 1 rfl ?_; first | (refine ost_V H rfl (hSN _ H.sat hW4) rfl ?_; clear H; intro wk H) | (refine ost_V H rfl (hBN _ H.sat hW4) rfl ?_; clear H; intro wk H)) | (refine opk 3 rfl ?_; first | (refine ost_streqD (q := false) (a := x) (b := segW sg.toNat) rfl rfl rfl (by simp [hx1]) ?_) | (refine ost_streqD (q := false) (a := x) (b := manW) rfl rfl rfl (by simp [hx2]) ?_) | (refine ost_streqD (q := false) (a := x) (b := baseW m.base.toNat) rfl rfl rfl (by simp [hx3]) ?_)) | refine pvQ ?_ | (refine opk 3 rfl ?_; first | (refine ost_cmp rfl rfl rfl rfl (fun hc => ?_) (fun hc => ?_) <;> (simp only [cmpP] at hc; try exact prIQ)) | (refine ost_streqB rfl rfl rfl (fun hc => ?_) (fun hc => ?_) <;> try exact prEQ) | (refine ost_strneB rfl rfl rfl (fun hc => ?_) (fun hc => ?_) <;> try exact prEQ) | (refine ost_streq rfl rfl rfl (fun hc => ?_) (fun hc => ?_) <;> try exact absurd rfl hc) | (refine ost_strne rfl rfl rfl (fun hc => ?_) (fun hc => ?_))) | (refine opk 4 rfl ?_; (refine ost_cmp rfl rfl rfl rfl (fun hc => ?_) (fun hc => ?_) <;> (simp only [cmpP] at hc; try exact prIQ))) | (refine opk 9 rfl ?_; first | (refine ost_boxq H rfl ?_; clear H; intro bk wk H) | (refine ost_build1 H rfl rfl rfl evQ lsQ rfl ?_; clear H; intro bk wk H))) | refine Wc.seq ?_ | refine then_n ?_ | refine WL.nil ?_ | refine Wc.region ?_ | refine Wc.block ?_ | refine then_r ?_ | refine then_e ?_ | refine inb_e rfl ?_ | refine inb_o rfl ?_ | refine inb_n ?_ | refine inb_r ?_ | refine Wc.skip ?_ | refine Wc.exit ?_ | refine Wc.ret ?_ | refine Wc.cond_true rfl ?_ | refine Wc.cond_false rfl ?_ | refine WL.skp rfl rfl ?_ | refine WL.sku rfl ?_)
                all_goals exact ⟨o.length - (k + 1), by omega, k + 1, rfl, by omega, by (repeat' (first | exact Agree.refl _ _ | exact Agree.havoc | refine Agree.upd rfl ?_ | refine Agree.hav2 rfl ?_)), rfl, H⟩
            · repeat' (first | ((first | refine WL.p rfl ?_ | refine WL.u ?_ | refine WL.g rfl rfl ?_ | refine WL.gu rfl ?_); first | refine pvQ ?_ | (refine opk 3 rfl ?_; first | (refine ost_cmp rfl rfl rfl rfl (fun hc => ?_) (fun hc => ?_) <;> (simp only [cmpP] at hc; try exact prIQ)) | (refine ost_streqB rfl rfl rfl (fun hc => ?_) (fun hc => ?_) <;> try exact prEQ) | (refine ost_strneB rfl rfl rfl (fun hc => ?_) (fun hc => ?_) <;> try exact prEQ) | (refine ost_streq rfl rfl rfl (fun hc => ?_) (fun hc => ?_) <;> try exact absurd rfl hc) | (refine ost_strne rfl rfl rfl (fun hc => ?_) (fun hc => ?_))) | (refine opk 4 rfl ?_; (refine ost_cmp rfl rfl rfl rfl (fun hc => ?_) (fun hc => ?_) <;> (simp only [cmpP] at hc; try exact prIQ))) | (refine opk 9 rfl ?_; first | (refine ost_boxq H rfl ?_; clear H; intro bk wk H) | (refine ost_build1 H rfl rfl rfl evQ lsQ rfl ?_; clear H; intro bk wk H))) | refine Wc.seq ?_ | refine then_n ?_ | refine WL.nil ?_ | refine Wc.region ?_ | refine Wc.block ?_ | refine then_r ?_ | refine then_e ?_ | refine inb_e rfl ?_ | refine inb_o rfl ?_ | refine inb_n ?_ | refine inb_r ?_ | refine Wc.skip ?_ | refine Wc.exit ?_ | refine Wc.ret ?_ | refine Wc.cond_true rfl ?_ | refine Wc.cond_false rfl ?_ | refine WL.skp rfl rfl ?_ | refine WL.sku rfl ?_)
              exact ⟨m.segs.length - (i + 1), by omega, i + 1, rfl, by omega, by (repeat' (first | exact Agree.refl _ _ | exact Agree.havoc | refine Agree.upd rfl ?_ | refine Agree.hav2 rfl ?_)), rfl, H⟩
          · have cP := fun w hs => man_Orphans m A h4 w hs hW4 hP4 (by omega) _ _ o hS4 (by omega)
            rw [htw] at cP
            repeat' (first | ((first | refine WL.p rfl ?_ | refine WL.u ?_ | refine WL.g rfl rfl ?_ | refine WL.gu rfl ?_); first | (refine opk 1 rfl ?_; first | (refine ost_V H rfl (tm _) rfl ?_; clear H; intro wk H) | (refine ost_Sk H rfl (cP _ H.sat) rfl ?_; clear H; rintro vk wk hfk Lk ⟨a9, c9, rfl, rfl⟩ hle H; simp only [List.cons_append, List.nil_append] at H)) | refine pvQ ?_ | (refine opk 3 rfl ?_; first | (refine ost_cmp rfl rfl rfl rfl (fun hc => ?_) (fun hc => ?_) <;> (simp only [cmpP] at hc; try exact prIQ)) | (refine ost_streqB rfl rfl rfl (fun hc => ?_) (fun hc => ?_) <;> try exact prEQ) | (refine ost_strneB rfl rfl rfl (fun hc => ?_) (fun hc => ?_) <;> try exact prEQ) | (refine ost_streq rfl rfl rfl (fun hc => ?_) (fun hc => ?_) <;> try exact absurd rfl hc) | (refine ost_strne rfl rfl rfl (fun hc => ?_) (fun hc => ?_))) | (refine opk 4 rfl ?_; (refine ost_cmp rfl rfl rfl rfl (fun hc => ?_) (fun hc => ?_) <;> (simp only [cmpP] at hc; try exact prIQ))) | (refine opk 9 rfl ?_; first | (refine ost_boxq H rfl ?_; clear H; intro bk wk H) | (refine ost_build1 H rfl rfl rfl evQ lsQ rfl ?_; clear H; intro bk wk H))) | refine Wc.seq ?_ | refine then_n ?_ | refine WL.nil ?_ | refine Wc.region ?_ | refine Wc.block ?_ | refine then_r ?_ | refine then_e ?_ | refine inb_e rfl ?_ | refine inb_o rfl ?_ | refine inb_n ?_ | refine inb_r ?_ | refine Wc.skip ?_ | refine Wc.exit ?_ | refine Wc.ret ?_ | refine Wc.cond_true rfl ?_ | refine Wc.cond_false rfl ?_ | refine WL.skp rfl rfl ?_ | refine WL.sku rfl ?_)
            (first | refine fn_ret1 (v := .bool _) rfl rfl ⟨?_, H.fr⟩ | refine fn_ret1 (v := .int _ _) rfl rfl ⟨?_, H.fr⟩ | refine fn_ret1 (v := .string _) rfl rfl ⟨?_, H.fr⟩)
            rfl
  · repeat' (first | ((first | refine WL.p rfl ?_ | refine WL.u ?_ | refine WL.g rfl rfl ?_ | refine WL.gu rfl ?_); first | (refine opk 1 rfl ?_; (refine ost_V H rfl (al _ H.sat hTh hW0) rfl ?_; clear H; intro wk H)) | refine pvQ ?_ | (refine opk 3 rfl ?_; first | (refine ost_cmp rfl rfl rfl rfl (fun hc => ?_) (fun hc => ?_) <;> (simp only [cmpP] at hc; try exact prIQ)) | (refine ost_streqB rfl rfl rfl (fun hc => ?_) (fun hc => ?_) <;> try exact prEQ) | (refine ost_strneB rfl rfl rfl (fun hc => ?_) (fun hc => ?_) <;> try exact prEQ) | (refine ost_streq rfl rfl rfl (fun hc => ?_) (fun hc => ?_) <;> try exact absurd rfl hc) | (refine ost_strne rfl rfl rfl (fun hc => ?_) (fun hc => ?_))) | (refine opk 4 rfl ?_; (refine ost_cmp rfl rfl rfl rfl (fun hc => ?_) (fun hc => ?_) <;> (simp only [cmpP] at hc; try exact prIQ))) | (refine opk 9 rfl ?_; first | (refine ost_boxq H rfl ?_; clear H; intro bk wk H) | (refine ost_build1 H rfl rfl rfl evQ lsQ rfl ?_; clear H; intro bk wk H))) | refine Wc.seq ?_ | refine then_n ?_ | refine WL.nil ?_ | refine Wc.region ?_ | refine Wc.block ?_ | refine then_r ?_ | refine then_e ?_ | refine inb_e rfl ?_ | refine inb_o rfl ?_ | refine inb_n ?_ | refine inb_r ?_ | refine Wc.skip ?_ | refine Wc.exit ?_ | refine Wc.ret ?_ | refine Wc.cond_true rfl ?_ | refine Wc.cond_false rfl ?_ | refine WL.skp rfl rfl ?_ | refine WL.sku rfl ?_)
    all_goals first | ((first | refine fn_ret1 (v := .bool _) rfl rfl ⟨?_, H.fr⟩ | refine fn_ret1 (v := .int _ _) rfl rfl ⟨?_, H.fr⟩ | refine fn_ret1 (v := .string _) rfl rfl ⟨?_, H.fr⟩); rfl) | (exfalso; omega)
end Go.Tg
namespace Go.Proofs.YtajfhoeejeadkaaDoor
open Go.ChangeShapes Go.WideShapes Go.ChangeAt Go.RowKit Go.Tg
theorem manifestNeeds_lifted (os : Os) (started : os.Started) (H : Type) (enc : TypeId × Value → H) :
    ReturnsInHanded {} Tryd.checked os 16 .any (fun w args => (Rows.manifestNeedsSpec.pre enc Tryd.prog Tryd.f16 Rows.manifestNeedsRow.domain false w args ∧ laidMetH Tryd.prog Rows.manifestNeedsRow.laid w) ∧ sizedMet enc Tryd.prog Tryd.f16 (OpenSpec.ofChange Rows.manifestNeedsSpec) false w args) (Rows.manifestNeedsSpec.post enc Tryd.prog Tryd.f16 false true false false) := by
  refine returnsInHanded_of_change_and (C := Tryd.checked) (X := fun w _ => laidMetH Tryd.prog Rows.manifestNeedsRow.laid w) (fun _ _ _ hh h => h.of_heap hh) own_ started (by kernel_rfl) Tryd.func16
    (ChangeSpec.witness_shaped (enc := enc) (C := Tryd.checked) (os := os) (X := fun w _ => laidMetH Tryd.prog Rows.manifestNeedsRow.laid w) false (World.laidAll Tryd.prog os Rows.manifestNeedsRow.laid) #[.agg (.int .u64 0 :: (List.replicate 16 (Value.int .u32 0) ++ [.int .u32 0, .slice none 0 0, .int .u32 0])).toArray, .slice none 0 0] 8 (World.laidAll_os _ _ _)
      (World.shaped_of_ZipB (by kernel_rfl) (by kernel_rfl)) (by kernel_rfl) (by kernel_rfl) (by kernel_rfl)
      (by rw [MakeChecks.laidMetH_plain _ _ _ (by kernel_rfl)]; exact laidMet_laidAll _ (by kernel_rfl) (by kernel_rfl))) ?_
  intro W base args ds gs before hval0 hW hcnd _ hLd _
  have hval : ∀ (j : Nat) t v, Tryd.f16.params[j]? = some t → args[j]? = some v → Value.okWide Tryd.prog W .any base t v := hval0
  have hT : Half (full W) ∧ Pow (full W) := tabs_of (by kernel_rfl) (by rfl) hLd
  have hW' := hW
  obtain ⟨p, q, hA0, -, -, -, -⟩ := hW'
  have hA : DataW.TrodAll enc Tryd.prog W 0 (fun _ => true) true Tryd.f16.params.toList args.toList ds p := hA0
  rw [Tryd.params16] at hA hval
  obtain ⟨v0, v1, d0, d1, p0, p1, rfl, rfl, rfl, h0, h1⟩ := trodAll_two hA
  obtain ⟨m, ma, e0, mr⟩ := man_of (Td.of h0)
  obtain rfl := val_ofA e0 (okWide_struct Tryd.underlying93 (hval 0 _ v0 rfl rfl))
  obtain ⟨namesa, namesc, names, e1, namesr⟩ := strs_of (Td.of h1)
  obtain rfl := val_of1 e1 (okWide_slice Tryd.underlying107 (hval 1 _ v1 rfl rfl))
  refine (law_ManifestNeeds m ma namesa namesc names W hT.1 hT.2 mr namesr).mono fun e W' ⟨v, he, hv, hE⟩ => ⟨v, he, ?_⟩
  subst hv
  exact law_post rfl hW hE rfl (by kernel_rfl) Tryd.underlying4 laid_ (by kernel_rfl)
theorem manifestNeeds_said : Rows.ManifestNeedsSaid :=
  OpenClaim.holds_of_wide 16 Tryd.f16 rfl rfl rfl rfl rfl rfl rfl ⟨rfl, rfl, rfl, rfl, rfl⟩ rfl rfl rfl rfl rfl (by kernel_rfl) Tryd.func16 (by kernel_rfl)
    (of_decide_eq_true (by kernel_rfl)) (by unfold Func.isWrapper; first | (rw [if_pos (by decide +kernel)]; kernel_rfl) | (rw [if_neg (by decide +kernel)]; exact ⟨rfl, rfl⟩))
    (fun os started H enc _ => manifestNeeds_lifted os started H enc)
theorem manifestNeeds_holds : Rows.ManifestNeedsCardSaid :=
  Claim7.holds_tied_plain_at .later [] [.data, .data, .data, .data] true (true, "9bdefd4ab56ad6846b860e456533c8c9234d832d0db0c11e5e7191fbced85786") false manifestNeeds_said (fun _ h => by cases h) (by kernel_rfl) (fun _ h => by cases h) manifestNeeds_row_tie rfl ⟨rfl, rfl⟩ (by kernel_rfl) rfl
    (fun f fn hf hfn => by
      obtain rfl : f = 16 := Option.some.inj ((show Tryd.prog.funcNamed "trug/truglaw16.ManifestNeeds" = some 16 by kernel_rfl).symm.trans hf) |>.symm
      obtain rfl : fn = Tryd.f16 := (Option.some.inj (Tryd.func16.symm.trans hfn)).symm
      exact ⟨by kernel_rfl, fun j t ht => by
        have hm : t ∈ Tryd.f16.params.toList := by simpa using Array.mem_of_getElem? ht
        have hall : (Tryd.f16.params.toList.all fun u => !Tryd.prog.wantsStandIn u) = true := by kernel_rfl
        exact (show Tryd.prog.wantsStandIn t = false by simpa using List.all_eq_true.1 hall t hm)⟩)
    (by kernel_rfl)
end Go.Proofs.YtajfhoeejeadkaaDoor

