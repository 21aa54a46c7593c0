/- Contracts of Go functions that the laws reach: what each call answers and leaves in memory, for all arguments within the bounds that each theorem names. -/
import Derived.Test.YtbfilhaigbebpaaInst
import Derived.Test.YtbfilhaigbebpaaAuto
import Derived.Test.YtbfilhaigbebpaaXA
import Derived.Test.YtbfilhaigbebpaaCpyN
set_option linter.unusedVariables false
set_option linter.unusedSimpArgs false
set_option maxRecDepth 100000
set_option maxHeartbeats 4000000
namespace Go.Tg
open Go Go.Proofs
abbrev insA_K (a : Option Addr) (c : Nat) (xs : List KeyT) (b9 : Nat) (x : KeyT) : HA := .both (ownR (.slice a xs.length c) 42 3 (xs.map cKey)) (ownR (.slice (some ⟨b9, 0, none⟩) 1 1) 42 3 [cKey x])
theorem ovl_K (g b9 i la ca lb cb : Nat) (w : World) (cur c9 : List Value) (hne : b9 ≠ g) (h1 : w.heap[b9]? = some (.cells c9.toArray 42 (0, 0))) (h2 : w.heap[g]? = some (.cells cur.toArray 42 (0, 0))) (hc : cur.length ≠ 0) :
    (callFunc 56 #[.slice (some ⟨b9, 0, none⟩) la ca, .slice (some ⟨g, i, none⟩) lb cb]).run Try.prog w = .ok (.value (.bool false)) w := by
  rw [run_callFunc_extern Try.func56 (by kernel_rfl) (by kernel_rfl) (by kernel_rfl) (e := Extern.SlicesOverlaps.overlaps #[81, 81] #[4]) (by kernel_rfl)]
  rw [Lib.run_overlaps_apart w 81 4 42 Try.underlying81 3 Ty.run_size ⟨b9, 0, none⟩ ⟨g, i, none⟩ la ca lb cb hne 42 42 c9.length cur.length (by simp [World.shape?, h1]) (by simp [World.shape?, h2]) hc (frozen_of_row w b9 0 _ _ h1) (frozen_of_row w b9 c9.length _ _ h1)]
  rfl
theorem ins_K (a : Option Addr) (c : Nat) (xs : List KeyT) (i : Nat) (hi : i ≤ xs.length) (b9 : Nat) (x : KeyT) (hb : xs.length ≤ 1000000) (g : FH) (w : World)
    (HO : St w (insA_K a c xs b9 x).fp g g [insA_K a c xs b9 x] w) :
    Spec Try.prog 40 #[.slice a xs.length c, .int .i64 i, .slice (some ⟨b9, 0, none⟩) 1 1] w (insA_K a c xs b9 x).fp g (fun v' h' L' => h' = g ∧ ∃ a' c', v' = .slice a' (xs.take i ++ x :: xs.drop i).length c' ∧ L' = [ownR (.slice a' (xs.take i ++ x :: xs.drop i).length c') 42 3 ((xs.take i ++ x :: xs.drop i).map cKey)]) := by
  have hf : ∀ x : KeyT, (cKey x).length = 3 := fun x => cKey_len _
  have hone := ones_key xs
  have hone1 : ∀ v ∈ cKey x, v.oneCell' = true := by
    have := ones_key [x]
    simpa using this
  have hxl := hf x
  have hfl := fl_len hf xs
  have hft := fl_take hf xs i
  have hfd := fl_drop hf xs i
  have hEl : (xs.take i ++ x :: xs.drop i).length = xs.length + 1 := by simp only [List.length_append, List.length_take, List.length_cons, List.length_drop]; omega
  have hE : ((xs.take i ++ x :: xs.drop i).map cKey).flatten = (xs.map cKey).flatten.take (i * 3) ++ (cKey x ++ (xs.map cKey).flatten.drop (i * 3)) := by
    rw [hft, hfd, List.map_append, List.map_cons, List.flatten_append, List.flatten_cons]
  have hER : ownR (.slice none 0 0) 42 3 [cKey x] = .own (.slice none 0 0) 42 3 1 (cKey x) := by show HA.own _ _ _ _ _ = _; rw [List.flatten_singleton]; rfl
  clear hft hfd
  unfold insA_K ownR at *
  rw [List.length_map] at *
  rw [List.flatten_singleton] at *
  simp only [List.length_map, List.length_singleton] at *
  rw [hEl, hE]
  generalize (xs.map cKey).flatten = fl at *
  generalize cKey x = y at *
  have H := HO.split
  have hmx := own_mx H (i := 0) rfl
  have h9 : (maxLen : Nat) ≤ 9223372036854775807 := by decide
  generalize hF9 : (HA.both (HA.own (.slice a xs.length c) 42 3 xs.length fl) (HA.own (.slice (some ⟨b9, 0, none⟩) 1 1) 42 3 1 y)).fp = F9 at H ⊢
  unfold Spec
  refine calls_of Try.func40 rfl Try.ntmps40 (by simp) ?_
  by_cases hin : i = xs.length
  · subst hin
    have htk : fl.take (xs.length * 3) = fl := List.take_of_length_le (by omega)
    have hdk : fl.drop (xs.length * 3) = [] := List.drop_eq_nil_of_le (by omega)
    repeat' (first | ((first | refine WL.p rfl ?_ | refine WL.u ?_); first | (refine opk 1 rfl ?_; (refine ost_append (i := 0) (news := y) H rfl rfl rfl rfl (by rfl) (by decide) (H.ownRdC (i := 1) rfl) (by omega) (fun h => by cases h) hone1 (by omega) (by simp only [maxLen]; omega) ?_; clear H; intro aa ca wk H; simp only [List.set_cons_zero] at H)) | refine pvQ ?_ | (refine opk 3 rfl ?_; (refine ost_cmp rfl rfl rfl rfl (fun hc => ?_) (fun hc => ?_) <;> (simp only [cmpP] at hc; try exact prIQ))) | (refine opk 4 rfl ?_; (refine ost_cmp rfl rfl rfl rfl (fun hc => ?_) (fun hc => ?_) <;> (simp only [cmpP] at hc; try exact prIQ)))) | refine Wc.seq ?_ | refine then_n ?_ | refine WL.nil ?_ | refine Wc.region ?_ | refine Wc.block ?_ | refine then_r ?_ | refine then_e ?_ | refine inb_e rfl ?_ | refine inb_o rfl ?_ | refine inb_n ?_ | refine inb_r ?_ | refine Wc.skip ?_ | refine Wc.exit ?_ | refine Wc.ret ?_ | refine Wc.cond_true rfl ?_ | refine Wc.cond_false rfl ?_ | (refine Wc.drawn (id := 11) 8 (by kernel_rfl) ?_) | (refine Wc.drawn (id := 15) 8 (by kernel_rfl) ?_) | (refine rgs_nil ?_; intro vs wk hE; replace H := H.ext hE; clear hE) | (refine RGs.bq (fun _ => rfl) rfl (by intro vs w hE hP; have H := H.ext hE; first | exact dbQ | fail) (fun hc => ?_) (fun hc => ?_) <;> ((try simp only [cmpP, decide_eq_true_eq, decide_eq_false_iff_not, dcd_iff, dcd_no] at hc); try exact prDQ)) | refine RGs.pq (fun _ => rfl) rfl (by intro vs w hE hP; have H := H.ext hE; first | exact dvQ | fail) ?_)
    rw [htk, hdk, List.append_nil]
    exact fn_ret1 (v := .slice _ _ _) rfl rfl ⟨_, _, H.pick 0 rfl, rfl, _, _, rfl, rfl⟩
  · obtain ⟨g0, cur, rfl, hnc, hcl, hct, H9⟩ := H.ownBlk (i := 0) rfl (by omega)
    clear H; have H := H9; clear H9
    obtain ⟨g9, c9, e9, -, hcl9, hct9, H9⟩ := H.ownBlk (i := 1) rfl (by omega)
    injection e9 with e9
    injection e9 with e9 _ _
    subst e9
    clear H; have H := H9; clear H9
    rw [Nat.one_mul] at hcl9 hct9
    simp only [List.set_cons_zero, List.set_cons_succ] at H
    have hne := H.blk_ne (i := 1) (j := 0) rfl rfl (by decide)
    obtain rfl : c9 = y := by
      rw [← hct9]; exact (List.take_of_length_le (by omega)).symm
    have hcell : ∀ j, j < xs.length * 3 → cur[j]? = fl[j]? := fun j hj => by
      have := congrArg (fun l => l[j]?) hct
      simp only [List.getElem?_take, if_pos hj] at this
      exact this
    have hc1 : ∀ j, j < (fl.drop (i * 3)).length → cur[i * 3 + j]? = (fl.drop (i * 3))[j]? := fun j hj => by
      rw [List.length_drop] at hj
      rw [List.getElem?_drop, hcell _ (by omega)]
    have hc2 : ∀ j, j < c9.length → c9[0 + j]? = c9[j]? := fun j _ => by rw [Nat.zero_add]
    have hti : cur.take (i * 3) = fl.take (i * 3) := by
      have := congrArg (List.take (i * 3)) hct
      rw [List.take_take, Nat.min_eq_left (by omega)] at this; exact this
    have hdl : (fl.drop (i * 3)).length = (xs.length - i) * 3 := by rw [List.length_drop]; omega
    have hit : (fl.take (i * 3)).length = i * 3 := by rw [List.length_take]; omega
    by_cases hroom : xs.length + 1 ≤ c
    · have hadr := adr_addN (c := c) (g := g0) (k := i + 1) (sz := 3) (q := (i : Int) + (1 : Nat)) (by omega) (by omega)
      have hadr2 := adr_addN (c := c) (g := g0) (k := i) (sz := 3) (q := (i : Int)) (by omega) (by omega)
      repeat' (first | ((first | refine WL.p rfl ?_ | refine WL.u ?_); first | refine pvQ ?_ | (refine opk 3 rfl ?_; (refine ost_cmp rfl rfl rfl rfl (fun hc => ?_) (fun hc => ?_) <;> (simp only [cmpP] at hc; try exact prIQ))) | (refine opk 4 rfl ?_; (refine ost_cmp rfl rfl rfl rfl (fun hc => ?_) (fun hc => ?_) <;> (simp only [cmpP] at hc; try exact prIQ)))) | refine Wc.seq ?_ | refine then_n ?_ | refine WL.nil ?_ | refine Wc.region ?_ | refine Wc.block ?_ | refine then_r ?_ | refine then_e ?_ | refine inb_e rfl ?_ | refine inb_o rfl ?_ | refine inb_n ?_ | refine inb_r ?_ | refine Wc.skip ?_ | refine Wc.exit ?_ | refine Wc.ret ?_ | refine Wc.cond_true rfl ?_ | refine Wc.cond_false rfl ?_ | (refine Wc.drawn (id := 11) 8 (by kernel_rfl) ?_) | (refine Wc.drawn (id := 15) 8 (by kernel_rfl) ?_) | (refine rgs_nil ?_; intro vs wk hE; replace H := H.ext hE; clear hE) | (refine RGs.bq (fun _ => rfl) rfl (by intro vs w hE hP; have H := H.ext hE; first | exact dbQ | fail) (fun hc => ?_) (fun hc => ?_) <;> ((try simp only [cmpP, decide_eq_true_eq, decide_eq_false_iff_not, dcd_iff, dcd_no] at hc); try exact prDQ)) | refine RGs.pq (fun _ => rfl) rfl (by intro vs w hE hP; have H := H.ext hE; first | exact dvQ | fail) ?_)
      rw [hadr]
      have hov := fun n9 c8 => ovl_K g0 b9 ((i + 1) * 3) 1 1 n9 c8 w cur c9 hne (H.blk (i := 1) rfl) (H.blk (i := 0) rfl) (by omega)
      repeat' (first | ((first | refine WL.p rfl ?_ | refine WL.u ?_); first | (refine opk 1 rfl ?_; first | (refine ost_ext rfl (hov _ _) rfl ?_) | (refine ost_copyN (g := g0) (off := (i + 1) * 3) (cs := fl.drop (i * 3)) H rfl rfl hadr rfl hadr2 (by (exact ixQ)) (by rw [hdl]; omega) (cell_in H.bI hc1) (by rw [hdl]; omega) (fun v hv => hone v (List.mem_of_mem_drop hv)) ?_; clear H; intro wk H; simp only [List.set_cons_zero, List.set_cons_succ] at H) | (refine ost_copyN (g := g0) (off := i * 3) (cs := c9) H rfl rfl hadr2 rfl rfl (by (exact ixQ)) (by omega) (cell_in (off := 0) (H.blk (i := 1) rfl) hc2) (by simp only [List.length_append, List.length_take, hdl, List.length_drop]; omega) hone1 ?_; clear H; intro wk H; simp only [List.set_cons_zero, List.set_cons_succ] at H)) | refine pvQ ?_ | (refine opk 3 rfl ?_; (refine ost_cmp rfl rfl rfl rfl (fun hc => ?_) (fun hc => ?_) <;> (simp only [cmpP] at hc; try exact prIQ))) | (refine opk 4 rfl ?_; (refine ost_cmp rfl rfl rfl rfl (fun hc => ?_) (fun hc => ?_) <;> (simp only [cmpP] at hc; try exact prIQ)))) | refine Wc.seq ?_ | refine then_n ?_ | refine WL.nil ?_ | refine Wc.region ?_ | refine Wc.block ?_ | refine then_r ?_ | refine then_e ?_ | refine inb_e rfl ?_ | refine inb_o rfl ?_ | refine inb_n ?_ | refine inb_r ?_ | refine Wc.skip ?_ | refine Wc.exit ?_ | refine Wc.ret ?_ | refine Wc.cond_true rfl ?_ | refine Wc.cond_false rfl ?_ | (refine Wc.drawn (id := 11) 8 (by kernel_rfl) ?_) | (refine Wc.drawn (id := 15) 8 (by kernel_rfl) ?_) | (refine rgs_nil ?_; intro vs wk hE; replace H := H.ext hE; clear hE) | (refine RGs.bq (fun _ => rfl) rfl (by intro vs w hE hP; have H := H.ext hE; first | exact dbQ | fail) (fun hc => ?_) (fun hc => ?_) <;> ((try simp only [cmpP, decide_eq_true_eq, decide_eq_false_iff_not, dcd_iff, dcd_no] at hc); try exact prDQ)) | refine RGs.pq (fun _ => rfl) rfl (by intro vs w hE hP; have H := H.ext hE; first | exact dvQ | fail) ?_)
      have e1 : (cur.take ((i + 1) * 3)).length = (i + 1) * 3 := by rw [List.length_take]; omega
      have hA : (cur.take ((i + 1) * 3) ++ fl.drop (i * 3) ++ cur.drop ((i + 1) * 3 + (fl.drop (i * 3)).length)).take (i * 3) = fl.take (i * 3) := by
        rw [List.append_assoc, List.take_append_of_le_length (by omega), List.take_take, Nat.min_eq_left (by omega), hti]
      have hB : (cur.take ((i + 1) * 3) ++ fl.drop (i * 3) ++ cur.drop ((i + 1) * 3 + (fl.drop (i * 3)).length)).drop (i * 3 + c9.length) = fl.drop (i * 3) ++ cur.drop ((i + 1) * 3 + (fl.drop (i * 3)).length) := by
        rw [List.append_assoc]; exact List.drop_left' (by omega)
      rw [hA, hB] at H
      have hl8 : (fl.take (i * 3) ++ c9 ++ (fl.drop (i * 3) ++ cur.drop ((i + 1) * 3 + (fl.drop (i * 3)).length))).length = c * 3 := by
        simp only [List.length_append, hit, hdl, List.length_drop]; omega
      have H2 := H.blkOwnN (i := 0) rfl hl8 (n := xs.length + 1) (by omega) hmx.2
      have hE9 : (fl.take (i * 3) ++ c9 ++ (fl.drop (i * 3) ++ cur.drop ((i + 1) * 3 + (fl.drop (i * 3)).length))).take ((xs.length + 1) * 3) = fl.take (i * 3) ++ (c9 ++ fl.drop (i * 3)) := by
        rw [show fl.take (i * 3) ++ c9 ++ (fl.drop (i * 3) ++ cur.drop ((i + 1) * 3 + (fl.drop (i * 3)).length)) = (fl.take (i * 3) ++ (c9 ++ fl.drop (i * 3))) ++ cur.drop ((i + 1) * 3 + (fl.drop (i * 3)).length) by simp]
        exact List.take_left' (by simp only [List.length_append, hit, hdl]; omega)
      rw [hE9] at H2
      rw [show ((xs.length : Int) + (1 : Nat)).toNat = xs.length + 1 by omega]
      exact fn_ret1 (v := .slice _ _ _) rfl rfl ⟨_, _, H2.pick 0 rfl, rfl, _, _, rfl, rfl⟩
    · have hadr2 := adr_addN (c := c) (g := g0) (k := i) (sz := 3) (q := (i : Int)) (by omega) (by omega)
      have hold : ∀ w', w'.heap[g0]? = some (.cells cur.toArray 42 (0, 0)) → RdC (full w') (some ⟨g0, 0, none⟩) (fl.take (i * 3)) := fun w' hw => .inr ⟨g0, 0, cur, _, _, rfl, hw, by rw [List.drop_zero, hit]; exact hti⟩
      repeat' (first | ((first | refine WL.p rfl ?_ | refine WL.u ?_); first | (refine opk 1 rfl ?_; (refine ost_appGZN (sz := 3) (n := xs.length + 1 - i) (olds := fl.take (i * 3)) H rfl rfl rfl (by omega) rfl (by decide) (hold _ H.bI) hit (by omega) (by omega) (by omega) (by omega) ?_; clear H; intro b8 c8 wk zs hge8 hgm8 hzs H)) | refine pvQ ?_ | (refine opk 3 rfl ?_; (refine ost_cmp rfl rfl rfl rfl (fun hc => ?_) (fun hc => ?_) <;> (simp only [cmpP] at hc; try exact prIQ))) | (refine opk 4 rfl ?_; (refine ost_cmp rfl rfl rfl rfl (fun hc => ?_) (fun hc => ?_) <;> (simp only [cmpP] at hc; try exact prIQ)))) | refine Wc.seq ?_ | refine then_n ?_ | refine WL.nil ?_ | refine Wc.region ?_ | refine Wc.block ?_ | refine then_r ?_ | refine then_e ?_ | refine inb_e rfl ?_ | refine inb_o rfl ?_ | refine inb_n ?_ | refine inb_r ?_ | refine Wc.skip ?_ | refine Wc.exit ?_ | refine Wc.ret ?_ | refine Wc.cond_true rfl ?_ | refine Wc.cond_false rfl ?_ | (refine Wc.drawn (id := 11) 8 (by kernel_rfl) ?_) | (refine Wc.drawn (id := 15) 8 (by kernel_rfl) ?_) | (refine rgs_nil ?_; intro vs wk hE; replace H := H.ext hE; clear hE) | (refine RGs.bq (fun _ => rfl) rfl (by intro vs w hE hP; have H := H.ext hE; first | exact dbQ | fail) (fun hc => ?_) (fun hc => ?_) <;> ((try simp only [cmpP, decide_eq_true_eq, decide_eq_false_iff_not, dcd_iff, dcd_no] at hc); try exact prDQ)) | refine RGs.pq (fun _ => rfl) rfl (by intro vs w hE hP; have H := H.ext hE; first | exact dvQ | fail) ?_)
      have e7 : (i : Int).toNat + (xs.length + 1 - i) = xs.length + 1 := by omega
      rw [e7] at hge8 ⊢
      rw [show (i : Int).toNat = i from rfl] at hzs
      have hRl : (fl.take (i * 3) ++ zs).length = c8 * 3 := by
        simp only [List.length_append, hit, hzs]; omega
      have hRi : (fl.take (i * 3) ++ zs).take (i * 3) = fl.take (i * 3) := List.take_left' hit
      generalize fl.take (i * 3) ++ zs = R at H hRl hRi
      have hadr3 := adr_addN (c := c8) (g := b8) (k := i) (sz := 3) (q := (i : Int)) (by omega) (by omega)
      by_cases hc8 : c8 = i + 1
      · exfalso; omega
      have hadr4 := adr_addN (c := c8) (g := b8) (k := i + 1) (sz := 3) (q := (i : Int) + (1 : Nat)) (by omega) hc8
      repeat' (first | ((first | refine WL.p rfl ?_ | refine WL.u ?_); first | (refine opk 1 rfl ?_; first | (refine ost_copyN (g := b8) (off := i * 3) (cs := c9) H rfl rfl hadr3 rfl rfl (by (exact ixQ)) (by omega) (cell_in (off := 0) (H.blk (i := 2) rfl) hc2) (by omega) hone1 ?_; clear H; intro wk H; simp only [List.set_cons_zero, List.set_cons_succ] at H) | (refine ost_copyN (g := b8) (off := (i + 1) * 3) (cs := fl.drop (i * 3)) H rfl rfl hadr4 rfl hadr2 (by (exact ixQ)) (by rw [hdl]; omega) (cell_in (H.blk (i := 1) rfl) hc1) (by simp only [List.length_append, List.length_take, List.length_drop]; omega) (fun v hv => hone v (List.mem_of_mem_drop hv)) ?_; clear H; intro wk H; simp only [List.set_cons_zero, List.set_cons_succ] at H)) | refine pvQ ?_ | (refine opk 3 rfl ?_; (refine ost_cmp rfl rfl rfl rfl (fun hc => ?_) (fun hc => ?_) <;> (simp only [cmpP] at hc; try exact prIQ))) | (refine opk 4 rfl ?_; (refine ost_cmp rfl rfl rfl rfl (fun hc => ?_) (fun hc => ?_) <;> (simp only [cmpP] at hc; try exact prIQ)))) | refine Wc.seq ?_ | refine then_n ?_ | refine WL.nil ?_ | refine Wc.region ?_ | refine Wc.block ?_ | refine then_r ?_ | refine then_e ?_ | refine inb_e rfl ?_ | refine inb_o rfl ?_ | refine inb_n ?_ | refine inb_r ?_ | refine Wc.skip ?_ | refine Wc.exit ?_ | refine Wc.ret ?_ | refine Wc.cond_true rfl ?_ | refine Wc.cond_false rfl ?_ | (refine Wc.drawn (id := 11) 8 (by kernel_rfl) ?_) | (refine Wc.drawn (id := 15) 8 (by kernel_rfl) ?_) | (refine rgs_nil ?_; intro vs wk hE; replace H := H.ext hE; clear hE) | (refine RGs.bq (fun _ => rfl) rfl (by intro vs w hE hP; have H := H.ext hE; first | exact dbQ | fail) (fun hc => ?_) (fun hc => ?_) <;> ((try simp only [cmpP, decide_eq_true_eq, decide_eq_false_iff_not, dcd_iff, dcd_no] at hc); try exact prDQ)) | refine RGs.pq (fun _ => rfl) rfl (by intro vs w hE hP; have H := H.ext hE; first | exact dvQ | fail) ?_)
      rw [hRi] at H
      have e1 : (fl.take (i * 3) ++ c9).length = (i + 1) * 3 := by simp only [List.length_append, hit]; omega
      have hA : (fl.take (i * 3) ++ c9 ++ R.drop (i * 3 + c9.length)).take ((i + 1) * 3) = fl.take (i * 3) ++ c9 := List.take_left' e1
      rw [hA] at H
      generalize hD : (fl.take (i * 3) ++ c9 ++ R.drop (i * 3 + c9.length)).drop ((i + 1) * 3 + (fl.drop (i * 3)).length) = D at H
      have hDl : D.length = (c8 - (xs.length + 1)) * 3 := by
        rw [← hD]
        simp only [List.length_append, List.length_drop, hit]; omega
      have hl8 : (fl.take (i * 3) ++ c9 ++ fl.drop (i * 3) ++ D).length = c8 * 3 := by
        simp only [List.length_append, hit, hdl]; omega
      have H2 := H.blkOwnN (i := 0) rfl hl8 (n := xs.length + 1) (by omega) hgm8
      have hE9 : (fl.take (i * 3) ++ c9 ++ fl.drop (i * 3) ++ D).take ((xs.length + 1) * 3) = fl.take (i * 3) ++ (c9 ++ fl.drop (i * 3)) := by
        rw [show fl.take (i * 3) ++ c9 ++ fl.drop (i * 3) ++ D = (fl.take (i * 3) ++ (c9 ++ fl.drop (i * 3))) ++ D by simp]
        exact List.take_left' (by simp only [List.length_append, hit, hdl]; omega)
      rw [hE9] at H2
      exact fn_ret1 (v := .slice _ _ _) rfl rfl ⟨_, _, H2.pick 0 rfl, rfl, _, _, rfl, rfl⟩
abbrev insA_L (a : Option Addr) (c : Nat) (xs : List LocT) (b9 : Nat) (x : LocT) : HA := .both (ownR (.slice a xs.length c) 48 2 (xs.map cLoc)) (ownR (.slice (some ⟨b9, 0, none⟩) 1 1) 48 2 [cLoc x])
theorem ovl_L (g b9 i la ca lb cb : Nat) (w : World) (cur c9 : List Value) (hne : b9 ≠ g) (h1 : w.heap[b9]? = some (.cells c9.toArray 48 (0, 0))) (h2 : w.heap[g]? = some (.cells cur.toArray 48 (0, 0))) (hc : cur.length ≠ 0) :
    (callFunc 58 #[.slice (some ⟨b9, 0, none⟩) la ca, .slice (some ⟨g, i, none⟩) lb cb]).run Try.prog w = .ok (.value (.bool false)) w := by
  rw [run_callFunc_extern Try.func58 (by kernel_rfl) (by kernel_rfl) (by kernel_rfl) (e := Extern.SlicesOverlaps.overlaps #[82, 82] #[4]) (by kernel_rfl)]
  rw [Lib.run_overlaps_apart w 82 4 48 Try.underlying82 2 Ty.run_size ⟨b9, 0, none⟩ ⟨g, i, none⟩ la ca lb cb hne 48 48 c9.length cur.length (by simp [World.shape?, h1]) (by simp [World.shape?, h2]) hc (frozen_of_row w b9 0 _ _ h1) (frozen_of_row w b9 c9.length _ _ h1)]
  rfl
theorem ins_L (a : Option Addr) (c : Nat) (xs : List LocT) (i : Nat) (hi : i ≤ xs.length) (b9 : Nat) (x : LocT) (hb : xs.length ≤ 1000000) (g : FH) (w : World)
    (HO : St w (insA_L a c xs b9 x).fp g g [insA_L a c xs b9 x] w) :
    Spec Try.prog 41 #[.slice a xs.length c, .int .i64 i, .slice (some ⟨b9, 0, none⟩) 1 1] w (insA_L a c xs b9 x).fp g (fun v' h' L' => h' = g ∧ ∃ a' c', v' = .slice a' (xs.take i ++ x :: xs.drop i).length c' ∧ L' = [ownR (.slice a' (xs.take i ++ x :: xs.drop i).length c') 48 2 ((xs.take i ++ x :: xs.drop i).map cLoc)]) := by
  have hf : ∀ x : LocT, (cLoc x).length = 2 := fun x => cLoc_len _
  have hone := ones_loc xs
  have hone1 : ∀ v ∈ cLoc x, v.oneCell' = true := by
    have := ones_loc [x]
    simpa using this
  have hxl := hf x
  have hfl := fl_len hf xs
  have hft := fl_take hf xs i
  have hfd := fl_drop hf xs i
  have hEl : (xs.take i ++ x :: xs.drop i).length = xs.length + 1 := by simp only [List.length_append, List.length_take, List.length_cons, List.length_drop]; omega
  have hE : ((xs.take i ++ x :: xs.drop i).map cLoc).flatten = (xs.map cLoc).flatten.take (i * 2) ++ (cLoc x ++ (xs.map cLoc).flatten.drop (i * 2)) := by
    rw [hft, hfd, List.map_append, List.map_cons, List.flatten_append, List.flatten_cons]
  have hER : ownR (.slice none 0 0) 48 2 [cLoc x] = .own (.slice none 0 0) 48 2 1 (cLoc x) := by show HA.own _ _ _ _ _ = _; rw [List.flatten_singleton]; rfl
  clear hft hfd
  unfold insA_L ownR at *
  rw [List.length_map] at *
  rw [List.flatten_singleton] at *
  simp only [List.length_map, List.length_singleton] at *
  rw [hEl, hE]
  generalize (xs.map cLoc).flatten = fl at *
  generalize cLoc x = y at *
  have H := HO.split
  have hmx := own_mx H (i := 0) rfl
  have h9 : (maxLen : Nat) ≤ 9223372036854775807 := by decide
  generalize hF9 : (HA.both (HA.own (.slice a xs.length c) 48 2 xs.length fl) (HA.own (.slice (some ⟨b9, 0, none⟩) 1 1) 48 2 1 y)).fp = F9 at H ⊢
  unfold Spec
  refine calls_of Try.func41 rfl Try.ntmps41 (by simp) ?_
  by_cases hin : i = xs.length
  · subst hin
    have htk : fl.take (xs.length * 2) = fl := List.take_of_length_le (by omega)
    have hdk : fl.drop (xs.length * 2) = [] := List.drop_eq_nil_of_le (by omega)
    repeat' (first | ((first | refine WL.p rfl ?_ | refine WL.u ?_); first | (refine opk 1 rfl ?_; (refine ost_append (i := 0) (news := y) H rfl rfl rfl rfl (by rfl) (by decide) (H.ownRdC (i := 1) rfl) (by omega) (fun h => by cases h) hone1 (by omega) (by simp only [maxLen]; omega) ?_; clear H; intro aa ca wk H; simp only [List.set_cons_zero] at H)) | refine pvQ ?_ | (refine opk 3 rfl ?_; (refine ost_cmp rfl rfl rfl rfl (fun hc => ?_) (fun hc => ?_) <;> (simp only [cmpP] at hc; try exact prIQ))) | (refine opk 4 rfl ?_; (refine ost_cmp rfl rfl rfl rfl (fun hc => ?_) (fun hc => ?_) <;> (simp only [cmpP] at hc; try exact prIQ)))) | refine Wc.seq ?_ | refine then_n ?_ | refine WL.nil ?_ | refine Wc.region ?_ | refine Wc.block ?_ | refine then_r ?_ | refine then_e ?_ | refine inb_e rfl ?_ | refine inb_o rfl ?_ | refine inb_n ?_ | refine inb_r ?_ | refine Wc.skip ?_ | refine Wc.exit ?_ | refine Wc.ret ?_ | refine Wc.cond_true rfl ?_ | refine Wc.cond_false rfl ?_ | (refine Wc.drawn (id := 11) 8 (by kernel_rfl) ?_) | (refine Wc.drawn (id := 15) 8 (by kernel_rfl) ?_) | (refine rgs_nil ?_; intro vs wk hE; replace H := H.ext hE; clear hE) | (refine RGs.bq (fun _ => rfl) rfl (by intro vs w hE hP; have H := H.ext hE; first | exact dbQ | fail) (fun hc => ?_) (fun hc => ?_) <;> ((try simp only [cmpP, decide_eq_true_eq, decide_eq_false_iff_not, dcd_iff, dcd_no] at hc); try exact prDQ)) | refine RGs.pq (fun _ => rfl) rfl (by intro vs w hE hP; have H := H.ext hE; first | exact dvQ | fail) ?_)
    rw [htk, hdk, List.append_nil]
    exact fn_ret1 (v := .slice _ _ _) rfl rfl ⟨_, _, H.pick 0 rfl, rfl, _, _, rfl, rfl⟩
  · obtain ⟨g0, cur, rfl, hnc, hcl, hct, H9⟩ := H.ownBlk (i := 0) rfl (by omega)
    clear H; have H := H9; clear H9
    obtain ⟨g9, c9, e9, -, hcl9, hct9, H9⟩ := H.ownBlk (i := 1) rfl (by omega)
    injection e9 with e9
    injection e9 with e9 _ _
    subst e9
    clear H; have H := H9; clear H9
    rw [Nat.one_mul] at hcl9 hct9
    simp only [List.set_cons_zero, List.set_cons_succ] at H
    have hne := H.blk_ne (i := 1) (j := 0) rfl rfl (by decide)
    obtain rfl : c9 = y := by
      rw [← hct9]; exact (List.take_of_length_le (by omega)).symm
    have hcell : ∀ j, j < xs.length * 2 → cur[j]? = fl[j]? := fun j hj => by
      have := congrArg (fun l => l[j]?) hct
      simp only [List.getElem?_take, if_pos hj] at this
      exact this
    have hc1 : ∀ j, j < (fl.drop (i * 2)).length → cur[i * 2 + j]? = (fl.drop (i * 2))[j]? := fun j hj => by
      rw [List.length_drop] at hj
      rw [List.getElem?_drop, hcell _ (by omega)]
    have hc2 : ∀ j, j < c9.length → c9[0 + j]? = c9[j]? := fun j _ => by rw [Nat.zero_add]
    have hti : cur.take (i * 2) = fl.take (i * 2) := by
      have := congrArg (List.take (i * 2)) hct
      rw [List.take_take, Nat.min_eq_left (by omega)] at this; exact this
    have hdl : (fl.drop (i * 2)).length = (xs.length - i) * 2 := by rw [List.length_drop]; omega
    have hit : (fl.take (i * 2)).length = i * 2 := by rw [List.length_take]; omega
    by_cases hroom : xs.length + 1 ≤ c
    · have hadr := adr_addN (c := c) (g := g0) (k := i + 1) (sz := 2) (q := (i : Int) + (1 : Nat)) (by omega) (by omega)
      have hadr2 := adr_addN (c := c) (g := g0) (k := i) (sz := 2) (q := (i : Int)) (by omega) (by omega)
      repeat' (first | ((first | refine WL.p rfl ?_ | refine WL.u ?_); first | refine pvQ ?_ | (refine opk 3 rfl ?_; (refine ost_cmp rfl rfl rfl rfl (fun hc => ?_) (fun hc => ?_) <;> (simp only [cmpP] at hc; try exact prIQ))) | (refine opk 4 rfl ?_; (refine ost_cmp rfl rfl rfl rfl (fun hc => ?_) (fun hc => ?_) <;> (simp only [cmpP] at hc; try exact prIQ)))) | refine Wc.seq ?_ | refine then_n ?_ | refine WL.nil ?_ | refine Wc.region ?_ | refine Wc.block ?_ | refine then_r ?_ | refine then_e ?_ | refine inb_e rfl ?_ | refine inb_o rfl ?_ | refine inb_n ?_ | refine inb_r ?_ | refine Wc.skip ?_ | refine Wc.exit ?_ | refine Wc.ret ?_ | refine Wc.cond_true rfl ?_ | refine Wc.cond_false rfl ?_ | (refine Wc.drawn (id := 11) 8 (by kernel_rfl) ?_) | (refine Wc.drawn (id := 15) 8 (by kernel_rfl) ?_) | (refine rgs_nil ?_; intro vs wk hE; replace H := H.ext hE; clear hE) | (refine RGs.bq (fun _ => rfl) rfl (by intro vs w hE hP; have H := H.ext hE; first | exact dbQ | fail) (fun hc => ?_) (fun hc => ?_) <;> ((try simp only [cmpP, decide_eq_true_eq, decide_eq_false_iff_not, dcd_iff, dcd_no] at hc); try exact prDQ)) | refine RGs.pq (fun _ => rfl) rfl (by intro vs w hE hP; have H := H.ext hE; first | exact dvQ | fail) ?_)
      rw [hadr]
      have hov := fun n9 c8 => ovl_L g0 b9 ((i + 1) * 2) 1 1 n9 c8 w cur c9 hne (H.blk (i := 1) rfl) (H.blk (i := 0) rfl) (by omega)
      repeat' (first | ((first | refine WL.p rfl ?_ | refine WL.u ?_); first | (refine opk 1 rfl ?_; first | (refine ost_ext rfl (hov _ _) rfl ?_) | (refine ost_copyN (g := g0) (off := (i + 1) * 2) (cs := fl.drop (i * 2)) H rfl rfl hadr rfl hadr2 (by (exact ixQ)) (by rw [hdl]; omega) (cell_in H.bI hc1) (by rw [hdl]; omega) (fun v hv => hone v (List.mem_of_mem_drop hv)) ?_; clear H; intro wk H; simp only [List.set_cons_zero, List.set_cons_succ] at H) | (refine ost_copyN (g := g0) (off := i * 2) (cs := c9) H rfl rfl hadr2 rfl rfl (by (exact ixQ)) (by omega) (cell_in (off := 0) (H.blk (i := 1) rfl) hc2) (by simp only [List.length_append, List.length_take, hdl, List.length_drop]; omega) hone1 ?_; clear H; intro wk H; simp only [List.set_cons_zero, List.set_cons_succ] at H)) | refine pvQ ?_ | (refine opk 3 rfl ?_; (refine ost_cmp rfl rfl rfl rfl (fun hc => ?_) (fun hc => ?_) <;> (simp only [cmpP] at hc; try exact prIQ))) | (refine opk 4 rfl ?_; (refine ost_cmp rfl rfl rfl rfl (fun hc => ?_) (fun hc => ?_) <;> (simp only [cmpP] at hc; try exact prIQ)))) | refine Wc.seq ?_ | refine then_n ?_ | refine WL.nil ?_ | refine Wc.region ?_ | refine Wc.block ?_ | refine then_r ?_ | refine then_e ?_ | refine inb_e rfl ?_ | refine inb_o rfl ?_ | refine inb_n ?_ | refine inb_r ?_ | refine Wc.skip ?_ | refine Wc.exit ?_ | refine Wc.ret ?_ | refine Wc.cond_true rfl ?_ | refine Wc.cond_false rfl ?_ | (refine Wc.drawn (id := 11) 8 (by kernel_rfl) ?_) | (refine Wc.drawn (id := 15) 8 (by kernel_rfl) ?_) | (refine rgs_nil ?_; intro vs wk hE; replace H := H.ext hE; clear hE) | (refine RGs.bq (fun _ => rfl) rfl (by intro vs w hE hP; have H := H.ext hE; first | exact dbQ | fail) (fun hc => ?_) (fun hc => ?_) <;> ((try simp only [cmpP, decide_eq_true_eq, decide_eq_false_iff_not, dcd_iff, dcd_no] at hc); try exact prDQ)) | refine RGs.pq (fun _ => rfl) rfl (by intro vs w hE hP; have H := H.ext hE; first | exact dvQ | fail) ?_)
      have e1 : (cur.take ((i + 1) * 2)).length = (i + 1) * 2 := by rw [List.length_take]; omega
      have hA : (cur.take ((i + 1) * 2) ++ fl.drop (i * 2) ++ cur.drop ((i + 1) * 2 + (fl.drop (i * 2)).length)).take (i * 2) = fl.take (i * 2) := by
        rw [List.append_assoc, List.take_append_of_le_length (by omega), List.take_take, Nat.min_eq_left (by omega), hti]
      have hB : (cur.take ((i + 1) * 2) ++ fl.drop (i * 2) ++ cur.drop ((i + 1) * 2 + (fl.drop (i * 2)).length)).drop (i * 2 + c9.length) = fl.drop (i * 2) ++ cur.drop ((i + 1) * 2 + (fl.drop (i * 2)).length) := by
        rw [List.append_assoc]; exact List.drop_left' (by omega)
      rw [hA, hB] at H
      have hl8 : (fl.take (i * 2) ++ c9 ++ (fl.drop (i * 2) ++ cur.drop ((i + 1) * 2 + (fl.drop (i * 2)).length))).length = c * 2 := by
        simp only [List.length_append, hit, hdl, List.length_drop]; omega
      have H2 := H.blkOwnN (i := 0) rfl hl8 (n := xs.length + 1) (by omega) hmx.2
      have hE9 : (fl.take (i * 2) ++ c9 ++ (fl.drop (i * 2) ++ cur.drop ((i + 1) * 2 + (fl.drop (i * 2)).length))).take ((xs.length + 1) * 2) = fl.take (i * 2) ++ (c9 ++ fl.drop (i * 2)) := by
        rw [show fl.take (i * 2) ++ c9 ++ (fl.drop (i * 2) ++ cur.drop ((i + 1) * 2 + (fl.drop (i * 2)).length)) = (fl.take (i * 2) ++ (c9 ++ fl.drop (i * 2))) ++ cur.drop ((i + 1) * 2 + (fl.drop (i * 2)).length) by simp]
        exact List.take_left' (by simp only [List.length_append, hit, hdl]; omega)
      rw [hE9] at H2
      rw [show ((xs.length : Int) + (1 : Nat)).toNat = xs.length + 1 by omega]
      exact fn_ret1 (v := .slice _ _ _) rfl rfl ⟨_, _, H2.pick 0 rfl, rfl, _, _, rfl, rfl⟩
    · have hadr2 := adr_addN (c := c) (g := g0) (k := i) (sz := 2) (q := (i : Int)) (by omega) (by omega)
      have hold : ∀ w', w'.heap[g0]? = some (.cells cur.toArray 48 (0, 0)) → RdC (full w') (some ⟨g0, 0, none⟩) (fl.take (i * 2)) := fun w' hw => .inr ⟨g0, 0, cur, _, _, rfl, hw, by rw [List.drop_zero, hit]; exact hti⟩
      repeat' (first | ((first | refine WL.p rfl ?_ | refine WL.u ?_); first | (refine opk 1 rfl ?_; (refine ost_appGZN (sz := 2) (n := xs.length + 1 - i) (olds := fl.take (i * 2)) H rfl rfl rfl (by omega) rfl (by decide) (hold _ H.bI) hit (by omega) (by omega) (by omega) (by omega) ?_; clear H; intro b8 c8 wk zs hge8 hgm8 hzs H)) | refine pvQ ?_ | (refine opk 3 rfl ?_; (refine ost_cmp rfl rfl rfl rfl (fun hc => ?_) (fun hc => ?_) <;> (simp only [cmpP] at hc; try exact prIQ))) | (refine opk 4 rfl ?_; (refine ost_cmp rfl rfl rfl rfl (fun hc => ?_) (fun hc => ?_) <;> (simp only [cmpP] at hc; try exact prIQ)))) | refine Wc.seq ?_ | refine then_n ?_ | refine WL.nil ?_ | refine Wc.region ?_ | refine Wc.block ?_ | refine then_r ?_ | refine then_e ?_ | refine inb_e rfl ?_ | refine inb_o rfl ?_ | refine inb_n ?_ | refine inb_r ?_ | refine Wc.skip ?_ | refine Wc.exit ?_ | refine Wc.ret ?_ | refine Wc.cond_true rfl ?_ | refine Wc.cond_false rfl ?_ | (refine Wc.drawn (id := 11) 8 (by kernel_rfl) ?_) | (refine Wc.drawn (id := 15) 8 (by kernel_rfl) ?_) | (refine rgs_nil ?_; intro vs wk hE; replace H := H.ext hE; clear hE) | (refine RGs.bq (fun _ => rfl) rfl (by intro vs w hE hP; have H := H.ext hE; first | exact dbQ | fail) (fun hc => ?_) (fun hc => ?_) <;> ((try simp only [cmpP, decide_eq_true_eq, decide_eq_false_iff_not, dcd_iff, dcd_no] at hc); try exact prDQ)) | refine RGs.pq (fun _ => rfl) rfl (by intro vs w hE hP; have H := H.ext hE; first | exact dvQ | fail) ?_)
      have e7 : (i : Int).toNat + (xs.length + 1 - i) = xs.length + 1 := by omega
      rw [e7] at hge8 ⊢
      rw [show (i : Int).toNat = i from rfl] at hzs
      have hRl : (fl.take (i * 2) ++ zs).length = c8 * 2 := by
        simp only [List.length_append, hit, hzs]; omega
      have hRi : (fl.take (i * 2) ++ zs).take (i * 2) = fl.take (i * 2) := List.take_left' hit
      generalize fl.take (i * 2) ++ zs = R at H hRl hRi
      have hadr3 := adr_addN (c := c8) (g := b8) (k := i) (sz := 2) (q := (i : Int)) (by omega) (by omega)
      by_cases hc8 : c8 = i + 1
      · exfalso; omega
      have hadr4 := adr_addN (c := c8) (g := b8) (k := i + 1) (sz := 2) (q := (i : Int) + (1 : Nat)) (by omega) hc8
      repeat' (first | ((first | refine WL.p rfl ?_ | refine WL.u ?_); first | (refine opk 1 rfl ?_; first | (refine ost_copyN (g := b8) (off := i * 2) (cs := c9) H rfl rfl hadr3 rfl rfl (by (exact ixQ)) (by omega) (cell_in (off := 0) (H.blk (i := 2) rfl) hc2) (by omega) hone1 ?_; clear H; intro wk H; simp only [List.set_cons_zero, List.set_cons_succ] at H) | (refine ost_copyN (g := b8) (off := (i + 1) * 2) (cs := fl.drop (i * 2)) H rfl rfl hadr4 rfl hadr2 (by (exact ixQ)) (by rw [hdl]; omega) (cell_in (H.blk (i := 1) rfl) hc1) (by simp only [List.length_append, List.length_take, List.length_drop]; omega) (fun v hv => hone v (List.mem_of_mem_drop hv)) ?_; clear H; intro wk H; simp only [List.set_cons_zero, List.set_cons_succ] at H)) | refine pvQ ?_ | (refine opk 3 rfl ?_; (refine ost_cmp rfl rfl rfl rfl (fun hc => ?_) (fun hc => ?_) <;> (simp only [cmpP] at hc; try exact prIQ))) | (refine opk 4 rfl ?_; (refine ost_cmp rfl rfl rfl rfl (fun hc => ?_) (fun hc => ?_) <;> (simp only [cmpP] at hc; try exact prIQ)))) | refine Wc.seq ?_ | refine then_n ?_ | refine WL.nil ?_ | refine Wc.region ?_ | refine Wc.block ?_ | refine then_r ?_ | refine then_e ?_ | refine inb_e rfl ?_ | refine inb_o rfl ?_ | refine inb_n ?_ | refine inb_r ?_ | refine Wc.skip ?_ | refine Wc.exit ?_ | refine Wc.ret ?_ | refine Wc.cond_true rfl ?_ | refine Wc.cond_false rfl ?_ | (refine Wc.drawn (id := 11) 8 (by kernel_rfl) ?_) | (refine Wc.drawn (id := 15) 8 (by kernel_rfl) ?_) | (refine rgs_nil ?_; intro vs wk hE; replace H := H.ext hE; clear hE) | (refine RGs.bq (fun _ => rfl) rfl (by intro vs w hE hP; have H := H.ext hE; first | exact dbQ | fail) (fun hc => ?_) (fun hc => ?_) <;> ((try simp only [cmpP, decide_eq_true_eq, decide_eq_false_iff_not, dcd_iff, dcd_no] at hc); try exact prDQ)) | refine RGs.pq (fun _ => rfl) rfl (by intro vs w hE hP; have H := H.ext hE; first | exact dvQ | fail) ?_)
      rw [hRi] at H
      have e1 : (fl.take (i * 2) ++ c9).length = (i + 1) * 2 := by simp only [List.length_append, hit]; omega
      have hA : (fl.take (i * 2) ++ c9 ++ R.drop (i * 2 + c9.length)).take ((i + 1) * 2) = fl.take (i * 2) ++ c9 := List.take_left' e1
      rw [hA] at H
      generalize hD : (fl.take (i * 2) ++ c9 ++ R.drop (i * 2 + c9.length)).drop ((i + 1) * 2 + (fl.drop (i * 2)).length) = D at H
      have hDl : D.length = (c8 - (xs.length + 1)) * 2 := by
        rw [← hD]
        simp only [List.length_append, List.length_drop, hit]; omega
      have hl8 : (fl.take (i * 2) ++ c9 ++ fl.drop (i * 2) ++ D).length = c8 * 2 := by
        simp only [List.length_append, hit, hdl]; omega
      have H2 := H.blkOwnN (i := 0) rfl hl8 (n := xs.length + 1) (by omega) hgm8
      have hE9 : (fl.take (i * 2) ++ c9 ++ fl.drop (i * 2) ++ D).take ((xs.length + 1) * 2) = fl.take (i * 2) ++ (c9 ++ fl.drop (i * 2)) := by
        rw [show fl.take (i * 2) ++ c9 ++ fl.drop (i * 2) ++ D = (fl.take (i * 2) ++ (c9 ++ fl.drop (i * 2))) ++ D by simp]
        exact List.take_left' (by simp only [List.length_append, hit, hdl]; omega)
      rw [hE9] at H2
      exact fn_ret1 (v := .slice _ _ _) rfl rfl ⟨_, _, H2.pick 0 rfl, rfl, _, _, rfl, rfl⟩
abbrev insA_D (a : Option Addr) (c : Nat) (xs : List UInt32) (b9 : Nat) (x : UInt32) : HA := .both (ownR (.slice a xs.length c) 24 1 (xs.map cKid)) (ownR (.slice (some ⟨b9, 0, none⟩) 1 1) 24 1 [cKid x])
theorem ovl_D (g b9 i la ca lb cb : Nat) (w : World) (cur c9 : List Value) (hne : b9 ≠ g) (h1 : w.heap[b9]? = some (.cells c9.toArray 24 (0, 0))) (h2 : w.heap[g]? = some (.cells cur.toArray 24 (0, 0))) (hc : cur.length ≠ 0) :
    (callFunc 75 #[.slice (some ⟨b9, 0, none⟩) la ca, .slice (some ⟨g, i, none⟩) lb cb]).run Try.prog w = .ok (.value (.bool false)) w := by
  rw [run_callFunc_extern Try.func75 (by kernel_rfl) (by kernel_rfl) (by kernel_rfl) (e := Extern.SlicesOverlaps.overlaps #[83, 83] #[4]) (by kernel_rfl)]
  rw [Lib.run_overlaps_apart w 83 4 24 Try.underlying83 1 Ty.run_size ⟨b9, 0, none⟩ ⟨g, i, none⟩ la ca lb cb hne 24 24 c9.length cur.length (by simp [World.shape?, h1]) (by simp [World.shape?, h2]) hc (frozen_of_row w b9 0 _ _ h1) (frozen_of_row w b9 c9.length _ _ h1)]
  rfl
theorem ins_D (a : Option Addr) (c : Nat) (xs : List UInt32) (i : Nat) (hi : i ≤ xs.length) (b9 : Nat) (x : UInt32) (hb : xs.length ≤ 1000000) (g : FH) (w : World)
    (HO : St w (insA_D a c xs b9 x).fp g g [insA_D a c xs b9 x] w) :
    Spec Try.prog 68 #[.slice a xs.length c, .int .i64 i, .slice (some ⟨b9, 0, none⟩) 1 1] w (insA_D a c xs b9 x).fp g (fun v' h' L' => h' = g ∧ ∃ a' c', v' = .slice a' (xs.take i ++ x :: xs.drop i).length c' ∧ L' = [ownR (.slice a' (xs.take i ++ x :: xs.drop i).length c') 24 1 ((xs.take i ++ x :: xs.drop i).map cKid)]) := by
  have hf : ∀ x : UInt32, (cKid x).length = 1 := fun x => rfl
  have hone := ones_kid xs
  have hone1 : ∀ v ∈ cKid x, v.oneCell' = true := by
    have := ones_kid [x]
    simpa using this
  have hxl := hf x
  have hfl := fl_len hf xs
  have hft := fl_take hf xs i
  have hfd := fl_drop hf xs i
  have hEl : (xs.take i ++ x :: xs.drop i).length = xs.length + 1 := by simp only [List.length_append, List.length_take, List.length_cons, List.length_drop]; omega
  have hE : ((xs.take i ++ x :: xs.drop i).map cKid).flatten = (xs.map cKid).flatten.take (i * 1) ++ (cKid x ++ (xs.map cKid).flatten.drop (i * 1)) := by
    rw [hft, hfd, List.map_append, List.map_cons, List.flatten_append, List.flatten_cons]
  have hER : ownR (.slice none 0 0) 24 1 [cKid x] = .own (.slice none 0 0) 24 1 1 (cKid x) := by show HA.own _ _ _ _ _ = _; rw [List.flatten_singleton]; rfl
  clear hft hfd
  unfold insA_D ownR at *
  rw [List.length_map] at *
  rw [List.flatten_singleton] at *
  simp only [List.length_map, List.length_singleton] at *
  rw [hEl, hE]
  generalize (xs.map cKid).flatten = fl at *
  generalize cKid x = y at *
  have H := HO.split
  have hmx := own_mx H (i := 0) rfl
  have h9 : (maxLen : Nat) ≤ 9223372036854775807 := by decide
  generalize hF9 : (HA.both (HA.own (.slice a xs.length c) 24 1 xs.length fl) (HA.own (.slice (some ⟨b9, 0, none⟩) 1 1) 24 1 1 y)).fp = F9 at H ⊢
  unfold Spec
  refine calls_of Try.func68 rfl Try.ntmps68 (by simp) ?_
  by_cases hin : i = xs.length
  · subst hin
    have htk : fl.take (xs.length * 1) = fl := List.take_of_length_le (by omega)
    have hdk : fl.drop (xs.length * 1) = [] := List.drop_eq_nil_of_le (by omega)
    repeat' (first | ((first | refine WL.p rfl ?_ | refine WL.u ?_); first | (refine opk 1 rfl ?_; (refine ost_append (i := 0) (news := y) H rfl rfl rfl rfl (by rfl) (by decide) (H.ownRdC (i := 1) rfl) (by omega) (fun h => by cases h) hone1 (by omega) (by simp only [maxLen]; omega) ?_; clear H; intro aa ca wk H; simp only [List.set_cons_zero] at H)) | refine pvQ ?_ | (refine opk 3 rfl ?_; (refine ost_cmp rfl rfl rfl rfl (fun hc => ?_) (fun hc => ?_) <;> (simp only [cmpP] at hc; try exact prIQ))) | (refine opk 4 rfl ?_; (refine ost_cmp rfl rfl rfl rfl (fun hc => ?_) (fun hc => ?_) <;> (simp only [cmpP] at hc; try exact prIQ)))) | refine Wc.seq ?_ | refine then_n ?_ | refine WL.nil ?_ | refine Wc.region ?_ | refine Wc.block ?_ | refine then_r ?_ | refine then_e ?_ | refine inb_e rfl ?_ | refine inb_o rfl ?_ | refine inb_n ?_ | refine inb_r ?_ | refine Wc.skip ?_ | refine Wc.exit ?_ | refine Wc.ret ?_ | refine Wc.cond_true rfl ?_ | refine Wc.cond_false rfl ?_ | (refine Wc.drawn (id := 11) 8 (by kernel_rfl) ?_) | (refine Wc.drawn (id := 15) 8 (by kernel_rfl) ?_) | (refine rgs_nil ?_; intro vs wk hE; replace H := H.ext hE; clear hE) | (refine RGs.bq (fun _ => rfl) rfl (by intro vs w hE hP; have H := H.ext hE; first | exact dbQ | fail) (fun hc => ?_) (fun hc => ?_) <;> ((try simp only [cmpP, decide_eq_true_eq, decide_eq_false_iff_not, dcd_iff, dcd_no] at hc); try exact prDQ)) | refine RGs.pq (fun _ => rfl) rfl (by intro vs w hE hP; have H := H.ext hE; first | exact dvQ | fail) ?_)
    rw [htk, hdk, List.append_nil]
    exact fn_ret1 (v := .slice _ _ _) rfl rfl ⟨_, _, H.pick 0 rfl, rfl, _, _, rfl, rfl⟩
  · obtain ⟨g0, cur, rfl, hnc, hcl, hct, H9⟩ := H.ownBlk (i := 0) rfl (by omega)
    clear H; have H := H9; clear H9
    obtain ⟨g9, c9, e9, -, hcl9, hct9, H9⟩ := H.ownBlk (i := 1) rfl (by omega)
    injection e9 with e9
    injection e9 with e9 _ _
    subst e9
    clear H; have H := H9; clear H9
    rw [Nat.one_mul] at hcl9 hct9
    simp only [List.set_cons_zero, List.set_cons_succ] at H
    have hne := H.blk_ne (i := 1) (j := 0) rfl rfl (by decide)
    obtain rfl : c9 = y := by
      rw [← hct9]; exact (List.take_of_length_le (by omega)).symm
    have hcell : ∀ j, j < xs.length * 1 → cur[j]? = fl[j]? := fun j hj => by
      have := congrArg (fun l => l[j]?) hct
      simp only [List.getElem?_take, if_pos hj] at this
      exact this
    have hc1 : ∀ j, j < (fl.drop (i * 1)).length → cur[i * 1 + j]? = (fl.drop (i * 1))[j]? := fun j hj => by
      rw [List.length_drop] at hj
      rw [List.getElem?_drop, hcell _ (by omega)]
    have hc2 : ∀ j, j < c9.length → c9[0 + j]? = c9[j]? := fun j _ => by rw [Nat.zero_add]
    have hti : cur.take (i * 1) = fl.take (i * 1) := by
      have := congrArg (List.take (i * 1)) hct
      rw [List.take_take, Nat.min_eq_left (by omega)] at this; exact this
    have hdl : (fl.drop (i * 1)).length = (xs.length - i) * 1 := by rw [List.length_drop]; omega
    have hit : (fl.take (i * 1)).length = i * 1 := by rw [List.length_take]; omega
    by_cases hroom : xs.length + 1 ≤ c
    · have hadr := adr_addN (c := c) (g := g0) (k := i + 1) (sz := 1) (q := (i : Int) + (1 : Nat)) (by omega) (by omega)
      have hadr2 := adr_addN (c := c) (g := g0) (k := i) (sz := 1) (q := (i : Int)) (by omega) (by omega)
      repeat' (first | ((first | refine WL.p rfl ?_ | refine WL.u ?_); first | refine pvQ ?_ | (refine opk 3 rfl ?_; (refine ost_cmp rfl rfl rfl rfl (fun hc => ?_) (fun hc => ?_) <;> (simp only [cmpP] at hc; try exact prIQ))) | (refine opk 4 rfl ?_; (refine ost_cmp rfl rfl rfl rfl (fun hc => ?_) (fun hc => ?_) <;> (simp only [cmpP] at hc; try exact prIQ)))) | refine Wc.seq ?_ | refine then_n ?_ | refine WL.nil ?_ | refine Wc.region ?_ | refine Wc.block ?_ | refine then_r ?_ | refine then_e ?_ | refine inb_e rfl ?_ | refine inb_o rfl ?_ | refine inb_n ?_ | refine inb_r ?_ | refine Wc.skip ?_ | refine Wc.exit ?_ | refine Wc.ret ?_ | refine Wc.cond_true rfl ?_ | refine Wc.cond_false rfl ?_ | (refine Wc.drawn (id := 11) 8 (by kernel_rfl) ?_) | (refine Wc.drawn (id := 15) 8 (by kernel_rfl) ?_) | (refine rgs_nil ?_; intro vs wk hE; replace H := H.ext hE; clear hE) | (refine RGs.bq (fun _ => rfl) rfl (by intro vs w hE hP; have H := H.ext hE; first | exact dbQ | fail) (fun hc => ?_) (fun hc => ?_) <;> ((try simp only [cmpP, decide_eq_true_eq, decide_eq_false_iff_not, dcd_iff, dcd_no] at hc); try exact prDQ)) | refine RGs.pq (fun _ => rfl) rfl (by intro vs w hE hP; have H := H.ext hE; first | exact dvQ | fail) ?_)
      rw [hadr]
      have hov := fun n9 c8 => ovl_D g0 b9 ((i + 1) * 1) 1 1 n9 c8 w cur c9 hne (H.blk (i := 1) rfl) (H.blk (i := 0) rfl) (by omega)
      repeat' (first | ((first | refine WL.p rfl ?_ | refine WL.u ?_); first | (refine opk 1 rfl ?_; first | (refine ost_ext rfl (hov _ _) rfl ?_) | (refine ost_copyN (g := g0) (off := (i + 1) * 1) (cs := fl.drop (i * 1)) H rfl rfl hadr rfl hadr2 (by (exact ixQ)) (by rw [hdl]; omega) (cell_in H.bI hc1) (by rw [hdl]; omega) (fun v hv => hone v (List.mem_of_mem_drop hv)) ?_; clear H; intro wk H; simp only [List.set_cons_zero, List.set_cons_succ] at H) | (refine ost_copyN (g := g0) (off := i * 1) (cs := c9) H rfl rfl hadr2 rfl rfl (by (exact ixQ)) (by omega) (cell_in (off := 0) (H.blk (i := 1) rfl) hc2) (by simp only [List.length_append, List.length_take, hdl, List.length_drop]; omega) hone1 ?_; clear H; intro wk H; simp only [List.set_cons_zero, List.set_cons_succ] at H)) | refine pvQ ?_ | (refine opk 3 rfl ?_; (refine ost_cmp rfl rfl rfl rfl (fun hc => ?_) (fun hc => ?_) <;> (simp only [cmpP] at hc; try exact prIQ))) | (refine opk 4 rfl ?_; (refine ost_cmp rfl rfl rfl rfl (fun hc => ?_) (fun hc => ?_) <;> (simp only [cmpP] at hc; try exact prIQ)))) | refine Wc.seq ?_ | refine then_n ?_ | refine WL.nil ?_ | refine Wc.region ?_ | refine Wc.block ?_ | refine then_r ?_ | refine then_e ?_ | refine inb_e rfl ?_ | refine inb_o rfl ?_ | refine inb_n ?_ | refine inb_r ?_ | refine Wc.skip ?_ | refine Wc.exit ?_ | refine Wc.ret ?_ | refine Wc.cond_true rfl ?_ | refine Wc.cond_false rfl ?_ | (refine Wc.drawn (id := 11) 8 (by kernel_rfl) ?_) | (refine Wc.drawn (id := 15) 8 (by kernel_rfl) ?_) | (refine rgs_nil ?_; intro vs wk hE; replace H := H.ext hE; clear hE) | (refine RGs.bq (fun _ => rfl) rfl (by intro vs w hE hP; have H := H.ext hE; first | exact dbQ | fail) (fun hc => ?_) (fun hc => ?_) <;> ((try simp only [cmpP, decide_eq_true_eq, decide_eq_false_iff_not, dcd_iff, dcd_no] at hc); try exact prDQ)) | refine RGs.pq (fun _ => rfl) rfl (by intro vs w hE hP; have H := H.ext hE; first | exact dvQ | fail) ?_)
      have e1 : (cur.take ((i + 1) * 1)).length = (i + 1) * 1 := by rw [List.length_take]; omega
      have hA : (cur.take ((i + 1) * 1) ++ fl.drop (i * 1) ++ cur.drop ((i + 1) * 1 + (fl.drop (i * 1)).length)).take (i * 1) = fl.take (i * 1) := by
        rw [List.append_assoc, List.take_append_of_le_length (by omega), List.take_take, Nat.min_eq_left (by omega), hti]
      have hB : (cur.take ((i + 1) * 1) ++ fl.drop (i * 1) ++ cur.drop ((i + 1) * 1 + (fl.drop (i * 1)).length)).drop (i * 1 + c9.length) = fl.drop (i * 1) ++ cur.drop ((i + 1) * 1 + (fl.drop (i * 1)).length) := by
        rw [List.append_assoc]; exact List.drop_left' (by omega)
      rw [hA, hB] at H
      have hl8 : (fl.take (i * 1) ++ c9 ++ (fl.drop (i * 1) ++ cur.drop ((i + 1) * 1 + (fl.drop (i * 1)).length))).length = c * 1 := by
        simp only [List.length_append, hit, hdl, List.length_drop]; omega
      have H2 := H.blkOwnN (i := 0) rfl hl8 (n := xs.length + 1) (by omega) hmx.2
      have hE9 : (fl.take (i * 1) ++ c9 ++ (fl.drop (i * 1) ++ cur.drop ((i + 1) * 1 + (fl.drop (i * 1)).length))).take ((xs.length + 1) * 1) = fl.take (i * 1) ++ (c9 ++ fl.drop (i * 1)) := by
        rw [show fl.take (i * 1) ++ c9 ++ (fl.drop (i * 1) ++ cur.drop ((i + 1) * 1 + (fl.drop (i * 1)).length)) = (fl.take (i * 1) ++ (c9 ++ fl.drop (i * 1))) ++ cur.drop ((i + 1) * 1 + (fl.drop (i * 1)).length) by simp]
        exact List.take_left' (by simp only [List.length_append, hit, hdl]; omega)
      rw [hE9] at H2
      rw [show ((xs.length : Int) + (1 : Nat)).toNat = xs.length + 1 by omega]
      exact fn_ret1 (v := .slice _ _ _) rfl rfl ⟨_, _, H2.pick 0 rfl, rfl, _, _, rfl, rfl⟩
    · have hadr2 := adr_addN (c := c) (g := g0) (k := i) (sz := 1) (q := (i : Int)) (by omega) (by omega)
      have hold : ∀ w', w'.heap[g0]? = some (.cells cur.toArray 24 (0, 0)) → RdC (full w') (some ⟨g0, 0, none⟩) (fl.take (i * 1)) := fun w' hw => .inr ⟨g0, 0, cur, _, _, rfl, hw, by rw [List.drop_zero, hit]; exact hti⟩
      repeat' (first | ((first | refine WL.p rfl ?_ | refine WL.u ?_); first | (refine opk 1 rfl ?_; (refine ost_appGZN (sz := 1) (n := xs.length + 1 - i) (olds := fl.take (i * 1)) H rfl rfl rfl (by omega) rfl (by decide) (hold _ H.bI) hit (by omega) (by omega) (by omega) (by omega) ?_; clear H; intro b8 c8 wk zs hge8 hgm8 hzs H)) | refine pvQ ?_ | (refine opk 3 rfl ?_; (refine ost_cmp rfl rfl rfl rfl (fun hc => ?_) (fun hc => ?_) <;> (simp only [cmpP] at hc; try exact prIQ))) | (refine opk 4 rfl ?_; (refine ost_cmp rfl rfl rfl rfl (fun hc => ?_) (fun hc => ?_) <;> (simp only [cmpP] at hc; try exact prIQ)))) | refine Wc.seq ?_ | refine then_n ?_ | refine WL.nil ?_ | refine Wc.region ?_ | refine Wc.block ?_ | refine then_r ?_ | refine then_e ?_ | refine inb_e rfl ?_ | refine inb_o rfl ?_ | refine inb_n ?_ | refine inb_r ?_ | refine Wc.skip ?_ | refine Wc.exit ?_ | refine Wc.ret ?_ | refine Wc.cond_true rfl ?_ | refine Wc.cond_false rfl ?_ | (refine Wc.drawn (id := 11) 8 (by kernel_rfl) ?_) | (refine Wc.drawn (id := 15) 8 (by kernel_rfl) ?_) | (refine rgs_nil ?_; intro vs wk hE; replace H := H.ext hE; clear hE) | (refine RGs.bq (fun _ => rfl) rfl (by intro vs w hE hP; have H := H.ext hE; first | exact dbQ | fail) (fun hc => ?_) (fun hc => ?_) <;> ((try simp only [cmpP, decide_eq_true_eq, decide_eq_false_iff_not, dcd_iff, dcd_no] at hc); try exact prDQ)) | refine RGs.pq (fun _ => rfl) rfl (by intro vs w hE hP; have H := H.ext hE; first | exact dvQ | fail) ?_)
      have e7 : (i : Int).toNat + (xs.length + 1 - i) = xs.length + 1 := by omega
      rw [e7] at hge8 ⊢
      rw [show (i : Int).toNat = i from rfl] at hzs
      have hRl : (fl.take (i * 1) ++ zs).length = c8 * 1 := by
        simp only [List.length_append, hit, hzs]; omega
      have hRi : (fl.take (i * 1) ++ zs).take (i * 1) = fl.take (i * 1) := List.take_left' hit
      generalize fl.take (i * 1) ++ zs = R at H hRl hRi
      have hadr3 := adr_addN (c := c8) (g := b8) (k := i) (sz := 1) (q := (i : Int)) (by omega) (by omega)
      by_cases hc8 : c8 = i + 1
      · exfalso; omega
      have hadr4 := adr_addN (c := c8) (g := b8) (k := i + 1) (sz := 1) (q := (i : Int) + (1 : Nat)) (by omega) hc8
      repeat' (first | ((first | refine WL.p rfl ?_ | refine WL.u ?_); first | (refine opk 1 rfl ?_; first | (refine ost_copyN (g := b8) (off := i * 1) (cs := c9) H rfl rfl hadr3 rfl rfl (by (exact ixQ)) (by omega) (cell_in (off := 0) (H.blk (i := 2) rfl) hc2) (by omega) hone1 ?_; clear H; intro wk H; simp only [List.set_cons_zero, List.set_cons_succ] at H) | (refine ost_copyN (g := b8) (off := (i + 1) * 1) (cs := fl.drop (i * 1)) H rfl rfl hadr4 rfl hadr2 (by (exact ixQ)) (by rw [hdl]; omega) (cell_in (H.blk (i := 1) rfl) hc1) (by simp only [List.length_append, List.length_take, List.length_drop]; omega) (fun v hv => hone v (List.mem_of_mem_drop hv)) ?_; clear H; intro wk H; simp only [List.set_cons_zero, List.set_cons_succ] at H)) | refine pvQ ?_ | (refine opk 3 rfl ?_; (refine ost_cmp rfl rfl rfl rfl (fun hc => ?_) (fun hc => ?_) <;> (simp only [cmpP] at hc; try exact prIQ))) | (refine opk 4 rfl ?_; (refine ost_cmp rfl rfl rfl rfl (fun hc => ?_) (fun hc => ?_) <;> (simp only [cmpP] at hc; try exact prIQ)))) | refine Wc.seq ?_ | refine then_n ?_ | refine WL.nil ?_ | refine Wc.region ?_ | refine Wc.block ?_ | refine then_r ?_ | refine then_e ?_ | refine inb_e rfl ?_ | refine inb_o rfl ?_ | refine inb_n ?_ | refine inb_r ?_ | refine Wc.skip ?_ | refine Wc.exit ?_ | refine Wc.ret ?_ | refine Wc.cond_true rfl ?_ | refine Wc.cond_false rfl ?_ | (refine Wc.drawn (id := 11) 8 (by kernel_rfl) ?_) | (refine Wc.drawn (id := 15) 8 (by kernel_rfl) ?_) | (refine rgs_nil ?_; intro vs wk hE; replace H := H.ext hE; clear hE) | (refine RGs.bq (fun _ => rfl) rfl (by intro vs w hE hP; have H := H.ext hE; first | exact dbQ | fail) (fun hc => ?_) (fun hc => ?_) <;> ((try simp only [cmpP, decide_eq_true_eq, decide_eq_false_iff_not, dcd_iff, dcd_no] at hc); try exact prDQ)) | refine RGs.pq (fun _ => rfl) rfl (by intro vs w hE hP; have H := H.ext hE; first | exact dvQ | fail) ?_)
      rw [hRi] at H
      have e1 : (fl.take (i * 1) ++ c9).length = (i + 1) * 1 := by simp only [List.length_append, hit]; omega
      have hA : (fl.take (i * 1) ++ c9 ++ R.drop (i * 1 + c9.length)).take ((i + 1) * 1) = fl.take (i * 1) ++ c9 := List.take_left' e1
      rw [hA] at H
      generalize hD : (fl.take (i * 1) ++ c9 ++ R.drop (i * 1 + c9.length)).drop ((i + 1) * 1 + (fl.drop (i * 1)).length) = D at H
      have hDl : D.length = (c8 - (xs.length + 1)) * 1 := by
        rw [← hD]
        simp only [List.length_append, List.length_drop, hit]; omega
      have hl8 : (fl.take (i * 1) ++ c9 ++ fl.drop (i * 1) ++ D).length = c8 * 1 := by
        simp only [List.length_append, hit, hdl]; omega
      have H2 := H.blkOwnN (i := 0) rfl hl8 (n := xs.length + 1) (by omega) hgm8
      have hE9 : (fl.take (i * 1) ++ c9 ++ fl.drop (i * 1) ++ D).take ((xs.length + 1) * 1) = fl.take (i * 1) ++ (c9 ++ fl.drop (i * 1)) := by
        rw [show fl.take (i * 1) ++ c9 ++ fl.drop (i * 1) ++ D = (fl.take (i * 1) ++ (c9 ++ fl.drop (i * 1))) ++ D by simp]
        exact List.take_left' (by simp only [List.length_append, hit, hdl]; omega)
      rw [hE9] at H2
      exact fn_ret1 (v := .slice _ _ _) rfl rfl ⟨_, _, H2.pick 0 rfl, rfl, _, _, rfl, rfl⟩
end Go.Tg

set_option linter.unusedVariables false
set_option linter.unusedSimpArgs false
set_option maxRecDepth 100000
set_option maxHeartbeats 4000000
namespace Go.Tg
open Go Go.Proofs
def swapP (p : PageT) (i : Nat) (rs : List RefT) : PageT := ⟨p.leaf, p.keys.take i ++ rs.map (·.key) ++ p.keys.drop (i + 1), p.locs, p.kids.take i ++ rs.map (·.n) ++ p.kids.drop (i + 1)⟩
theorem ins_mid {α : Type} {xs ys zs : List α} {x : α} {n : Nat} (hn : n = xs.length + ys.length) : (xs ++ ys ++ zs).take n ++ x :: (xs ++ ys ++ zs).drop n = xs ++ (ys ++ [x]) ++ zs := by
  have h : (xs ++ ys).length = n := by rw [List.length_append]; omega
  rw [List.take_left' h, List.drop_left' h]
  simp
theorem cRef_key (r : RefT) : ((cRef r).drop (0 + 0)).take 3 = cKey r.key := rfl
theorem cRef_n (r : RefT) : (cRef r)[0 + 3]? = some (.int .u32 r.n.toNat) := rfl
theorem tr_swap (tb mb rb : Nat) (T : TrM) (p : PageT) (A : PAd) (i : Nat) (rs : List RefT) (al : Option Addr) (cl : Nat) (g : FH) (w : World) (hPg : PgR g p A) (hR : Sl g 4 al cl (rs.map cRef)) (hlf : p.leaf = false) (hi : i < p.keys.length) (hkl : p.kids.length = p.keys.length) (hll : p.locs = []) (hb1 : p.keys.length ≤ 8) (hr2 : rs.length ≤ 2)
    (hf : Fresh T) (hn : T.next.toNat + 2 < 4294967296) (HO : St w (trO tb mb rb T).fp g g [trO tb mb rb T] w) :
    Spec Try.prog 52 #[pT tb, .agg (pgV p A).toArray, .int .i64 (i : Nat), .slice al rs.length cl] w (trO tb mb rb T).fp g (fun v h' L' => ∃ T' a c, v = .slice a (sprdP (swapP p i rs)).length c ∧ L' = [trO tb mb rb T'] ∧ Laid h' T T' (sprdP (swapP p i rs)) ∧ Sl h' 4 a c ((refsP T.next (sprdP (swapP p i rs))).map cRef)) := by
  have H := HO
  generalize hF9 : (trO tb mb rb T).fp = F9 at H ⊢
  have lp := pgV_len p A
  have qr := hR.lenM
  unfold Spec
  refine calls_of Try.func52 rfl Try.ntmps52 (by simp) ?_
  repeat' (first | ((first | refine WL.p rfl ?_ | refine WL.u ?_); first | refine pvQ ?_ | (refine opk 3 rfl ?_; (refine ost_cmp rfl rfl rfl rfl (fun hc => ?_) (fun hc => ?_) <;> (simp only [cmpP] at hc; try exact prIQ))) | (refine opk 4 rfl ?_; (refine ost_cmp rfl rfl rfl rfl (fun hc => ?_) (fun hc => ?_) <;> (simp only [cmpP] at hc; try exact prIQ))) | (refine opk 8 rfl ?_; first | (refine ost_store1 H rfl rfl vlQ gvQ ixQ (by first | decide | (simp; omega) | (simp; done) | omega) ?_; clear H; intro wk H; simp only [List.set_cons_zero, List.set_cons_succ, Nat.reduceAdd] at H) | (refine ost_storeW H rfl rfl rfl rfl lQ ixQ lQ okQ ?_; clear H; intro wk H; simp only [List.set_cons_zero, List.set_cons_succ, Nat.reduceAdd] at H)) | (refine opk 9 rfl ?_; first | (refine ost_boxq H rfl ?_; clear H; intro bk wk H) | (refine ost_allocA H rfl ?_; clear H; intro bk wk H) | (refine ost_build1 H rfl rfl rfl evQ lsQ rfl ?_; clear H; intro bk wk H))) | refine Wc.seq ?_ | refine then_n ?_ | refine WL.nil ?_ | refine Wc.region ?_ | refine Wc.block ?_ | refine then_r ?_ | refine then_e ?_ | refine inb_e rfl ?_ | refine inb_o rfl ?_ | refine inb_n ?_ | refine inb_r ?_ | refine Wc.skip ?_ | refine Wc.exit ?_ | refine Wc.ret ?_ | refine Wc.cond_true rfl ?_ | refine Wc.cond_false rfl ?_)
  obtain ⟨b5, e5⟩ := H.nameB idx0
  subst e5
  obtain ⟨h1, hle, hb5, H7⟩ := H.freezeB
  clear H; have H := H7; clear H7
  have hcp := fun w hs hP => tree_copied p A (full w) w hs hP (by omega) (by rw [hll]; exact Nat.zero_le _) (by omega)
  repeat' (first | ((first | refine WL.p rfl ?_ | refine WL.u ?_); first | (refine opk 1 rfl ?_; (refine ost_C H rfl (hcp _ (sat_full _) ((hPg.mono hle).full H)) rfl ?_; clear H; rintro vk wk hfk Lk ⟨rfl, A2, rfl, rfl⟩ H; simp only [pgO, List.cons_append, List.nil_append] at H)) | refine pvQ ?_ | (refine opk 3 rfl ?_; (refine ost_cmp rfl rfl rfl rfl (fun hc => ?_) (fun hc => ?_) <;> (simp only [cmpP] at hc; try exact prIQ))) | (refine opk 4 rfl ?_; (refine ost_cmp rfl rfl rfl rfl (fun hc => ?_) (fun hc => ?_) <;> (simp only [cmpP] at hc; try exact prIQ))) | (refine opk 8 rfl ?_; first | (refine ost_store1 H rfl rfl vlQ gvQ ixQ (by first | decide | (simp; omega) | (simp; done) | omega) ?_; clear H; intro wk H; simp only [List.set_cons_zero, List.set_cons_succ, Nat.reduceAdd] at H) | (refine ost_storeW H rfl rfl rfl rfl lQ ixQ lQ okQ ?_; clear H; intro wk H; simp only [List.set_cons_zero, List.set_cons_succ, Nat.reduceAdd] at H)) | (refine opk 9 rfl ?_; first | (refine ost_boxq H rfl ?_; clear H; intro bk wk H) | (refine ost_allocA H rfl ?_; clear H; intro bk wk H) | (refine ost_build1 H rfl rfl rfl evQ lsQ rfl ?_; clear H; intro bk wk H))) | refine Wc.seq ?_ | refine then_n ?_ | refine WL.nil ?_ | refine Wc.region ?_ | refine Wc.block ?_ | refine then_r ?_ | refine then_e ?_ | refine inb_e rfl ?_ | refine inb_o rfl ?_ | refine inb_n ?_ | refine inb_r ?_ | refine Wc.skip ?_ | refine Wc.exit ?_ | refine Wc.ret ?_ | refine Wc.cond_true rfl ?_ | refine Wc.cond_false rfl ?_)
  obtain ⟨bq, eq⟩ := H.nameB idx0
  subst eq
  clear hcp
  have lpq := pgV_len p A2
  unfold swapP
  obtain ⟨lf, ks, ls, ds⟩ := p
  obtain ⟨ak, ck, ll, lc, ad, cd⟩ := A2
  dsimp only [pgV] at *
  subst hlf hll
  repeat' (first | ((first | refine WL.p rfl ?_ | refine WL.u ?_); first | (refine opk 1 rfl ?_; first | (refine ost_O (A := ownR (.slice ak ks.length ck) 42 3 (ks.map cKey)) H rfl (by (exact ixQ)) (fun HO => del_K ak ck ks i hi (by omega) _ _ HO) rfl ?_; clear H; rintro vk wk hfk Lk ⟨rfl, a1, c1, rfl, rfl⟩ H; simp only [List.cons_append, List.nil_append, List.eraseIdx_cons_zero, List.eraseIdx_cons_succ] at H) | (refine ost_O (A := ownR (.slice ad ds.length cd) 24 1 (ds.map cKid)) H rfl (by (exact ixQ)) (fun HO => del_D ad cd ds i (by omega) (by omega) _ _ HO) rfl ?_; clear H; rintro vk wk hfk Lk ⟨rfl, a2, c2, rfl, rfl⟩ H; simp only [List.cons_append, List.nil_append, List.eraseIdx_cons_zero, List.eraseIdx_cons_succ] at H)) | refine pvQ ?_ | (refine opk 3 rfl ?_; (refine ost_cmp rfl rfl rfl rfl (fun hc => ?_) (fun hc => ?_) <;> (simp only [cmpP] at hc; try exact prIQ))) | (refine opk 4 rfl ?_; (refine ost_cmp rfl rfl rfl rfl (fun hc => ?_) (fun hc => ?_) <;> (simp only [cmpP] at hc; try exact prIQ))) | (refine opk 8 rfl ?_; first | (refine ost_store1 H rfl rfl vlQ gvQ ixQ (by first | decide | (simp; omega) | (simp; done) | omega) ?_; clear H; intro wk H; simp only [List.set_cons_zero, List.set_cons_succ, Nat.reduceAdd] at H) | (refine ost_storeW H rfl rfl rfl rfl lQ ixQ lQ okQ ?_; clear H; intro wk H; simp only [List.set_cons_zero, List.set_cons_succ, Nat.reduceAdd] at H)) | (refine opk 9 rfl ?_; first | (refine ost_boxq H rfl ?_; clear H; intro bk wk H) | (refine ost_allocA H rfl ?_; clear H; intro bk wk H) | (refine ost_build1 H rfl rfl rfl evQ lsQ rfl ?_; clear H; intro bk wk H))) | refine Wc.seq ?_ | refine then_n ?_ | refine WL.nil ?_ | refine Wc.region ?_ | refine Wc.block ?_ | refine then_r ?_ | refine then_e ?_ | refine inb_e rfl ?_ | refine inb_o rfl ?_ | refine inb_n ?_ | refine inb_r ?_ | refine Wc.skip ?_ | refine Wc.exit ?_ | refine Wc.ret ?_ | refine Wc.cond_true rfl ?_ | refine Wc.cond_false rfl ?_)
  clear hPg lp lpq hb5
  obtain ⟨Kj, hKj⟩ : ∃ Kj : Nat → List KeyT, ∀ j, Kj j = ks.take i ++ (rs.take j).map (·.key) ++ ks.drop (i + 1) := ⟨_, fun _ => rfl⟩
  obtain ⟨Dj, hDj⟩ : ∃ Dj : Nat → List UInt32, ∀ j, Dj j = ds.take i ++ (rs.take j).map (·.n) ++ ds.drop (i + 1) := ⟨_, fun _ => rfl⟩
  have eK : ks.eraseIdx i = Kj 0 := by rw [hKj, List.eraseIdx_eq_take_drop_succ]; simp
  have eD : ds.eraseIdx i = Dj 0 := by rw [hDj, List.eraseIdx_eq_take_drop_succ]; simp
  rw [eK, eD] at H
  have lK : ∀ j, j ≤ rs.length → (Kj j).length + 1 = ks.length + j := fun j hj => by rw [hKj]; simp only [List.length_append, List.length_take, List.length_map, List.length_drop]; omega
  have lD : ∀ j, j ≤ rs.length → (Dj j).length + 1 = ds.length + j := fun j hj => by rw [hDj]; simp only [List.length_append, List.length_take, List.length_map, List.length_drop]; omega
  have sK : ∀ j (hj : j < rs.length), (Kj j).take (i + j) ++ rs[j].key :: (Kj j).drop (i + j) = Kj (j + 1) := fun j hj => by
    rw [hKj, hKj, List.take_add_one, List.getElem?_eq_getElem hj]
    rw [ins_mid (by simp only [List.length_take, List.length_map]; omega), List.map_append]; rfl
  have sD : ∀ j (hj : j < rs.length), (Dj j).take (i + j) ++ rs[j].n :: (Dj j).drop (i + j) = Dj (j + 1) := fun j hj => by
    rw [hDj, hDj, List.take_add_one, List.getElem?_eq_getElem hj]
    rw [ins_mid (by simp only [List.length_take, List.length_map]; omega), List.map_append]; rfl
  have eKn : Kj rs.length = ks.take i ++ rs.map (·.key) ++ ks.drop (i + 1) := by rw [hKj, List.take_length]
  have eDn : Dj rs.length = ds.take i ++ rs.map (·.n) ++ ds.drop (i + 1) := by rw [hDj, List.take_length]
  rw [← eKn, ← eDn]
  clear hKj hDj eKn eDn eK eD
  refine Wc.loopE (fun s0 m s w' => ∃ (j : Nat) (a1 : Option Addr) (c1 : Nat) (a2 : Option Addr) (c2 : Nat), m = rs.length - j ∧ j ≤ rs.length ∧ Agree [10, 11, 30, 31, 32, 33, 34, 35, 36, 37, 38, 39, 40, 41, 42, 43, 44, 45, 46, 47, 48, 49, 50, 51, 52, 53, 54, 55] s s0 ∧ s 30 = .int .i64 j ∧
    St w F9 g h1 [ownR (.slice a2 (Dj j).length c2) 24 1 ((Dj j).map cKid), ownR (.slice a1 (Kj j).length c1) 42 3 ((Kj j).map cKey), .blk bq (.cells [Value.bool false, .slice a1 (Kj j).length c1, .slice ll 0 lc, .slice a2 (Dj j).length c2].toArray 85 (0, 0)), ownR (.slice ll 0 lc) 48 2 [], trO tb mb rb T] w') rs.length ⟨0, a1, c1, a2, c2, rfl, by omega, Agree.refl _ _, rfl, H⟩ ?_
  clear H
  rintro m s w' ⟨j, a1, c1, a2, c2, rfl, hj, hA, e1, H⟩
  obtain ⟨j9, rfl⟩ := hA.env1 e1
  clear hA e1
  have l1 := lK j hj
  have l2 := lD j hj
  by_cases hlt : j < rs.length
  · obtain ⟨b, off, L9, T9, fr, e2, eb, eg⟩ := hR.getM (by decide) (Nat.lt_of_le_of_lt (Nat.zero_le _) hlt)
    subst e2
    have g1 := eg (j : Int).toNat j hlt (by omega)
    have s1 := sK j hlt
    have s2 := sD j hlt
    have l3 := lK (j + 1) (by omega)
    have l4 := lD (j + 1) (by omega)
    clear eg sK sD lK lD
    replace eb := hle _ _ eb
    generalize rs[j] = r at g1 s1 s2
    generalize Kj j = K at *
    generalize Dj j = D at *
    have lr := cRef_len r
    have gk := cRef_key r
    have gn := cRef_n r
    have lk := cKey_len r.key
    have ok := allOne_of (cKey_one r.key)
    repeat' (first | ((first | refine WL.p rfl ?_ | refine WL.u ?_); first | (refine opk 9 rfl ?_; (refine ost_buildR (rows := [cKey r.key]) H rfl (by decide) rfl (by rfl) (evP1 vxQ) (.cons rfl .nil) rfl (fun r hr => by rw [List.mem_singleton.1 hr]; rfl) ?_; clear H; intro bk wk H)) | refine pvQ ?_ | (refine opk 3 rfl ?_; (refine ost_cmp rfl rfl rfl rfl (fun hc => ?_) (fun hc => ?_) <;> (simp only [cmpP] at hc; try exact prIQ))) | (refine opk 4 rfl ?_; (refine ost_cmp rfl rfl rfl rfl (fun hc => ?_) (fun hc => ?_) <;> (simp only [cmpP] at hc; try exact prIQ))) | (refine opk 8 rfl ?_; first | (refine ost_store1 H rfl rfl vlQ gvQ ixQ (by first | decide | (simp; omega) | (simp; done) | omega) ?_; clear H; intro wk H; simp only [List.set_cons_zero, List.set_cons_succ, Nat.reduceAdd] at H) | (refine ost_storeW H rfl rfl rfl rfl lQ ixQ lQ okQ ?_; clear H; intro wk H; simp only [List.set_cons_zero, List.set_cons_succ, Nat.reduceAdd] at H)) | (refine opk 9 rfl ?_; first | (refine ost_boxq H rfl ?_; clear H; intro bk wk H) | (refine ost_allocA H rfl ?_; clear H; intro bk wk H) | (refine ost_build1 H rfl rfl rfl evQ lsQ rfl ?_; clear H; intro bk wk H))) | refine Wc.seq ?_ | refine then_n ?_ | refine WL.nil ?_ | refine Wc.region ?_ | refine Wc.block ?_ | refine then_r ?_ | refine then_e ?_ | refine inb_e rfl ?_ | refine inb_o rfl ?_ | refine inb_n ?_ | refine inb_r ?_ | refine Wc.skip ?_ | refine Wc.exit ?_ | refine Wc.ret ?_ | refine Wc.cond_true rfl ?_ | refine Wc.cond_false rfl ?_)
    obtain ⟨br, ebr⟩ := H.nameB idx1
    subst ebr
    replace H : St w F9 g h1 (insA_K a1 c1 K bk r.key :: _) _ := (H.picks (L' := [_, _, _, _, _, _, _]) [3, 0, 1, 2, 4, 5, 6] rfl (by decide)).join
    repeat' (first | ((first | refine WL.p rfl ?_ | refine WL.u ?_); first | (refine opk 1 rfl ?_; (refine ost_O (A := insA_K a1 c1 K bk r.key) H rfl (by (exact ixQ)) (fun HO => ins_K a1 c1 K (i + j) (by omega) bk r.key (by omega) _ _ HO) rfl ?_; clear H; rintro vk wk hfk Lk ⟨rfl, a3, c3, rfl, rfl⟩ H; simp only [List.cons_append, List.nil_append, List.eraseIdx_cons_zero, List.eraseIdx_cons_succ] at H)) | refine pvQ ?_ | (refine opk 3 rfl ?_; (refine ost_cmp rfl rfl rfl rfl (fun hc => ?_) (fun hc => ?_) <;> (simp only [cmpP] at hc; try exact prIQ))) | (refine opk 4 rfl ?_; (refine ost_cmp rfl rfl rfl rfl (fun hc => ?_) (fun hc => ?_) <;> (simp only [cmpP] at hc; try exact prIQ))) | (refine opk 8 rfl ?_; first | (refine ost_store1 H rfl rfl vlQ gvQ ixQ (by first | decide | (simp; omega) | (simp; done) | omega) ?_; clear H; intro wk H; simp only [List.set_cons_zero, List.set_cons_succ, Nat.reduceAdd] at H) | (refine ost_storeW H rfl rfl rfl rfl lQ ixQ lQ okQ ?_; clear H; intro wk H; simp only [List.set_cons_zero, List.set_cons_succ, Nat.reduceAdd] at H)) | (refine opk 9 rfl ?_; first | (refine ost_boxq H rfl ?_; clear H; intro bk wk H) | (refine ost_allocA H rfl ?_; clear H; intro bk wk H) | (refine ost_build1 H rfl rfl rfl evQ lsQ rfl ?_; clear H; intro bk wk H))) | refine Wc.seq ?_ | refine then_n ?_ | refine WL.nil ?_ | refine Wc.region ?_ | refine Wc.block ?_ | refine then_r ?_ | refine then_e ?_ | refine inb_e rfl ?_ | refine inb_o rfl ?_ | refine inb_n ?_ | refine inb_r ?_ | refine Wc.skip ?_ | refine Wc.exit ?_ | refine Wc.ret ?_ | refine Wc.cond_true rfl ?_ | refine Wc.cond_false rfl ?_)
    rw [s1] at H
    replace H : St w F9 g h1 (insA_D a2 c2 D bk r.n :: _) _ := (H.picks (L' := [_, _, _, _, _, _, _]) [3, 0, 1, 2, 4, 5, 6] rfl (by decide)).join
    repeat' (first | ((first | refine WL.p rfl ?_ | refine WL.u ?_); first | (refine opk 1 rfl ?_; (refine ost_O (A := insA_D a2 c2 D bk r.n) H rfl (by (exact ixQ)) (fun HO => ins_D a2 c2 D (i + j) (by omega) bk r.n (by omega) _ _ HO) rfl ?_; clear H; rintro vk wk hfk Lk ⟨rfl, a4, c4, rfl, rfl⟩ H; simp only [List.cons_append, List.nil_append, List.eraseIdx_cons_zero, List.eraseIdx_cons_succ] at H)) | refine pvQ ?_ | (refine opk 3 rfl ?_; (refine ost_cmp rfl rfl rfl rfl (fun hc => ?_) (fun hc => ?_) <;> (simp only [cmpP] at hc; try exact prIQ))) | (refine opk 4 rfl ?_; (refine ost_cmp rfl rfl rfl rfl (fun hc => ?_) (fun hc => ?_) <;> (simp only [cmpP] at hc; try exact prIQ))) | (refine opk 8 rfl ?_; first | (refine ost_store1 H rfl rfl vlQ gvQ ixQ (by first | decide | (simp; omega) | (simp; done) | omega) ?_; clear H; intro wk H; simp only [List.set_cons_zero, List.set_cons_succ, Nat.reduceAdd] at H) | (refine ost_storeW H rfl rfl rfl rfl lQ ixQ lQ okQ ?_; clear H; intro wk H; simp only [List.set_cons_zero, List.set_cons_succ, Nat.reduceAdd] at H)) | (refine opk 9 rfl ?_; first | (refine ost_boxq H rfl ?_; clear H; intro bk wk H) | (refine ost_allocA H rfl ?_; clear H; intro bk wk H) | (refine ost_build1 H rfl rfl rfl evQ lsQ rfl ?_; clear H; intro bk wk H))) | refine Wc.seq ?_ | refine then_n ?_ | refine WL.nil ?_ | refine Wc.region ?_ | refine Wc.block ?_ | refine then_r ?_ | refine then_e ?_ | refine inb_e rfl ?_ | refine inb_o rfl ?_ | refine inb_n ?_ | refine inb_r ?_ | refine Wc.skip ?_ | refine Wc.exit ?_ | refine Wc.ret ?_ | refine Wc.cond_true rfl ?_ | refine Wc.cond_false rfl ?_)
    rw [s2] at H
    exact ⟨rs.length - (j + 1), by omega, j + 1, a3, c3, a4, c4, rfl, by omega, by (repeat' (first | exact Agree.refl _ _ | exact Agree.havoc | refine Agree.upd rfl ?_ | refine Agree.hav2 rfl ?_)), rfl, H.picks [0, 1, 3, 4, 5] rfl (by decide)⟩
  · obtain rfl : j = rs.length := by omega
    repeat' (first | ((first | refine WL.p rfl ?_ | refine WL.u ?_); first | refine pvQ ?_ | (refine opk 3 rfl ?_; (refine ost_cmp rfl rfl rfl rfl (fun hc => ?_) (fun hc => ?_) <;> (simp only [cmpP] at hc; try exact prIQ))) | (refine opk 4 rfl ?_; (refine ost_cmp rfl rfl rfl rfl (fun hc => ?_) (fun hc => ?_) <;> (simp only [cmpP] at hc; try exact prIQ))) | (refine opk 8 rfl ?_; first | (refine ost_store1 H rfl rfl vlQ gvQ ixQ (by first | decide | (simp; omega) | (simp; done) | omega) ?_; clear H; intro wk H; simp only [List.set_cons_zero, List.set_cons_succ, Nat.reduceAdd] at H) | (refine ost_storeW H rfl rfl rfl rfl lQ ixQ lQ okQ ?_; clear H; intro wk H; simp only [List.set_cons_zero, List.set_cons_succ, Nat.reduceAdd] at H)) | (refine opk 9 rfl ?_; first | (refine ost_boxq H rfl ?_; clear H; intro bk wk H) | (refine ost_allocA H rfl ?_; clear H; intro bk wk H) | (refine ost_build1 H rfl rfl rfl evQ lsQ rfl ?_; clear H; intro bk wk H))) | refine Wc.seq ?_ | refine then_n ?_ | refine WL.nil ?_ | refine Wc.region ?_ | refine Wc.block ?_ | refine then_r ?_ | refine then_e ?_ | refine inb_e rfl ?_ | refine inb_o rfl ?_ | refine inb_n ?_ | refine inb_r ?_ | refine Wc.skip ?_ | refine Wc.exit ?_ | refine Wc.ret ?_ | refine Wc.cond_true rfl ?_ | refine Wc.cond_false rfl ?_)
    clear lK lD sK sD
    generalize Kj rs.length = K at *
    generalize Dj rs.length = D at *
    obtain ⟨h2, hle2, hPn, H7⟩ := (H.picks (L' := pgO ⟨false, K, [], D⟩ ⟨a1, c1, ll, lc, a2, c2⟩ ++ [trO tb mb rb T]) [1, 3, 0, 4] rfl (by decide)).freezePg
    clear H; have H := H7; clear H7
    have hsp := fun w HO => tr_spread tb mb rb T ⟨false, K, [], D⟩ ⟨a1, c1, ll, lc, a2, c2⟩ h2 w hPn (by show K.length ≤ 1000; omega) (by simp) (by intro _; show D.length = K.length; omega) hf hn HO
    repeat' (first | ((first | refine WL.p rfl ?_ | refine WL.u ?_); first | (refine opk 1 rfl ?_; (refine ost_H (A := trO tb mb rb T) H rfl (by (exact ixQ)) (fun HO => hsp _ HO) rfl ?_; clear H; rintro vk wk hfk Lk ⟨T9, a9, c9, rfl, rfl, hl9, hN9⟩ hle H; simp only [List.cons_append, List.nil_append, List.eraseIdx_cons_zero, List.eraseIdx_cons_succ] at H)) | refine pvQ ?_ | (refine opk 3 rfl ?_; (refine ost_cmp rfl rfl rfl rfl (fun hc => ?_) (fun hc => ?_) <;> (simp only [cmpP] at hc; try exact prIQ))) | (refine opk 4 rfl ?_; (refine ost_cmp rfl rfl rfl rfl (fun hc => ?_) (fun hc => ?_) <;> (simp only [cmpP] at hc; try exact prIQ))) | (refine opk 8 rfl ?_; first | (refine ost_store1 H rfl rfl vlQ gvQ ixQ (by first | decide | (simp; omega) | (simp; done) | omega) ?_; clear H; intro wk H; simp only [List.set_cons_zero, List.set_cons_succ, Nat.reduceAdd] at H) | (refine ost_storeW H rfl rfl rfl rfl lQ ixQ lQ okQ ?_; clear H; intro wk H; simp only [List.set_cons_zero, List.set_cons_succ, Nat.reduceAdd] at H)) | (refine opk 9 rfl ?_; first | (refine ost_boxq H rfl ?_; clear H; intro bk wk H) | (refine ost_allocA H rfl ?_; clear H; intro bk wk H) | (refine ost_build1 H rfl rfl rfl evQ lsQ rfl ?_; clear H; intro bk wk H))) | refine Wc.seq ?_ | refine then_n ?_ | refine WL.nil ?_ | refine Wc.region ?_ | refine Wc.block ?_ | refine then_r ?_ | refine then_e ?_ | refine inb_e rfl ?_ | refine inb_o rfl ?_ | refine inb_n ?_ | refine inb_r ?_ | refine Wc.skip ?_ | refine Wc.exit ?_ | refine Wc.ret ?_ | refine Wc.cond_true rfl ?_ | refine Wc.cond_false rfl ?_)
    exact fn_ret1 (v := .slice _ _ _) rfl rfl ⟨_, _, H, T9, a9, c9, rfl, rfl, hl9, hN9⟩
end Go.Tg

set_option linter.unusedVariables false
set_option linter.unusedSimpArgs false
set_option maxRecDepth 100000
set_option maxHeartbeats 4000000
namespace Go.Tg
open Go Go.Proofs
def sprd {α : Type} (nx : UInt32) (l : List α) : List (UInt32 × List α) := if l.length = 0 then [] else if l.length ≤ 8 then [(nx + 1, l)] else [(nx + 1, l.take (l.length / 2)), (nx + 1 + 1, l.drop (l.length / 2))]
def refS (d : Nat) (s : Sh d) : RefT := ⟨hdK (Sh.its d s), Sh.num d s⟩
theorem sprd_flat {α β : Type} (nx : UInt32) (l : List α) (f : α → List β) : ((sprd nx l).map fun r => (r.2.map f).flatten).flatten = (l.map f).flatten := by
  unfold sprd
  split
  · rename_i h
    rw [List.eq_nil_of_length_eq_zero h]; rfl
  · split
    · simp
    · simp only [List.map_cons, List.map_nil, List.flatten_cons, List.flatten_nil, List.append_nil]
      rw [← List.flatten_append, ← List.map_append, List.take_append_drop]
theorem sprd_flat0 {α : Type} (nx : UInt32) (l : List α) : ((sprd nx l).map fun r => r.2).flatten = l := by
  have := sprd_flat nx l (fun x => [x])
  have e : ∀ m : List α, (m.map fun x => [x]).flatten = m := fun m => by induction m with | nil => rfl | cons x m ih => simp [ih]
  simpa only [e] using this
theorem sprd_len {α : Type} (nx : UInt32) (l : List α) : (sprd nx l).length ≤ 2 := by
  unfold sprd; split
  · simp
  · split <;> simp
theorem sprd_mem {α : Type} {nx : UInt32} {l : List α} (hl : l.length ≤ 10) {r : UInt32 × List α} (hr : r ∈ sprd nx l) : r.2 ≠ [] ∧ r.2.length ≤ 8 ∧ (∀ x ∈ r.2, x ∈ l) := by
  unfold sprd at hr
  split at hr
  · cases hr
  · rename_i h0
    split at hr
    · rename_i h8
      rw [List.mem_singleton] at hr
      subst hr
      exact ⟨fun e => h0 (by rw [show l = [] from e]; rfl), h8, fun x h => h⟩
    · rename_i h8
      simp only [List.mem_cons, List.not_mem_nil, or_false] at hr
      rcases hr with rfl | rfl
      · refine ⟨fun e => ?_, by simp only [List.length_take]; omega, fun x h => List.mem_of_mem_take h⟩
        have := congrArg List.length e
        simp only [List.length_take, List.length_nil] at this; omega
      · refine ⟨fun e => ?_, by simp only [List.length_drop]; omega, fun x h => List.mem_of_mem_drop h⟩
        have := congrArg List.length e
        simp only [List.length_drop, List.length_nil] at this; omega
noncomputable def edS (f : List ItemT → List ItemT) (k : KeyT) : (d : Nat) → UInt32 → Sh d → List (Sh d) × UInt32
  | 0, nx, s => (sprd nx (f s.2), nx + UInt32.ofNat (sprd nx (f s.2)).length)
  | d + 1, nx, s => match (s.2 : List (Sh d))[kidI (s.2.map fun c => hdK (Sh.its d c)) k]? with
    | none => ([], nx)
    | some c => (sprd (edS f k d nx c).2 (s.2.take (kidI (s.2.map fun c => hdK (Sh.its d c)) k) ++ (edS f k d nx c).1 ++ s.2.drop (kidI (s.2.map fun c => hdK (Sh.its d c)) k + 1)), (edS f k d nx c).2 + UInt32.ofNat (sprd (edS f k d nx c).2 (s.2.take (kidI (s.2.map fun c => hdK (Sh.its d c)) k) ++ (edS f k d nx c).1 ++ s.2.drop (kidI (s.2.map fun c => hdK (Sh.its d c)) k + 1))).length)
structure EdF (k : KeyT) (f : List ItemT → List ItemT) : Prop where
  app : ∀ pre mid post, (∀ x ∈ pre, keyN x.key < keyN k) → (∀ x ∈ post, keyN k < keyN x.key) → f (pre ++ mid ++ post) = pre ++ f mid ++ post
  len : ∀ l, Srt l → (f l).length ≤ l.length + 1
theorem partP_leaf (n : UInt32) (l : List ItemT) (a b : Nat) : partP (Sh.page 0 (n, l)) a b = Sh.page 0 (n, (l.take b).drop a) := by
  show PageT.mk _ _ _ _ = PageT.mk _ _ _ _
  simp only [if_true, List.map_take, List.map_drop]
  rfl
theorem partP_node {d : Nat} (n : UInt32) (l : List (Sh d)) (a b : Nat) : partP (Sh.page (d + 1) (n, l)) a b = Sh.page (d + 1) (n, (l.take b).drop a) := by
  show PageT.mk _ _ _ _ = PageT.mk _ _ _ _
  simp only [List.map_take, List.map_drop]
  rfl
theorem sprd_leaf (n nx : UInt32) (l : List ItemT) : sprdP (Sh.page 0 (n, l)) = (sprd nx l).map fun r => Sh.page 0 r := by
  unfold sprdP sprd
  have e : (Sh.page 0 (n, l)).keys.length = l.length := List.length_map ..
  rw [e]
  split
  · rfl
  · split
    · rfl
    · rw [partP_leaf, partP_leaf, List.drop_zero, List.take_length]; rfl
theorem sprd_node {d : Nat} (n nx : UInt32) (l : List (Sh d)) : sprdP (Sh.page (d + 1) (n, l)) = (sprd nx l).map fun r => Sh.page (d + 1) r := by
  unfold sprdP sprd
  have e : (Sh.page (d + 1) (n, l)).keys.length = l.length := List.length_map ..
  rw [e]
  split
  · rfl
  · split
    · rfl
    · rw [partP_node, partP_node, List.drop_zero, List.take_length]; rfl
theorem refs_leaf (nx : UInt32) (l : List ItemT) : refsP nx ((sprd nx l).map fun r => Sh.page 0 r) = (sprd nx l).map fun r => refS 0 r := by
  unfold sprd
  split
  · rfl
  · split
    · show [RefT.mk (hd0 (l.map (·.key))) (nx + 1)] = [RefT.mk (hdK l) (nx + 1)]
      rw [hd0_map]
    · show [RefT.mk (hd0 ((l.take (l.length / 2)).map (·.key))) (nx + 1), RefT.mk (hd0 ((l.drop (l.length / 2)).map (·.key))) (nx + 1 + 1)] = [RefT.mk (hdK (l.take (l.length / 2))) (nx + 1), RefT.mk (hdK (l.drop (l.length / 2))) (nx + 1 + 1)]
      rw [hd0_map, hd0_map]
theorem hd0_node {d : Nat} {l : List (Sh d)} (h : ∀ c ∈ l, Sh.its d c ≠ []) : hd0 (l.map fun c => hdK (Sh.its d c)) = hdK ((l.map (Sh.its d)).flatten) := by
  cases l with
  | nil => rfl
  | cons c l =>
    rw [List.map_cons, List.map_cons, List.flatten_cons, hdK_app (h c (by simp))]; rfl
theorem refs_node {d : Nat} (nx : UInt32) (l : List (Sh d)) (h : ∀ c ∈ l, Sh.its d c ≠ []) : refsP nx ((sprd nx l).map fun r => Sh.page (d + 1) r) = (sprd nx l).map fun r => refS (d + 1) r := by
  unfold sprd
  split
  · rfl
  · split
    · show [RefT.mk _ _] = [RefT.mk _ _]
      have := hd0_node h
      show [RefT.mk (hd0 (l.map fun c => hdK (Sh.its d c))) _] = _
      rw [this]; rfl
    · show [RefT.mk (hd0 ((l.take (l.length / 2)).map fun c => hdK (Sh.its d c))) _, RefT.mk (hd0 ((l.drop (l.length / 2)).map fun c => hdK (Sh.its d c))) _] = [RefT.mk _ _, RefT.mk _ _]
      rw [hd0_node fun c hc => h c (List.mem_of_mem_take hc), hd0_node fun c hc => h c (List.mem_of_mem_drop hc)]; rfl
theorem sprd_nx {α : Type} {nx : UInt32} {l : List α} (h : nx.toNat + 2 < 4294967296) : (nx + UInt32.ofNat (sprd nx l).length).toNat = nx.toNat + (sprd nx l).length := by
  have := sprd_len nx l
  exact u32_up (by omega)
theorem kid_at {d : Nat} {s : Sh (d + 1)} (hok : Sh.Ok (d + 1) s) (hs : Srt (Sh.its (d + 1) s)) (k : KeyT) :
    ∃ c, (s.2 : List (Sh d))[kidI (s.2.map fun c => hdK (Sh.its d c)) k]? = some c ∧ c ∈ s.2 ∧
      (∀ x ∈ ((s.2.take (kidI (s.2.map fun c => hdK (Sh.its d c)) k)).map (Sh.its d)).flatten, keyN x.key < keyN k) ∧
      (∀ x ∈ ((s.2.drop (kidI (s.2.map fun c => hdK (Sh.its d c)) k + 1)).map (Sh.its d)).flatten, keyN k < keyN x.key) ∧
      Sh.its (d + 1) s = ((s.2.take (kidI (s.2.map fun c => hdK (Sh.its d c)) k)).map (Sh.its d)).flatten ++ Sh.its d c ++ ((s.2.drop (kidI (s.2.map fun c => hdK (Sh.its d c)) k + 1)).map (Sh.its d)).flatten := by
  have h := parts_split (Sh.kids_ne hok) hs (by rw [List.length_map]; exact hok.1) k
  rw [List.map_map] at h
  have e : (hdK ∘ Sh.its d) = fun c => hdK (Sh.its d c) := rfl
  rw [e] at h
  generalize kidI (s.2.map fun c => hdK (Sh.its d c)) k = i at *
  obtain ⟨h1, h2, h3⟩ := h
  rw [List.length_map] at h1
  rw [← List.map_take] at h2
  rw [← List.map_drop] at h3
  refine ⟨s.2[i], List.getElem?_eq_getElem h1, List.getElem_mem h1, h2, h3, ?_⟩
  show (s.2.map (Sh.its d)).flatten = _
  have e2 : s.2 = s.2.take i ++ s.2[i] :: s.2.drop (i + 1) := by rw [← List.drop_eq_getElem_cons h1, List.take_append_drop]
  conv => lhs; rw [e2]
  rw [List.map_append, List.map_cons, List.flatten_append, List.flatten_cons, List.append_assoc]
theorem edS_props {k : KeyT} {f : List ItemT → List ItemT} (hf : EdF k f) : ∀ (d : Nat) (nx : UInt32) (s : Sh d), Sh.Ok d s → Srt (Sh.its d s) → nx.toNat + 2 * (d + 1) < 4294967296 →
    (∀ r ∈ (edS f k d nx s).1, Sh.Ok d r ∧ Sh.its d r ≠ []) ∧ ((edS f k d nx s).1.map (Sh.its d)).flatten = f (Sh.its d s) ∧ (edS f k d nx s).1.length ≤ 2 ∧ nx.toNat ≤ (edS f k d nx s).2.toNat ∧ (edS f k d nx s).2.toNat ≤ nx.toNat + 2 * (d + 1)
  | 0, nx, s, hok, hs, hn => by
    have hl : (f s.2).length ≤ 10 := by
      have h1 := hf.len s.2 hs
      have h2 : s.2.length ≤ 8 := hok
      omega
    have h3 := sprd_len nx (f s.2)
    have h4 := sprd_nx (nx := nx) (l := f s.2) (by omega)
    refine ⟨fun r hr => ?_, sprd_flat0 nx (f s.2), h3, ?_, ?_⟩
    · obtain ⟨h1, h2, -⟩ := sprd_mem hl hr
      exact ⟨h2, h1⟩
    · show nx.toNat ≤ (nx + UInt32.ofNat (sprd nx (f s.2)).length).toNat
      omega
    · show (nx + UInt32.ofNat (sprd nx (f s.2)).length).toNat ≤ _
      omega
  | d + 1, nx, s, hok, hs, hn => by
    obtain ⟨c, hc, hm, h1, h2, h3⟩ := kid_at hok hs k
    have hcs : Srt (Sh.its d c) := by
      rw [h3, Srt.app, Srt.app] at hs
      exact hs.1.2.1
    obtain ⟨q1, q2, q3, q4, q5⟩ := edS_props hf d nx c (hok.2.2 c hm).1 hcs (by omega)
    unfold edS
    rw [hc]
    dsimp only
    generalize kidI (s.2.map fun c => hdK (Sh.its d c)) k = i at *
    generalize edS f k d nx c = R at *
    have hlt : i < s.2.length := (List.getElem?_eq_some_iff.1 hc).1
    have hall : ∀ x ∈ s.2.take i ++ R.1 ++ s.2.drop (i + 1), Sh.Ok d x ∧ Sh.its d x ≠ [] := fun x hx => by
      rcases List.mem_append.1 hx with hx | hx
      · rcases List.mem_append.1 hx with hx | hx
        · exact hok.2.2 x (List.mem_of_mem_take hx)
        · exact q1 x hx
      · exact hok.2.2 x (List.mem_of_mem_drop hx)
    have hl : (s.2.take i ++ R.1 ++ s.2.drop (i + 1)).length ≤ 10 := by
      have : s.2.length ≤ 8 := hok.2.1
      simp only [List.length_append, List.length_take, List.length_drop]; omega
    have hf2 : ((s.2.take i ++ R.1 ++ s.2.drop (i + 1)).map (Sh.its d)).flatten = f (Sh.its (d + 1) s) := by
      rw [h3, hf.app _ _ _ h1 h2, List.map_append, List.map_append, List.flatten_append, List.flatten_append, q2]
    generalize s.2.take i ++ R.1 ++ s.2.drop (i + 1) = M at *
    have h4 := sprd_nx (nx := R.2) (l := M) (by omega)
    have h5 := sprd_len R.2 M
    refine ⟨fun r hr => ?_, ?_, h5, by omega, by omega⟩
    · obtain ⟨g1, g2, g3⟩ := sprd_mem hl hr
      have hok2 : Sh.Ok (d + 1) r := ⟨by have := List.length_pos_iff.2 g1; exact this, g2, fun x hx => hall x (g3 x hx)⟩
      exact ⟨hok2, Sh.ok_ne d r hok2⟩
    · have := sprd_flat R.2 M (Sh.its d)
      rw [hf2] at this
      exact this
end Go.Tg

