/- Contracts of Go functions that the laws reach: what each call answers and leaves in memory, for all arguments within the bounds that each theorem names. -/
import Derived.Test.YtajfhoeejeadkaaInst
import Derived.Test.YtajfhoeejeadkaaAuto
import Derived.Test.YtajfhoeejeadkaaT2
import Derived.Test.YtajfhoeejeadkaaDrw
set_option linter.unusedVariables false
set_option linter.unusedSimpArgs false
set_option maxRecDepth 100000
set_option maxHeartbeats 2000000
namespace Go.Tg
open Go Go.Proofs
abbrev insA (a : Option Addr) (c : Nat) (xs : List Value) (b9 : Nat) (x : Value) : HA := .both (.own (.slice a xs.length c) 31 1 xs.length xs) (.own (.slice (some ⟨b9, 0, none⟩) 1 1) 31 1 1 [x])
theorem ovl (g b9 i la ca lb cb : Nat) (w : World) (cur c9 : List Value) (hne : b9 ≠ g) (h1 : w.heap[b9]? = some (.cells c9.toArray 31 (0, 0))) (h2 : w.heap[g]? = some (.cells cur.toArray 31 (0, 0))) (hc : cur.length ≠ 0) :
    (callFunc 29 #[.slice (some ⟨b9, 0, none⟩) la ca, .slice (some ⟨g, i, none⟩) lb cb]).run Try.prog w = .ok (.value (.bool false)) w := by
  rw [run_callFunc_extern Try.func29 (by kernel_rfl) (by kernel_rfl) (by kernel_rfl) (e := Extern.SlicesOverlaps.overlaps #[51, 51] #[4]) (by kernel_rfl)]
  rw [Lib.run_overlaps_apart w 51 4 31 Try.underlying51 1 Ty.run_size ⟨b9, 0, none⟩ ⟨g, i, none⟩ la ca lb cb hne 31 31 c9.length cur.length (by simp [World.shape?, h1]) (by simp [World.shape?, h2]) hc (frozen_of_row w b9 0 _ _ h1) (frozen_of_row w b9 c9.length _ _ h1)]
  rfl
theorem ins_sl (a : Option Addr) (c : Nat) (xs : List Value) (i : Nat) (hi : i ≤ xs.length) (b9 : Nat) (x : Value) (h1 : ∀ v ∈ xs, v.oneCell' = true) (hx : x.oneCell' = true) (hb : xs.length ≤ 1000000) (g : FH) (w : World)
    (HO : St w (insA a c xs b9 x).fp g g [insA a c xs b9 x] w) :
    Spec Try.prog 26 #[.slice a xs.length c, .int .i64 i, .slice (some ⟨b9, 0, none⟩) 1 1] w (insA a c xs b9 x).fp g (fun v' h' L' => h' = g ∧ ∃ a' c', v' = .slice a' (xs.length + 1) c' ∧ L' = [.own v' 31 1 (xs.length + 1) (xs.take i ++ x :: xs.drop i)]) := by
  have H := HO.split
  have hmx : xs.length ≤ c ∧ c ≤ maxLen := by
    obtain ⟨_, h2⟩ := H.ok 0 _ rfl
    rcases h2 with ⟨h2, h3⟩ | ⟨g2, cap, cur2, h2, _, hg, hnc, hm, hs, ht⟩
    · injection h2 with e1 e2 e3; exact ⟨by omega, by omega⟩
    · cases h2; exact ⟨hnc, hm⟩
  have h9 : (maxLen : Nat) ≤ 9223372036854775807 := by decide
  generalize hF9 : (insA a c xs b9 x).fp = F9 at H ⊢
  unfold Spec
  refine calls_of Try.func26 rfl Try.ntmps26 (by simp) ?_
  by_cases hin : i = xs.length
  · subst hin
    repeat' (first | ((first | refine WL.p rfl ?_ | refine WL.u ?_); first | (refine opk 1 rfl ?_; (refine ost_append (i := 0) (news := [x]) H rfl rfl rfl rfl (by rfl) (by decide) (H.ownRdC (i := 1) rfl) rfl (fun h => by cases h) (by simpa using hx) (by omega) (by simp only [maxLen]; omega) ?_; clear H; intro aa ca wk H; simp only [List.set_cons_zero] at H)) | refine pvQ ?_ | (refine opk 3 rfl ?_; (refine ost_cmp rfl rfl rfl rfl (fun hc => ?_) (fun hc => ?_) <;> (simp only [cmpP] at hc; try exact prIQ))) | (refine opk 4 rfl ?_; (refine ost_cmp rfl rfl rfl rfl (fun hc => ?_) (fun hc => ?_) <;> (simp only [cmpP] at hc; try exact prIQ)))) | refine Wc.seq ?_ | refine then_n ?_ | refine WL.nil ?_ | refine Wc.region ?_ | refine Wc.block ?_ | refine then_r ?_ | refine then_e ?_ | refine inb_e rfl ?_ | refine inb_o rfl ?_ | refine inb_n ?_ | refine inb_r ?_ | refine Wc.skip ?_ | refine Wc.exit ?_ | refine Wc.ret ?_ | refine Wc.cond_true rfl ?_ | refine Wc.cond_false rfl ?_ | (refine Wc.drawn (id := 11) 8 (by kernel_rfl) ?_) | (refine Wc.drawn (id := 15) 8 (by kernel_rfl) ?_) | (refine rgs_nil ?_; intro vs wk hE; replace H := H.ext hE; clear hE) | (refine RGs.bq (fun _ => rfl) rfl (by intro vs w hE hP; have H := H.ext hE; first | exact dbQ | fail) (fun hc => ?_) (fun hc => ?_) <;> ((try simp only [cmpP, decide_eq_true_eq, decide_eq_false_iff_not, dcd_iff, dcd_no] at hc); try exact prDQ)) | refine RGs.pq (fun _ => rfl) rfl (by intro vs w hE hP; have H := H.ext hE; first | exact dvQ | fail) ?_)
    rw [List.take_length, List.drop_length]
    exact fn_ret1 (v := .slice _ _ _) rfl rfl ⟨_, _, H.pick 0 rfl, rfl, _, _, rfl, rfl⟩
  · obtain ⟨g0, cur, rfl, hnc, hcl, hct, H9⟩ := H.ownBlk (i := 0) rfl (by omega)
    clear H; have H := H9; clear H9
    obtain ⟨g9, c9, e9, -, hcl9, hct9, H9⟩ := H.ownBlk (i := 1) rfl (by omega)
    injection e9 with e9
    injection e9 with e9 _ _
    subst e9
    clear H; have H := H9; clear H9
    rw [Nat.mul_one] at hcl hct hcl9 hct9
    simp only [List.set_cons_zero, List.set_cons_succ] at H
    have hne := H.blk_ne (i := 1) (j := 0) rfl rfl (by decide)
    obtain rfl : c9 = [x] := by
      rw [← hct9]; exact (List.take_of_length_le (by omega)).symm
    by_cases hroom : xs.length + 1 ≤ c
    · have hadr := adr_add (c := c) (g := g0) (k := i + 1) (q := (i : Int) + (1 : Nat)) (by omega) (by omega)
      have hadr2 := adr_add (c := c) (g := g0) (k := i) (q := (i : Int)) (by omega) (by omega)
      repeat' (first | ((first | refine WL.p rfl ?_ | refine WL.u ?_); first | refine pvQ ?_ | (refine opk 3 rfl ?_; (refine ost_cmp rfl rfl rfl rfl (fun hc => ?_) (fun hc => ?_) <;> (simp only [cmpP] at hc; try exact prIQ))) | (refine opk 4 rfl ?_; (refine ost_cmp rfl rfl rfl rfl (fun hc => ?_) (fun hc => ?_) <;> (simp only [cmpP] at hc; try exact prIQ)))) | refine Wc.seq ?_ | refine then_n ?_ | refine WL.nil ?_ | refine Wc.region ?_ | refine Wc.block ?_ | refine then_r ?_ | refine then_e ?_ | refine inb_e rfl ?_ | refine inb_o rfl ?_ | refine inb_n ?_ | refine inb_r ?_ | refine Wc.skip ?_ | refine Wc.exit ?_ | refine Wc.ret ?_ | refine Wc.cond_true rfl ?_ | refine Wc.cond_false rfl ?_ | (refine Wc.drawn (id := 11) 8 (by kernel_rfl) ?_) | (refine Wc.drawn (id := 15) 8 (by kernel_rfl) ?_) | (refine rgs_nil ?_; intro vs wk hE; replace H := H.ext hE; clear hE) | (refine RGs.bq (fun _ => rfl) rfl (by intro vs w hE hP; have H := H.ext hE; first | exact dbQ | fail) (fun hc => ?_) (fun hc => ?_) <;> ((try simp only [cmpP, decide_eq_true_eq, decide_eq_false_iff_not, dcd_iff, dcd_no] at hc); try exact prDQ)) | refine RGs.pq (fun _ => rfl) rfl (by intro vs w hE hP; have H := H.ext hE; first | exact dvQ | fail) ?_)
      rw [hadr]
      have hov := fun n9 c9 => ovl g0 b9 (i + 1) 1 1 n9 c9 w cur [x] hne (H.blk (i := 1) rfl) (H.blk (i := 0) rfl) (by omega)
      have hcell : ∀ j, j < xs.length → cur[j]? = xs[j]? := fun j hj => by
        have := congrArg (fun l => l[j]?) hct
        simp only [List.getElem?_take, if_pos hj] at this
        exact this
      have hc1 : ∀ j, j < (xs.drop i).length → cur[i + j]? = (xs.drop i)[j]? := fun j hj => by
        rw [List.length_drop] at hj
        rw [List.getElem?_drop, hcell _ (by omega)]
      have hc2 : ∀ j, j < ([x] : List Value).length → ([x] : List Value)[0 + j]? = ([x] : List Value)[j]? := fun j _ => by rw [Nat.zero_add]
      repeat' (first | ((first | refine WL.p rfl ?_ | refine WL.u ?_); first | (refine opk 1 rfl ?_; first | (refine ost_ext rfl (hov _ _) rfl ?_) | (refine ost_copyB (g := g0) (off := i + 1) (cs := xs.drop i) H rfl rfl hadr rfl hadr2 (by (exact ixQ)) (by rw [List.length_drop]; omega) (cell_in H.bI hc1) (by rw [List.length_drop]; omega) (fun v hv => h1 v (List.mem_of_mem_drop hv)) ?_; clear H; intro wk H; simp only [List.set_cons_zero, List.set_cons_succ] at H) | (refine ost_copyB (g := g0) (off := i) (cs := [x]) H rfl rfl hadr2 rfl rfl (by (exact ixQ)) (by simp; omega) (cell_in (off := 0) (H.blk (i := 1) rfl) hc2) (by simp; omega) (by simpa using hx) ?_; clear H; intro wk H; simp only [List.set_cons_zero, List.set_cons_succ] at H)) | refine pvQ ?_ | (refine opk 3 rfl ?_; (refine ost_cmp rfl rfl rfl rfl (fun hc => ?_) (fun hc => ?_) <;> (simp only [cmpP] at hc; try exact prIQ))) | (refine opk 4 rfl ?_; (refine ost_cmp rfl rfl rfl rfl (fun hc => ?_) (fun hc => ?_) <;> (simp only [cmpP] at hc; try exact prIQ)))) | refine Wc.seq ?_ | refine then_n ?_ | refine WL.nil ?_ | refine Wc.region ?_ | refine Wc.block ?_ | refine then_r ?_ | refine then_e ?_ | refine inb_e rfl ?_ | refine inb_o rfl ?_ | refine inb_n ?_ | refine inb_r ?_ | refine Wc.skip ?_ | refine Wc.exit ?_ | refine Wc.ret ?_ | refine Wc.cond_true rfl ?_ | refine Wc.cond_false rfl ?_ | (refine Wc.drawn (id := 11) 8 (by kernel_rfl) ?_) | (refine Wc.drawn (id := 15) 8 (by kernel_rfl) ?_) | (refine rgs_nil ?_; intro vs wk hE; replace H := H.ext hE; clear hE) | (refine RGs.bq (fun _ => rfl) rfl (by intro vs w hE hP; have H := H.ext hE; first | exact dbQ | fail) (fun hc => ?_) (fun hc => ?_) <;> ((try simp only [cmpP, decide_eq_true_eq, decide_eq_false_iff_not, dcd_iff, dcd_no] at hc); try exact prDQ)) | refine RGs.pq (fun _ => rfl) rfl (by intro vs w hE hP; have H := H.ext hE; first | exact dvQ | fail) ?_)
      have hti : cur.take i = xs.take i := by
        have := congrArg (List.take i) hct
        rw [List.take_take, Nat.min_eq_left (by omega)] at this; exact this
      have e1 : (cur.take (i + 1)).length = i + 1 := by rw [List.length_take]; omega
      have hA : (cur.take (i + 1) ++ xs.drop i ++ cur.drop (i + 1 + (xs.drop i).length)).take i = xs.take i := by
        rw [List.append_assoc, List.take_append_of_le_length (by omega), List.take_take, Nat.min_eq_left (by omega), hti]
      have hB : (cur.take (i + 1) ++ xs.drop i ++ cur.drop (i + 1 + (xs.drop i).length)).drop (i + [x].length) = xs.drop i ++ cur.drop (i + 1 + (xs.drop i).length) := by
        rw [List.append_assoc]; exact List.drop_left' e1
      rw [hA, hB] at H
      have hl8 : (xs.take i ++ [x] ++ (xs.drop i ++ cur.drop (i + 1 + (xs.drop i).length))).length = c := by
        simp only [List.length_append, List.length_take, List.length_drop, List.length_cons, List.length_nil]; omega
      have H2 := H.blkOwnB (i := 0) rfl hl8 (n := xs.length + 1) (by omega) hmx.2
      have hE : (xs.take i ++ [x] ++ (xs.drop i ++ cur.drop (i + 1 + (xs.drop i).length))).take (xs.length + 1) = xs.take i ++ x :: xs.drop i := by
        rw [show xs.take i ++ [x] ++ (xs.drop i ++ cur.drop (i + 1 + (xs.drop i).length)) = (xs.take i ++ x :: xs.drop i) ++ cur.drop (i + 1 + (xs.drop i).length) by simp]
        exact List.take_left' (by simp only [List.length_append, List.length_take, List.length_drop, List.length_cons]; omega)
      rw [hE] at H2
      rw [show ((xs.length : Int) + (1 : Nat)).toNat = xs.length + 1 by omega]
      exact fn_ret1 (v := .slice _ _ _) rfl rfl ⟨_, _, H2.pick 0 rfl, rfl, _, _, rfl, rfl⟩
    · have hadr2 := adr_add (c := c) (g := g0) (k := i) (q := (i : Int)) (by omega) (by omega)
      have hcell : ∀ j, j < xs.length → cur[j]? = xs[j]? := fun j hj => by
        have := congrArg (fun l => l[j]?) hct
        simp only [List.getElem?_take, if_pos hj] at this
        exact this
      have hc1 : ∀ j, j < (xs.drop i).length → cur[i + j]? = (xs.drop i)[j]? := fun j hj => by
        rw [List.length_drop] at hj
        rw [List.getElem?_drop, hcell _ (by omega)]
      have hc2 : ∀ j, j < ([x] : List Value).length → ([x] : List Value)[0 + j]? = ([x] : List Value)[j]? := fun j _ => by rw [Nat.zero_add]
      have hti : cur.take i = xs.take i := by
        have := congrArg (List.take i) hct
        rw [List.take_take, Nat.min_eq_left (by omega)] at this; exact this
      have hit : (xs.take i).length = i := by rw [List.length_take]; omega
      have hold : ∀ w', w'.heap[g0]? = some (.cells cur.toArray 31 (0, 0)) → RdC (full w') (some ⟨g0, 0, none⟩) (xs.take i) := fun w' hw => .inr ⟨g0, 0, cur, _, _, rfl, hw, by rw [List.drop_zero, hit]; exact hti⟩
      repeat' (first | ((first | refine WL.p rfl ?_ | refine WL.u ?_); first | (refine opk 1 rfl ?_; (refine ost_appGZ (n := xs.length + 1 - i) (olds := xs.take i) H rfl rfl rfl (by omega) rfl (hold _ H.bI) hit (by omega) (by omega) (by omega) (by omega) ?_; clear H; intro b8 c8 wk hge8 H hgm8)) | refine pvQ ?_ | (refine opk 3 rfl ?_; (refine ost_cmp rfl rfl rfl rfl (fun hc => ?_) (fun hc => ?_) <;> (simp only [cmpP] at hc; try exact prIQ))) | (refine opk 4 rfl ?_; (refine ost_cmp rfl rfl rfl rfl (fun hc => ?_) (fun hc => ?_) <;> (simp only [cmpP] at hc; try exact prIQ)))) | refine Wc.seq ?_ | refine then_n ?_ | refine WL.nil ?_ | refine Wc.region ?_ | refine Wc.block ?_ | refine then_r ?_ | refine then_e ?_ | refine inb_e rfl ?_ | refine inb_o rfl ?_ | refine inb_n ?_ | refine inb_r ?_ | refine Wc.skip ?_ | refine Wc.exit ?_ | refine Wc.ret ?_ | refine Wc.cond_true rfl ?_ | refine Wc.cond_false rfl ?_ | (refine Wc.drawn (id := 11) 8 (by kernel_rfl) ?_) | (refine Wc.drawn (id := 15) 8 (by kernel_rfl) ?_) | (refine rgs_nil ?_; intro vs wk hE; replace H := H.ext hE; clear hE) | (refine RGs.bq (fun _ => rfl) rfl (by intro vs w hE hP; have H := H.ext hE; first | exact dbQ | fail) (fun hc => ?_) (fun hc => ?_) <;> ((try simp only [cmpP, decide_eq_true_eq, decide_eq_false_iff_not, dcd_iff, dcd_no] at hc); try exact prDQ)) | refine RGs.pq (fun _ => rfl) rfl (by intro vs w hE hP; have H := H.ext hE; first | exact dvQ | fail) ?_)
      have e7 : (i : Int).toNat + (xs.length + 1 - i) = xs.length + 1 := by omega
      rw [e7] at H hge8 ⊢
      have hRl : (xs.take i ++ List.replicate (xs.length + 1 - i) (Value.slice none 0 0) ++ List.replicate (c8 - (xs.length + 1)) (Value.slice none 0 0)).length = c8 := by
        simp only [List.length_append, hit, List.length_replicate]; omega
      have hRi : (xs.take i ++ List.replicate (xs.length + 1 - i) (Value.slice none 0 0) ++ List.replicate (c8 - (xs.length + 1)) (Value.slice none 0 0)).take i = xs.take i := by
        rw [List.append_assoc]; exact List.take_left' hit
      generalize xs.take i ++ List.replicate (xs.length + 1 - i) (Value.slice none 0 0) ++ List.replicate (c8 - (xs.length + 1)) (Value.slice none 0 0) = R at H hRl hRi
      have hadr3 := adr_add (c := c8) (g := b8) (k := i) (q := (i : Int)) (by omega) (by omega)
      by_cases hc8 : c8 = i + 1
      · exfalso; omega
      have hadr4 := adr_add (c := c8) (g := b8) (k := i + 1) (q := (i : Int) + (1 : Nat)) (by omega) hc8
      repeat' (first | ((first | refine WL.p rfl ?_ | refine WL.u ?_); first | (refine opk 1 rfl ?_; first | (refine ost_copyB (g := b8) (off := i) (cs := [x]) H rfl rfl hadr3 rfl rfl (by (exact ixQ)) (by simp; omega) (cell_in (off := 0) (H.blk (i := 2) rfl) hc2) (by simp; omega) (by simpa using hx) ?_; clear H; intro wk H; simp only [List.set_cons_zero, List.set_cons_succ] at H) | (refine ost_copyB (g := b8) (off := i + 1) (cs := xs.drop i) H rfl rfl hadr4 rfl hadr2 (by (exact ixQ)) (by rw [List.length_drop]; omega) (cell_in (H.blk (i := 1) rfl) hc1) (by simp only [List.length_append, List.length_take, List.length_drop, List.length_cons, List.length_nil]; omega) (fun v hv => h1 v (List.mem_of_mem_drop hv)) ?_; clear H; intro wk H; simp only [List.set_cons_zero, List.set_cons_succ] at H)) | refine pvQ ?_ | (refine opk 3 rfl ?_; (refine ost_cmp rfl rfl rfl rfl (fun hc => ?_) (fun hc => ?_) <;> (simp only [cmpP] at hc; try exact prIQ))) | (refine opk 4 rfl ?_; (refine ost_cmp rfl rfl rfl rfl (fun hc => ?_) (fun hc => ?_) <;> (simp only [cmpP] at hc; try exact prIQ)))) | refine Wc.seq ?_ | refine then_n ?_ | refine WL.nil ?_ | refine Wc.region ?_ | refine Wc.block ?_ | refine then_r ?_ | refine then_e ?_ | refine inb_e rfl ?_ | refine inb_o rfl ?_ | refine inb_n ?_ | refine inb_r ?_ | refine Wc.skip ?_ | refine Wc.exit ?_ | refine Wc.ret ?_ | refine Wc.cond_true rfl ?_ | refine Wc.cond_false rfl ?_ | (refine Wc.drawn (id := 11) 8 (by kernel_rfl) ?_) | (refine Wc.drawn (id := 15) 8 (by kernel_rfl) ?_) | (refine rgs_nil ?_; intro vs wk hE; replace H := H.ext hE; clear hE) | (refine RGs.bq (fun _ => rfl) rfl (by intro vs w hE hP; have H := H.ext hE; first | exact dbQ | fail) (fun hc => ?_) (fun hc => ?_) <;> ((try simp only [cmpP, decide_eq_true_eq, decide_eq_false_iff_not, dcd_iff, dcd_no] at hc); try exact prDQ)) | refine RGs.pq (fun _ => rfl) rfl (by intro vs w hE hP; have H := H.ext hE; first | exact dvQ | fail) ?_)
      rw [hRi] at H
      have e1 : (xs.take i ++ [x]).length = i + 1 := by simp only [List.length_append, hit, List.length_cons, List.length_nil]
      have hA : (xs.take i ++ [x] ++ R.drop (i + [x].length)).take (i + 1) = xs.take i ++ [x] := List.take_left' e1
      rw [hA] at H
      generalize hD : (xs.take i ++ [x] ++ R.drop (i + [x].length)).drop (i + 1 + (xs.drop i).length) = D at H
      have hDl : D.length = c8 - (xs.length + 1) := by
        rw [← hD]
        simp only [List.length_append, List.length_drop, List.length_cons, List.length_nil, hit]; omega
      have hl8 : (xs.take i ++ [x] ++ xs.drop i ++ D).length = c8 := by
        simp only [List.length_append, hit, List.length_drop, List.length_cons, List.length_nil]; omega
      have H2 := H.blkOwnB (i := 0) rfl hl8 (n := xs.length + 1) (by omega) hgm8
      have hE : (xs.take i ++ [x] ++ xs.drop i ++ D).take (xs.length + 1) = xs.take i ++ x :: xs.drop i := by
        rw [show xs.take i ++ [x] ++ xs.drop i ++ D = (xs.take i ++ x :: xs.drop i) ++ D by simp]
        exact List.take_left' (by simp only [List.length_append, hit, List.length_drop, List.length_cons]; omega)
      rw [hE] at H2
      exact fn_ret1 (v := .slice _ _ _) rfl rfl ⟨_, _, H2.pick 0 rfl, rfl, _, _, rfl, rfl⟩
end Go.Tg

set_option linter.unusedVariables false
set_option linter.unusedSimpArgs false
set_option maxRecDepth 100000
set_option maxHeartbeats 2000000
namespace Go.Tg
open Go Go.Proofs

abbrev pt (b : Nat) : Value := .pointer (some ⟨b, 0, none⟩)
structure EnT where
  k : LkT
  v : Value
  b : Nat
  lv : List (Value × List UInt8)
def EnT.me (e : EnT) : ME LkT := ⟨e.k, e.v, e.b⟩
def lvH (lv : List (Value × List UInt8)) : HA := HA.all (lv.map fun x => own8 x.1 5 x.2)
def vsH (v : Value) (lv : List (Value × List UInt8)) : HA := .own v 31 1 lv.length (lv.map (·.1))
def enH (e : EnT) : HA := .both (vsH e.v e.lv) (lvH e.lv)
def poL (rp rm n : Int) (mb : Nat) : List Value := [.int .i64 rp, .int .i64 rm, .int .i64 n, .map (some mb)]
abbrev poB (pb mb : Nat) (rp rm n : Int) : HA := .blk pb (.cells (poL rp rm n mb).toArray 57 (0, 0))
abbrev moB (mb : Nat) (es : List EnT) (clk : Nat) : HA := .blk mb (mpO cLk (es.map EnT.me) clk)
def poH (pb mb : Nat) (rp rm n : Int) (es : List EnT) (clk : Nat) : HA := .both (poB pb mb rp rm n) (.both (moB mb es clk) (HA.all (es.map enH)))
structure InvE (es : List EnT) (clk : Nat) : Prop where
  ks : (es.map (·.k)).Nodup
  bs : (es.map (·.b)).Nodup
  lt : ∀ e ∈ es, e.b < clk
def ltE (es : List EnT) (k : LkT) : List (List UInt8) := match es.find? (fun e => decide (e.k = k)) with
  | some e => e.lv.map (·.2)
  | none => []
def faultC (rp : Int) (k : LkT) : Int := if k = (0, 0) then 0 else if rp ≤ k.1.toNat ∨ rp ≤ k.2.toNat then 2 else 0
def zeroLk : List Value := [.int .u8 0, .int .u8 0]
theorem lk_zero (k : LkT) : lkL k = zeroLk ↔ k = (0, 0) := by
  constructor
  · intro h; exact lkL_inj (b := (0, 0)) h
  · rintro rfl; rfl
theorem po_fault (pb mb : Nat) (rp rm n : Int) (k : LkT) (h0 : FH) (w : World) (hs : Sat h0 w) (hb : h0 pb = some (.cells (poL rp rm n mb).toArray 57 (0, 0))) :
    SpecV Try.prog 20 #[pt pb, .agg (lkL k).toArray] w (.int .i64 (faultC rp k)) := by
  have H := St.start hs
  have hz := lk_zero k
  have t1 : Typed [.i .u8, .i .u8] (lkL k) := rfl
  have t2 : Typed [.i .u8, .i .u8] zeroLk := rfl
  have g0 : (poL rp rm n mb)[0 + 0]? = some (.int .i64 rp) := rfl
  have g3 : (poL rp rm n mb)[0 + 3]? = some (.map (some mb)) := rfl
  have u1 := k.1.toNat_lt; have u2 := k.2.toNat_lt
  have q0 : (lkL k)[0 + 0]? = some (.int .u8 k.1.toNat) := rfl
  have q1 : (lkL k)[0 + 1]? = some (.int .u8 k.2.toNat) := rfl
  have lk2 : (lkL k).length = 2 := rfl
  unfold SpecV
  refine calls_of Try.func20 rfl Try.ntmps20 (by simp) ?_
  unfold faultC
  by_cases hk : k = (0, 0)
  · rw [if_pos hk]
    have hz := hz.2 hk
    repeat' (first | ((first | refine WL.p rfl ?_ | refine WL.u ?_ | refine WL.g rfl rfl ?_ | refine WL.gu rfl ?_); first | (refine opk 3 rfl ?_; (refine ost_eqAD (q := true) (ys := zeroLk) rfl (by decide) rfl rfl t1 t2 (by simp [hz]) ?_)) | refine pvQ ?_ | (refine opk 3 rfl ?_; first | (refine ost_eqA rfl (by decide) rfl rfl tyQ tyQ (fun hc => ?_) (fun hc => ?_) <;> try exact prEQ) | (refine ost_neA rfl (by decide) rfl rfl tyQ tyQ (fun hc => ?_) (fun hc => ?_) <;> try exact prEQ) | (refine ost_cmp rfl rfl rfl rfl (fun hc => ?_) (fun hc => ?_) <;> (simp only [cmpP] at hc; try exact prIQ)) | (refine ost_ptEq rfl rfl rfl (fun hc => ?_) (fun hc => ?_) <;> try (simp at hc; done)) | (refine ost_ptNe rfl rfl rfl (fun hc => ?_) (fun hc => ?_) <;> try (simp at hc; done)) | (refine ost_mpEq rfl rfl rfl (fun hc => ?_) (fun hc => ?_) <;> try (simp at hc; done)) | (refine ost_mpNe rfl rfl rfl (fun hc => ?_) (fun hc => ?_) <;> try (simp at hc; done))) | (refine opk 4 rfl ?_; (refine ost_cmp rfl rfl rfl rfl (fun hc => ?_) (fun hc => ?_) <;> (simp only [cmpP] at hc; try exact prIQ))) | (refine opk 9 rfl ?_; (refine ost_boxq H rfl ?_; clear H; intro bk wk H))) | refine Wc.seq ?_ | refine then_n ?_ | refine WL.nil ?_ | refine Wc.region ?_ | refine Wc.block ?_ | refine then_r ?_ | refine then_e ?_ | refine inb_e rfl ?_ | refine inb_o rfl ?_ | refine inb_n ?_ | refine inb_r ?_ | refine Wc.skip ?_ | refine Wc.exit ?_ | refine Wc.ret ?_ | refine Wc.cond_true rfl ?_ | refine Wc.cond_false rfl ?_ | (refine Wc.drawn (id := 5) 16 (by kernel_rfl) ?_) | refine WL.skp rfl rfl ?_ | refine WL.sku rfl ?_ | (refine rgs_nil ?_; intro vs wk hE; replace H := H.ext hE; clear hE) | refine RGs.skp (fun _ => rfl) rfl ?_ | (refine RGs.bq (fun _ => rfl) rfl (by intro vs w hE hP; have H := H.ext hE; first | exact dbQ | fail) (fun hc => ?_) (fun hc => ?_) <;> ((try simp only [cmpP, decide_eq_true_eq, decide_eq_false_iff_not, dcd_iff, dcd_no] at hc); try exact prDQ)) | refine RGs.pq (fun _ => rfl) rfl (by intro vs w hE hP; have H := H.ext hE; first | exact dvQ | fail) ?_)
    all_goals first | ((first | refine fn_ret1 (v := .bool _) rfl rfl ⟨?_, H.fr⟩ | refine fn_ret1 (v := .int _ _) rfl rfl ⟨?_, H.fr⟩ | refine fn_ret1 (v := .string _) rfl rfl ⟨?_, H.fr⟩); rfl) | (exfalso; omega)
  · rw [if_neg hk]
    have hz := fun h => hk (hz.1 h)
    by_cases hf : rp ≤ k.1.toNat ∨ rp ≤ k.2.toNat
    · rw [if_pos hf]
      repeat' (first | ((first | refine WL.p rfl ?_ | refine WL.u ?_ | refine WL.g rfl rfl ?_ | refine WL.gu rfl ?_); first | (refine opk 3 rfl ?_; (refine ost_eqAD (q := false) (ys := zeroLk) rfl (by decide) rfl rfl t1 t2 ⟨fun h => by cases h, fun h => (hz h).elim⟩ ?_)) | refine pvQ ?_ | (refine opk 3 rfl ?_; first | (refine ost_eqA rfl (by decide) rfl rfl tyQ tyQ (fun hc => ?_) (fun hc => ?_) <;> try exact prEQ) | (refine ost_neA rfl (by decide) rfl rfl tyQ tyQ (fun hc => ?_) (fun hc => ?_) <;> try exact prEQ) | (refine ost_cmp rfl rfl rfl rfl (fun hc => ?_) (fun hc => ?_) <;> (simp only [cmpP] at hc; try exact prIQ)) | (refine ost_ptEq rfl rfl rfl (fun hc => ?_) (fun hc => ?_) <;> try (simp at hc; done)) | (refine ost_ptNe rfl rfl rfl (fun hc => ?_) (fun hc => ?_) <;> try (simp at hc; done)) | (refine ost_mpEq rfl rfl rfl (fun hc => ?_) (fun hc => ?_) <;> try (simp at hc; done)) | (refine ost_mpNe rfl rfl rfl (fun hc => ?_) (fun hc => ?_) <;> try (simp at hc; done))) | (refine opk 4 rfl ?_; (refine ost_cmp rfl rfl rfl rfl (fun hc => ?_) (fun hc => ?_) <;> (simp only [cmpP] at hc; try exact prIQ))) | (refine opk 9 rfl ?_; (refine ost_boxq H rfl ?_; clear H; intro bk wk H))) | refine Wc.seq ?_ | refine then_n ?_ | refine WL.nil ?_ | refine Wc.region ?_ | refine Wc.block ?_ | refine then_r ?_ | refine then_e ?_ | refine inb_e rfl ?_ | refine inb_o rfl ?_ | refine inb_n ?_ | refine inb_r ?_ | refine Wc.skip ?_ | refine Wc.exit ?_ | refine Wc.ret ?_ | refine Wc.cond_true rfl ?_ | refine Wc.cond_false rfl ?_ | (refine Wc.drawn (id := 5) 16 (by kernel_rfl) ?_) | refine WL.skp rfl rfl ?_ | refine WL.sku rfl ?_ | (refine rgs_nil ?_; intro vs wk hE; replace H := H.ext hE; clear hE) | refine RGs.skp (fun _ => rfl) rfl ?_ | (refine RGs.bq (fun _ => rfl) rfl (by intro vs w hE hP; have H := H.ext hE; first | exact dbQ | fail) (fun hc => ?_) (fun hc => ?_) <;> ((try simp only [cmpP, decide_eq_true_eq, decide_eq_false_iff_not, dcd_iff, dcd_no] at hc); try exact prDQ)) | refine RGs.pq (fun _ => rfl) rfl (by intro vs w hE hP; have H := H.ext hE; first | exact dvQ | fail) ?_)
      all_goals first | ((first | refine fn_ret1 (v := .bool _) rfl rfl ⟨?_, H.fr⟩ | refine fn_ret1 (v := .int _ _) rfl rfl ⟨?_, H.fr⟩ | refine fn_ret1 (v := .string _) rfl rfl ⟨?_, H.fr⟩); rfl) | (exfalso; omega)
    · rw [if_neg hf]
      repeat' (first | ((first | refine WL.p rfl ?_ | refine WL.u ?_ | refine WL.g rfl rfl ?_ | refine WL.gu rfl ?_); first | (refine opk 3 rfl ?_; (refine ost_eqAD (q := false) (ys := zeroLk) rfl (by decide) rfl rfl t1 t2 ⟨fun h => by cases h, fun h => (hz h).elim⟩ ?_)) | refine pvQ ?_ | (refine opk 3 rfl ?_; first | (refine ost_eqA rfl (by decide) rfl rfl tyQ tyQ (fun hc => ?_) (fun hc => ?_) <;> try exact prEQ) | (refine ost_neA rfl (by decide) rfl rfl tyQ tyQ (fun hc => ?_) (fun hc => ?_) <;> try exact prEQ) | (refine ost_cmp rfl rfl rfl rfl (fun hc => ?_) (fun hc => ?_) <;> (simp only [cmpP] at hc; try exact prIQ)) | (refine ost_ptEq rfl rfl rfl (fun hc => ?_) (fun hc => ?_) <;> try (simp at hc; done)) | (refine ost_ptNe rfl rfl rfl (fun hc => ?_) (fun hc => ?_) <;> try (simp at hc; done)) | (refine ost_mpEq rfl rfl rfl (fun hc => ?_) (fun hc => ?_) <;> try (simp at hc; done)) | (refine ost_mpNe rfl rfl rfl (fun hc => ?_) (fun hc => ?_) <;> try (simp at hc; done))) | (refine opk 4 rfl ?_; (refine ost_cmp rfl rfl rfl rfl (fun hc => ?_) (fun hc => ?_) <;> (simp only [cmpP] at hc; try exact prIQ))) | (refine opk 9 rfl ?_; (refine ost_boxq H rfl ?_; clear H; intro bk wk H))) | refine Wc.seq ?_ | refine then_n ?_ | refine WL.nil ?_ | refine Wc.region ?_ | refine Wc.block ?_ | refine then_r ?_ | refine then_e ?_ | refine inb_e rfl ?_ | refine inb_o rfl ?_ | refine inb_n ?_ | refine inb_r ?_ | refine Wc.skip ?_ | refine Wc.exit ?_ | refine Wc.ret ?_ | refine Wc.cond_true rfl ?_ | refine Wc.cond_false rfl ?_ | (refine Wc.drawn (id := 5) 16 (by kernel_rfl) ?_) | refine WL.skp rfl rfl ?_ | refine WL.sku rfl ?_ | (refine rgs_nil ?_; intro vs wk hE; replace H := H.ext hE; clear hE) | refine RGs.skp (fun _ => rfl) rfl ?_ | (refine RGs.bq (fun _ => rfl) rfl (by intro vs w hE hP; have H := H.ext hE; first | exact dbQ | fail) (fun hc => ?_) (fun hc => ?_) <;> ((try simp only [cmpP, decide_eq_true_eq, decide_eq_false_iff_not, dcd_iff, dcd_no] at hc); try exact prDQ)) | refine RGs.pq (fun _ => rfl) rfl (by intro vs w hE hP; have H := H.ext hE; first | exact dvQ | fail) ?_)
      all_goals first | ((first | refine fn_ret1 (v := .bool _) rfl rfl ⟨?_, H.fr⟩ | refine fn_ret1 (v := .int _ _) rfl rfl ⟨?_, H.fr⟩ | refine fn_ret1 (v := .string _) rfl rfl ⟨?_, H.fr⟩); rfl) | (exfalso; omega)
theorem po_LenL (pb : Nat) (v0 v1 v3 : Value) (n : Int) (h0 : FH) (w : World) (hs : Sat h0 w) (hb : h0 pb = some (.cells [v0, v1, .int .i64 n, v3].toArray 57 (0, 0))) :
    SpecV Try.prog 16 #[pt pb] w (.int .i64 n) := by
  have H := St.start hs
  have g2 : [v0, v1, .int .i64 n, v3][0 + 2]? = some (.int .i64 n) := rfl
  unfold SpecV
  refine calls_of Try.func16 rfl Try.ntmps16 (by simp) ?_
  repeat' (first | ((first | refine WL.p rfl ?_ | refine WL.u ?_); first | refine pvQ ?_ | (refine opk 3 rfl ?_; first | (refine ost_ptEq rfl rfl rfl (fun hc => ?_) (fun hc => ?_) <;> try (simp at hc; done)) | (refine ost_ptNe rfl rfl rfl (fun hc => ?_) (fun hc => ?_) <;> try (simp at hc; done)))) | refine Wc.seq ?_ | refine then_n ?_ | refine WL.nil ?_ | refine Wc.region ?_ | refine Wc.block ?_ | refine then_r ?_ | refine then_e ?_ | refine inb_e rfl ?_ | refine inb_o rfl ?_ | refine inb_n ?_ | refine inb_r ?_ | refine Wc.skip ?_ | refine Wc.exit ?_ | refine Wc.ret ?_ | refine Wc.cond_true rfl ?_ | refine Wc.cond_false rfl ?_)
  all_goals first | ((first | refine fn_ret1 (v := .bool _) rfl rfl ⟨?_, H.fr⟩ | refine fn_ret1 (v := .int _ _) rfl rfl ⟨?_, H.fr⟩ | refine fn_ret1 (v := .string _) rfl rfl ⟨?_, H.fr⟩); rfl) | (exfalso; omega)
def okR (rp rm : Int) : Prop := 2 ≤ rp ∧ rp ≤ 16 ∧ 1 ≤ rm ∧ rm ≤ 1024
theorem po_New (rp rm : Int) (hr : okR rp rm) (h0 : FH) (w : World) (hs : Sat h0 w) :
    Spec Try.prog 8 #[.int .i64 rp, .int .i64 rm] w [] h0 (fun v h' L' => h' = h0 ∧ ∃ pb mb, v = pt pb ∧ L' = [poH pb mb rp rm 0 [] 0]) := by
  have H := St.start hs
  obtain ⟨r1, r2, r3, r4⟩ := hr
  unfold Spec
  refine calls_of Try.func8 rfl Try.ntmps8 (by simp) ?_
  repeat' (first | ((first | refine WL.p rfl ?_ | refine WL.u ?_ | refine WL.g rfl rfl ?_ | refine WL.gu rfl ?_); first | (refine opk 13 rfl ?_; (refine ost_makeMapH H rfl ?_; clear H; intro mb wk H)) | refine pvQ ?_ | (refine opk 3 rfl ?_; (refine ost_cmp rfl rfl rfl rfl (fun hc => ?_) (fun hc => ?_) <;> (simp only [cmpP] at hc; try exact prIQ))) | (refine opk 4 rfl ?_; (refine ost_cmp rfl rfl rfl rfl (fun hc => ?_) (fun hc => ?_) <;> (simp only [cmpP] at hc; try exact prIQ))) | (refine opk 9 rfl ?_; (refine ost_boxq H rfl ?_; clear H; intro bk wk H))) | refine Wc.seq ?_ | refine then_n ?_ | refine WL.nil ?_ | refine Wc.region ?_ | refine Wc.block ?_ | refine then_r ?_ | refine then_e ?_ | refine inb_e rfl ?_ | refine inb_o rfl ?_ | refine inb_n ?_ | refine inb_r ?_ | refine Wc.skip ?_ | refine Wc.exit ?_ | refine Wc.ret ?_ | refine Wc.cond_true rfl ?_ | refine Wc.cond_false rfl ?_ | refine WL.skp rfl rfl ?_ | refine WL.sku rfl ?_)
  all_goals first | (exfalso; omega) | skip
  have H2 : St w [] h0 h0 [poB _ mb rp rm 0, moB mb [] 0, HA.all (([] : List EnT).map enH)] wk := H.nilOwn0.picks [1, 2, 0] rfl (by decide)
  exact fn_ret1 (v := .pointer _) rfl rfl ⟨_, _, H2.join3, rfl, _, mb, rfl, rfl⟩
theorem po_NewNil (rp rm : Int) (hr : ¬ okR rp rm) (w : World) : SpecV Try.prog 8 #[.int .i64 rp, .int .i64 rm] w (.pointer none) := by
  refine specV_of fun h0 hs H => ?_
  unfold okR at hr
  refine calls_of Try.func8 rfl Try.ntmps8 (by simp) ?_
  repeat' (first | ((first | refine WL.p rfl ?_ | refine WL.u ?_ | refine WL.g rfl rfl ?_ | refine WL.gu rfl ?_); first | (refine opk 13 rfl ?_; (refine ost_makeMapH H rfl ?_; clear H; intro mb wk H)) | refine pvQ ?_ | (refine opk 3 rfl ?_; (refine ost_cmp rfl rfl rfl rfl (fun hc => ?_) (fun hc => ?_) <;> (simp only [cmpP] at hc; try exact prIQ))) | (refine opk 4 rfl ?_; (refine ost_cmp rfl rfl rfl rfl (fun hc => ?_) (fun hc => ?_) <;> (simp only [cmpP] at hc; try exact prIQ))) | (refine opk 9 rfl ?_; (refine ost_boxq H rfl ?_; clear H; intro bk wk H))) | refine Wc.seq ?_ | refine then_n ?_ | refine WL.nil ?_ | refine Wc.region ?_ | refine Wc.block ?_ | refine then_r ?_ | refine then_e ?_ | refine inb_e rfl ?_ | refine inb_o rfl ?_ | refine inb_n ?_ | refine inb_r ?_ | refine Wc.skip ?_ | refine Wc.exit ?_ | refine Wc.ret ?_ | refine Wc.cond_true rfl ?_ | refine Wc.cond_false rfl ?_ | refine WL.skp rfl rfl ?_ | refine WL.sku rfl ?_)
  all_goals first | (refine fn_ret1 (v := .pointer none) rfl rfl ⟨rfl, H.fr⟩) | (exfalso; omega)
theorem r21_Right (rp rm : Int) (w : World) : SpecV Try.prog 9 #[.int .i64 rp, .int .i64 rm] w (.bool (dcd (okR rp rm))) := by
  refine specV_of fun h0 hs H => ?_
  refine calls_of Try.func9 rfl Try.ntmps9 (by simp) ?_
  by_cases hr : okR rp rm
  · rw [dcd_iff.2 hr]
    unfold okR at hr
    repeat' (first | ((first | refine WL.p rfl ?_ | refine WL.u ?_ | refine WL.g rfl rfl ?_ | refine WL.gu rfl ?_); first | refine pvQ ?_ | (refine opk 3 rfl ?_; (refine ost_cmp rfl rfl rfl rfl (fun hc => ?_) (fun hc => ?_) <;> (simp only [cmpP] at hc; try exact prIQ))) | (refine opk 4 rfl ?_; (refine ost_cmp rfl rfl rfl rfl (fun hc => ?_) (fun hc => ?_) <;> (simp only [cmpP] at hc; try exact prIQ)))) | refine Wc.seq ?_ | refine then_n ?_ | refine WL.nil ?_ | refine Wc.region ?_ | refine Wc.block ?_ | refine then_r ?_ | refine then_e ?_ | refine inb_e rfl ?_ | refine inb_o rfl ?_ | refine inb_n ?_ | refine inb_r ?_ | refine Wc.skip ?_ | refine Wc.exit ?_ | refine Wc.ret ?_ | refine Wc.cond_true rfl ?_ | refine Wc.cond_false rfl ?_ | refine WL.skp rfl rfl ?_ | refine WL.sku rfl ?_)
    all_goals first | ((first | refine fn_ret1 (v := .bool _) rfl rfl ⟨?_, H.fr⟩ | refine fn_ret1 (v := .int _ _) rfl rfl ⟨?_, H.fr⟩ | refine fn_ret1 (v := .string _) rfl rfl ⟨?_, H.fr⟩); rfl) | (exfalso; omega)
  · rw [dcd_no.2 hr]
    unfold okR at hr
    repeat' (first | ((first | refine WL.p rfl ?_ | refine WL.u ?_ | refine WL.g rfl rfl ?_ | refine WL.gu rfl ?_); first | refine pvQ ?_ | (refine opk 3 rfl ?_; (refine ost_cmp rfl rfl rfl rfl (fun hc => ?_) (fun hc => ?_) <;> (simp only [cmpP] at hc; try exact prIQ))) | (refine opk 4 rfl ?_; (refine ost_cmp rfl rfl rfl rfl (fun hc => ?_) (fun hc => ?_) <;> (simp only [cmpP] at hc; try exact prIQ)))) | refine Wc.seq ?_ | refine then_n ?_ | refine WL.nil ?_ | refine Wc.region ?_ | refine Wc.block ?_ | refine then_r ?_ | refine then_e ?_ | refine inb_e rfl ?_ | refine inb_o rfl ?_ | refine inb_n ?_ | refine inb_r ?_ | refine Wc.skip ?_ | refine Wc.exit ?_ | refine Wc.ret ?_ | refine Wc.cond_true rfl ?_ | refine Wc.cond_false rfl ?_ | refine WL.skp rfl rfl ?_ | refine WL.sku rfl ?_)
    all_goals first | ((first | refine fn_ret1 (v := .bool _) rfl rfl ⟨?_, H.fr⟩ | refine fn_ret1 (v := .int _ _) rfl rfl ⟨?_, H.fr⟩ | refine fn_ret1 (v := .string _) rfl rfl ⟨?_, H.fr⟩); rfl) | (exfalso; omega)
end Go.Tg

set_option linter.unusedVariables false
set_option linter.unusedSimpArgs false
set_option maxRecDepth 100000
set_option maxHeartbeats 2000000
namespace Go.Tg
open Go Go.Proofs
def idxE (es : List EnT) (k : LkT) : Option Nat := es.findIdx? fun e => decide (e.k = k)
theorem idxM_me (es : List EnT) (k : LkT) : idxM (es.map EnT.me) k = idxE es k := by
  unfold idxM idxE
  rw [List.findIdx?_map]; rfl
theorem idxE_some {es : List EnT} {k : LkT} {i : Nat} (h : idxE es k = some i) : ∃ e, es[i]? = some e ∧ e.k = k ∧ i < es.length := by
  unfold idxE at h
  obtain ⟨h1, h2, -⟩ := List.findIdx?_eq_some_iff_getElem.1 h
  exact ⟨es[i], List.getElem?_eq_getElem h1, by simpa using h2, h1⟩
theorem idxE_none {es : List EnT} {k : LkT} (h : idxE es k = none) : ∀ e ∈ es, e.k ≠ k := by
  unfold idxE at h
  intro x hx
  have := List.findIdx?_eq_none_iff.1 h x hx
  simpa using this
theorem find_idx (es : List EnT) (k : LkT) : es.find? (fun e => decide (e.k = k)) = match idxE es k with | some i => es[i]? | none => none := by
  unfold idxE
  induction es with
  | nil => rfl
  | cons e es ih =>
    rw [List.find?_cons, List.findIdx?_cons]
    by_cases h : e.k = k
    · simp [h]
    · simp only [h, decide_false, Bool.false_eq_true, if_false]
      rw [ih]
      cases es.findIdx? (fun e => decide (e.k = k)) <;> rfl
theorem ltE_some {es : List EnT} {k : LkT} {i : Nat} {e : EnT} (h : idxE es k = some i) (he : es[i]? = some e) : ltE es k = e.lv.map (·.2) := by
  unfold ltE; rw [find_idx, h]; simp only [he]
theorem ltE_none {es : List EnT} {k : LkT} (h : idxE es k = none) : ltE es k = [] := by
  unfold ltE; rw [find_idx, h]
theorem getM_some {es : List EnT} {k : LkT} {i : Nat} {e : EnT} {z : Value} (h : idxE es k = some i) (he : es[i]? = some e) : getM z (es.map EnT.me) k = e.v := by
  unfold getM; rw [idxM_me, h]; simp [he, EnT.me]
theorem getM_none {es : List EnT} {k : LkT} {z : Value} (h : idxE es k = none) : getM z (es.map EnT.me) k = z := by
  unfold getM; rw [idxM_me, h]
def EnT.put (e : EnT) (v : Value) (lv : List (Value × List UInt8)) : EnT := ⟨e.k, v, e.b, lv⟩
theorem set_keys {es : List EnT} {i : Nat} {e e' : EnT} (he : es[i]? = some e) (hk : e'.k = e.k) : (es.set i e').map (·.k) = es.map (·.k) := by
  apply List.ext_getElem?
  intro j
  simp only [List.getElem?_map, List.getElem?_set]
  by_cases hj : i = j
  · subst hj
    have := (List.getElem?_eq_some_iff.1 he).1
    rw [if_pos rfl, if_pos this, he]; simp [hk]
  · simp [hj]
theorem set_borns {es : List EnT} {i : Nat} {e e' : EnT} (he : es[i]? = some e) (hb : e'.b = e.b) : (es.set i e').map (·.b) = es.map (·.b) := by
  apply List.ext_getElem?
  intro j
  simp only [List.getElem?_map, List.getElem?_set]
  by_cases hj : i = j
  · subst hj
    have := (List.getElem?_eq_some_iff.1 he).1
    rw [if_pos rfl, if_pos this, he]; simp [hb]
  · simp [hj]
theorem idxE_keys {es es' : List EnT} (h : es.map (·.k) = es'.map (·.k)) (k : LkT) : idxE es k = idxE es' k := by
  have : ∀ l : List EnT, idxE l k = (l.map (·.k)).findIdx? fun x => decide (x = k) := fun l => by unfold idxE; rw [List.findIdx?_map]; rfl
  rw [this, this, h]
theorem InvE.set {es : List EnT} {clk i : Nat} {e : EnT} {v : Value} {lv : List (Value × List UInt8)} (h : InvE es clk) (he : es[i]? = some e) : InvE (es.set i (e.put v lv)) clk := by
  refine ⟨by rw [set_keys (e' := e.put v lv) he rfl]; exact h.ks, by rw [set_borns (e' := e.put v lv) he rfl]; exact h.bs, fun x hx => ?_⟩
  rcases List.mem_or_eq_of_mem_set hx with h1 | rfl
  · exact h.lt x h1
  · exact h.lt e (List.mem_of_getElem? he)
theorem ltE_set {es : List EnT} {i : Nat} {e : EnT} {k : LkT} {v : Value} {lv : List (Value × List UInt8)} (h : idxE es k = some i) (he : es[i]? = some e) (k' : LkT) : ltE (es.set i (e.put v lv)) k' = if k' = k then lv.map (·.2) else ltE es k' := by
  have hk : ∀ q, idxE (es.set i (e.put v lv)) q = idxE es q := fun q => idxE_keys (set_keys (e' := e.put v lv) he rfl) q
  have hil := (List.getElem?_eq_some_iff.1 he).1
  by_cases hkk : k' = k
  · subst hkk
    rw [if_pos rfl]
    exact ltE_some ((hk _).trans h) (List.getElem?_set_self hil)
  · rw [if_neg hkk]
    cases hq : idxE es k' with
    | none => rw [ltE_none hq, ltE_none ((hk _).trans hq)]
    | some j =>
      obtain ⟨e2, h2, h3, -⟩ := idxE_some hq
      obtain ⟨e3, h4, h5, -⟩ := idxE_some h
      have hij : i ≠ j := fun e9 => by
        subst e9
        rw [h2] at h4; cases h4
        exact hkk (h3.symm.trans h5)
      rw [ltE_some hq h2, ltE_some ((hk _).trans hq) (by rw [List.getElem?_set_ne hij]; exact h2)]
theorem me_set {es : List EnT} {i : Nat} {e : EnT} {v : Value} {lv : List (Value × List UInt8)} (he : es[i]? = some e) : ((es.map EnT.me).modify i fun x => { x with v := v }) = (es.set i (e.put v lv)).map EnT.me := by
  apply List.ext_getElem?
  intro j
  simp only [List.getElem?_modify, List.getElem?_map, List.getElem?_set]
  by_cases hj : i = j
  · subst hj
    have := (List.getElem?_eq_some_iff.1 he).1
    rw [if_pos rfl, if_pos this, he]; simp [EnT.me, EnT.put]
  · simp [hj]
theorem setM_some {es : List EnT} {clk i : Nat} {k : LkT} {e : EnT} {v : Value} {lv : List (Value × List UInt8)} (h : idxE es k = some i) (he : es[i]? = some e) : setM (es.map EnT.me) clk k v = ((es.set i (e.put v lv)).map EnT.me, clk) := by
  unfold setM
  rw [idxM_me, h]
  simp only
  rw [me_set (lv := lv) he]
theorem enH_set {es : List EnT} {i : Nat} {e' : EnT} : (es.map enH).set i (enH e') = (es.set i e').map enH := by rw [List.map_set]
section
variable {ws w : World} {S : List Nat} {h0 h : FH} {L : List HA}
theorem St.entry {X Y : HA} {es : List EnT} {i : Nat} {e : EnT} (H : St ws S h0 h (X :: Y :: HA.all (es.map enH) :: L) w) (he : es[i]? = some e) : St ws S h0 h (vsH e.v e.lv :: lvH e.lv :: X :: Y :: HA.all ((es.map enH).eraseIdx i) :: L) w := by
  have h1 : (es.map enH)[i]? = some (enH e) := by rw [List.getElem?_map, he]; rfl
  have H1 : St ws S h0 h (HA.all (es.map enH) :: X :: Y :: L) w := H.perm ((List.Perm.swap _ _ _).cons X |>.trans (List.Perm.swap _ _ _))
  have H2 := (H1.allTake h1).split
  refine H2.perm (((List.Perm.swap X _ _).trans ((List.Perm.swap Y _ _).cons X)).cons _ |>.cons _)
theorem St.shut {X Y : HA} {es : List EnT} {i : Nat} {e' : EnT} (H : St ws S h0 h (vsH e'.v e'.lv :: lvH e'.lv :: X :: Y :: HA.all ((es.map enH).eraseIdx i) :: L) w) (hi : i < es.length) : St ws S h0 h (.both X (.both Y (HA.all ((es.set i e').map enH))) :: L) w := by
  have H1 : St ws S h0 h (enH e' :: X :: Y :: HA.all ((es.map enH).eraseIdx i) :: L) w := H.join
  have H2 : St ws S h0 h (enH e' :: HA.all ((es.map enH).eraseIdx i) :: X :: Y :: L) w := H1.perm (((List.Perm.swap _ _ _).cons X |>.trans (List.Perm.swap _ _ _)).cons _)
  have H3 := H2.allPut (A := enH e') (by rw [List.length_map]; exact hi)
  rw [enH_set] at H3
  exact (H3.perm ((List.Perm.swap X _ _).trans ((List.Perm.swap Y _ _).cons X))).join3
theorem St.vsForm {v : Value} {lv : List (Value × List UInt8)} {i : Nat} (H : St ws S h0 h L w) (hi : L[i]? = some (vsH v lv)) : ∃ a c, v = .slice a lv.length c := by
  obtain ⟨a, c, e, -⟩ := H.ownRd hi
  exact ⟨a, c, e⟩
theorem St.lvForm {lv : List (Value × List UInt8)} {i : Nat} (H : St ws S h0 h L w) (hi : L[i]? = some (lvH lv)) : ∀ x ∈ lv, ∃ a c, x.1 = .slice a x.2.length c ∧ BS (full w) a c x.2 := fun x hx => by
  have h1 := HA.all_ok (H.ok i _ hi) (List.mem_map.2 ⟨x, hx, rfl⟩ : own8 x.1 _ x.2 ∈ _)
  exact own_BS h1
theorem St.lvOne {lv : List (Value × List UInt8)} {i : Nat} (H : St ws S h0 h L w) (hi : L[i]? = some (lvH lv)) : ∀ v ∈ lv.map (·.1), v.oneCell' = true := fun v hv => by
  obtain ⟨x, hx, rfl⟩ := List.mem_map.1 hv
  obtain ⟨a, c, e, -⟩ := H.lvForm hi x hx
  rw [e]; rfl
theorem St.vsCell {v : Value} {lv : List (Value × List UInt8)} {i : Nat} (H : St ws S h0 h L w) (hi : L[i]? = some (vsH v lv)) (hp : 0 < lv.length) : ∃ b off l T fr c, v = .slice (some ⟨b, off, none⟩) lv.length c ∧ w.heap[b]? = some (.cells (List.toArray l) T fr) ∧ lv.length ≤ c ∧ c ≤ 9223372036854775807 ∧ ∀ (q : Int) j (x : Value × List UInt8), q.toNat = j → lv[j]? = some x → l[off + q.toNat * 1]? = some x.1 := by
  obtain ⟨a, c, e, h1, h2, h3, -⟩ := H.ownRd hi
  obtain ⟨b, off, l, T, fr, e1, eb, eg⟩ := h3.get (i := 0) (by simpa using hp)
  subst e1
  refine ⟨b, off, l, T, fr, c, e, eb, h1, h2, fun q j x hq hx => ?_⟩
  have hj := (List.getElem?_eq_some_iff.1 hx).1
  rw [hq, Nat.mul_one, eg j (by simpa using hj)]
  rw [List.getElem?_map, hx]; rfl
end
end Go.Tg

