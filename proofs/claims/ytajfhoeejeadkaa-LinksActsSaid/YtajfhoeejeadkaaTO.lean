/- Contracts of Go functions that the laws reach: what each call answers and leaves in memory, for all arguments within the bounds that each theorem names. -/
import Derived.Test.YtajfhoeejeadkaaInst
import Derived.Test.YtajfhoeejeadkaaAuto
import Derived.Test.YtajfhoeejeadkaaTL
set_option linter.unusedVariables false
set_option linter.unusedSimpArgs false
set_option maxRecDepth 100000
set_option maxHeartbeats 8000000
namespace Go.Tg
open Go Go.Proofs
theorem editR_mem {ls : List RL} {i : Nat} {b : List RL} {e : RL} (h : e ∈ editR ls i b) : e ∈ ls ∨ e ∈ b := by
  unfold editR at h
  rcases List.mem_append.1 h with h | h
  · rcases List.mem_append.1 h with h | h
    · exact .inl (List.mem_of_mem_take h)
    · exact .inr h
  · exact .inl (List.mem_of_mem_drop h)
theorem RLs.edit {h h' : FH} {a : Option Addr} {c : Nat} {ls : List RL} {i : Nat} {b : List RL} {a' : Option Addr} {c' : Nat} (r : RLs h a c ls) (hle : FLe h h') (hS : Sl h' 3 a' c' ((editR ls i b).map rlC)) (hb : ∀ e ∈ b, BSv h' e.v e.x) : RLs h' a' c' (editR ls i b) :=
  ⟨hS, fun e he => (editR_mem he).elim (fun h9 => (r.2 e h9).mono hle) (hb e)⟩
theorem r21_Arrive (rp rm : Int) (hok : okR rp rm) (h0 : FH) (a : Option Addr) (c : Nat) (ls : List RL) (k : LkT) (q : Int) (hq1 : -9223372036854775808 ≤ q) (hq2 : q ≤ 9223372036854775807) (w : World) (hs : Sat h0 w) (hL : RLs h0 a c ls) (hl : ls.length ≤ 1024) :
    Spec Try.prog 11 #[.agg (poR a ls.length c rp rm).toArray, .int .u8 k.1.toNat, .int .u8 k.2.toNat, .int .i64 q] w [] h0 (fun v h' L' => ∃ a' c' ls' ax cx, v = .tuple #[.agg (poR a' ls'.length c' rp rm).toArray, .agg (ltL (arrM rp (ls.map RL.p) k q).1.1 (.slice ax (arrM rp (ls.map RL.p) k q).1.2.length cx)).toArray, .int .i64 (arrM rp (ls.map RL.p) k q).2.1] ∧ L' = [] ∧ RLs h' a' c' ls' ∧ BS h' ax cx (arrM rp (ls.map RL.p) k q).1.2 ∧ ls'.map RL.p = (arrM rp (ls.map RL.p) k q).2.2) := by
  have H := St.start hs
  have hS := hL.1
  have hln := hS.lenM
  have g0 : (poR a ls.length c rp rm)[0 + 0]? = some (.slice a ls.length c) := rfl
  have lp3 : (poR a ls.length c rp rm).length = 3 := rfl
  have hon := on_fault hok.1 k
  have lz : zeroL.length = 3 := rfl
  have nil8 : BS h0 none 0 [] := ⟨RdC.nil _ _, by simp, Nat.zero_le _, fun _ => rfl⟩
  have hf := fun w hs => r21_find k q hq1 hq2 rp rm h0 a c ls w hs hL (by omega)
  have hfp := find_pos k ls q 0
  have had : arrM rp (ls.map RL.p) k q = if faultC rp k ≠ 0 then (noLt, faultC rp k, ls.map RL.p) else match posM k (ls.map RL.p) q with
    | none => (noLt, 7, ls.map RL.p)
    | some i => ((ls.map RL.p)[i]?.getD noLt, 0, edM (ls.map RL.p) i []) := rfl
  unfold Spec
  refine calls_of Try.func11 rfl Try.ntmps11 (by simp) ?_
  by_cases h1 : faultC rp k ≠ 0
  · rw [if_pos h1, fault_two h1] at had
    rw [had]
    have hcon : decide (onC rp k) = false := decide_eq_false fun h => h1 (hon.1 h)
    have cO := fun w => hcon ▸ r21_on a ls.length c rp rm k w
    repeat' (first | ((first | refine WL.p rfl ?_ | refine WL.u ?_); first | (refine opk 1 rfl ?_; (refine ost_V H rfl (cO _) rfl ?_; clear H; intro wk H)) | refine pvQ ?_ | (refine opk 3 rfl ?_; (refine ost_cmp rfl rfl rfl rfl (fun hc => ?_) (fun hc => ?_) <;> (simp only [cmpP] at hc; try exact prIQ))) | (refine opk 4 rfl ?_; (refine ost_cmp rfl rfl rfl rfl (fun hc => ?_) (fun hc => ?_) <;> (simp only [cmpP] at hc; try exact prIQ))) | (refine opk 8 rfl ?_; first | (refine ost_store1 H rfl rfl vlQ gvQ ixQ (by first | decide | (simp; omega) | (simp; done) | omega) ?_; clear H; intro wk H; simp only [List.set_cons_zero, List.set_cons_succ, Nat.reduceAdd] at H) | (refine ost_storeW H rfl rfl rfl rfl lQ ixQ lQ okQ ?_; clear H; intro wk H; simp only [List.set_cons_zero, List.set_cons_succ, Nat.reduceAdd] at H)) | (refine opk 9 rfl ?_; first | (refine ost_boxq H rfl ?_; clear H; intro bk wk H) | (refine ost_allocA H rfl ?_; clear H; intro bk wk H) | (refine ost_build1 H rfl rfl rfl evQ lsQ rfl ?_; clear H; intro bk wk H))) | refine Wc.seq ?_ | refine then_n ?_ | refine WL.nil ?_ | refine Wc.region ?_ | refine Wc.block ?_ | refine then_r ?_ | refine then_e ?_ | refine inb_e rfl ?_ | refine inb_o rfl ?_ | refine inb_n ?_ | refine inb_r ?_ | refine Wc.skip ?_ | refine Wc.exit ?_ | refine Wc.ret ?_ | refine Wc.cond_true rfl ?_ | refine Wc.cond_false rfl ?_ | (refine Wc.drawn (id := 8) 3 (by kernel_rfl) ?_) | (refine rgs_nil ?_; intro vs wk hE; replace H := H.ext hE; clear hE) | (refine RGs.bq (fun _ => rfl) rfl (by intro vs w hE hP; have H := H.ext hE; first | exact dbQ | fail) (fun hc => ?_) (fun hc => ?_) <;> ((try simp only [cmpP, decide_eq_true_eq, decide_eq_false_iff_not, dcd_iff, dcd_no] at hc); try exact prDQ)) | refine RGs.pq (fun _ => rfl) rfl (by intro vs w hE hP; have H := H.ext hE; first | exact dvQ | fail) ?_)
    all_goals first | (exfalso; omega) | exact fn_ret3 (v3 := .int _ _) rfl (rv_cellA rfl rfl H.bI lQ) (rv_cellA rfl rfl H.bI lQ) rfl ⟨_, _, H.picks (L' := []) [] rfl (by decide), a, c, ls, none, 0, rfl, rfl, hL, nil8, rfl⟩
  rw [if_neg h1] at had
  have hcon : decide (onC rp k) = true := decide_eq_true (hon.2 (Classical.not_not.1 h1))
  have cO := fun w => hcon ▸ r21_on a ls.length c rp rm k w
  cases hp : posM k (ls.map RL.p) q with
  | none =>
    rw [hp] at had hfp
    rw [had]
    simp only at hfp
    rw [hfp] at hf
    repeat' (first | ((first | refine WL.p rfl ?_ | refine WL.u ?_); first | (refine opk 1 rfl ?_; first | (refine ost_V H rfl (cO _) rfl ?_; clear H; intro wk H) | (refine ost_V H rfl (hf _ H.sat) rfl ?_; clear H; intro wk H)) | refine pvQ ?_ | (refine opk 3 rfl ?_; (refine ost_cmp rfl rfl rfl rfl (fun hc => ?_) (fun hc => ?_) <;> (simp only [cmpP] at hc; try exact prIQ))) | (refine opk 4 rfl ?_; (refine ost_cmp rfl rfl rfl rfl (fun hc => ?_) (fun hc => ?_) <;> (simp only [cmpP] at hc; try exact prIQ))) | (refine opk 8 rfl ?_; first | (refine ost_store1 H rfl rfl vlQ gvQ ixQ (by first | decide | (simp; omega) | (simp; done) | omega) ?_; clear H; intro wk H; simp only [List.set_cons_zero, List.set_cons_succ, Nat.reduceAdd] at H) | (refine ost_storeW H rfl rfl rfl rfl lQ ixQ lQ okQ ?_; clear H; intro wk H; simp only [List.set_cons_zero, List.set_cons_succ, Nat.reduceAdd] at H)) | (refine opk 9 rfl ?_; first | (refine ost_boxq H rfl ?_; clear H; intro bk wk H) | (refine ost_allocA H rfl ?_; clear H; intro bk wk H) | (refine ost_build1 H rfl rfl rfl evQ lsQ rfl ?_; clear H; intro bk wk H))) | refine Wc.seq ?_ | refine then_n ?_ | refine WL.nil ?_ | refine Wc.region ?_ | refine Wc.block ?_ | refine then_r ?_ | refine then_e ?_ | refine inb_e rfl ?_ | refine inb_o rfl ?_ | refine inb_n ?_ | refine inb_r ?_ | refine Wc.skip ?_ | refine Wc.exit ?_ | refine Wc.ret ?_ | refine Wc.cond_true rfl ?_ | refine Wc.cond_false rfl ?_ | (refine Wc.drawn (id := 8) 3 (by kernel_rfl) ?_) | (refine rgs_nil ?_; intro vs wk hE; replace H := H.ext hE; clear hE) | (refine RGs.bq (fun _ => rfl) rfl (by intro vs w hE hP; have H := H.ext hE; first | exact dbQ | fail) (fun hc => ?_) (fun hc => ?_) <;> ((try simp only [cmpP, decide_eq_true_eq, decide_eq_false_iff_not, dcd_iff, dcd_no] at hc); try exact prDQ)) | refine RGs.pq (fun _ => rfl) rfl (by intro vs w hE hP; have H := H.ext hE; first | exact dvQ | fail) ?_)
    all_goals first | (exfalso; omega) | exact fn_ret3 (v3 := .int _ _) rfl (rv_cellA rfl rfl H.bI lQ) (rv_cellA rfl rfl H.bI lQ) rfl ⟨_, _, H.picks (L' := []) [] rfl (by decide), a, c, ls, none, 0, rfl, rfl, hL, nil8, rfl⟩
  | some i =>
    obtain ⟨j, x, rfl, h2, h3, h4, h5⟩ := posM_some hp
    rw [hp] at had hfp
    simp only [Nat.zero_add] at hfp
    rw [hfp] at hf
    simp only [h2, Option.getD_some] at had
    rw [had]
    rw [List.length_map] at h4
    obtain ⟨b, off, l, T, fr, e1, eb, eg⟩ := hS.getM (by decide) (Nat.lt_of_le_of_lt (Nat.zero_le _) h4)
    subst e1
    have g9 := eg (i : Int).toNat i h4 (by omega)
    have lr : (rlC ls[i]).length = 3 := rfl
    rw [List.getElem?_map, List.getElem?_eq_getElem h4] at h2
    injection h2 with h2
    obtain ⟨ax, cx, ev, hx⟩ := hL.2 _ (List.getElem_mem h4)
    have ek : ls[i].k = k := congrArg Prod.fst h2
    have ex : ls[i].x = x := congrArg Prod.snd h2
    have er : rlC ls[i] = ltL k (.slice ax x.length cx) := by unfold rlC; rw [ek, ev, ex]
    rw [er] at g9
    rw [ex] at hx
    clear eg er lr
    repeat' (first | ((first | refine WL.p rfl ?_ | refine WL.u ?_); first | (refine opk 1 rfl ?_; first | (refine ost_V H rfl (cO _) rfl ?_; clear H; intro wk H) | (refine ost_V H rfl (hf _ H.sat) rfl ?_; clear H; intro wk H)) | (refine opk 9 rfl ?_; (refine ost_buildR (rows := []) H rfl (by decide) rfl (by rfl) evP_nil .nil rfl (by simp) ?_; clear H; intro bk wk H)) | refine pvQ ?_ | (refine opk 3 rfl ?_; (refine ost_cmp rfl rfl rfl rfl (fun hc => ?_) (fun hc => ?_) <;> (simp only [cmpP] at hc; try exact prIQ))) | (refine opk 4 rfl ?_; (refine ost_cmp rfl rfl rfl rfl (fun hc => ?_) (fun hc => ?_) <;> (simp only [cmpP] at hc; try exact prIQ))) | (refine opk 8 rfl ?_; first | (refine ost_store1 H rfl rfl vlQ gvQ ixQ (by first | decide | (simp; omega) | (simp; done) | omega) ?_; clear H; intro wk H; simp only [List.set_cons_zero, List.set_cons_succ, Nat.reduceAdd] at H) | (refine ost_storeW H rfl rfl rfl rfl lQ ixQ lQ okQ ?_; clear H; intro wk H; simp only [List.set_cons_zero, List.set_cons_succ, Nat.reduceAdd] at H)) | (refine opk 9 rfl ?_; first | (refine ost_boxq H rfl ?_; clear H; intro bk wk H) | (refine ost_allocA H rfl ?_; clear H; intro bk wk H) | (refine ost_build1 H rfl rfl rfl evQ lsQ rfl ?_; clear H; intro bk wk H))) | refine Wc.seq ?_ | refine then_n ?_ | refine WL.nil ?_ | refine Wc.region ?_ | refine Wc.block ?_ | refine then_r ?_ | refine then_e ?_ | refine inb_e rfl ?_ | refine inb_o rfl ?_ | refine inb_n ?_ | refine inb_r ?_ | refine Wc.skip ?_ | refine Wc.exit ?_ | refine Wc.ret ?_ | refine Wc.cond_true rfl ?_ | refine Wc.cond_false rfl ?_ | (refine Wc.drawn (id := 8) 3 (by kernel_rfl) ?_) | (refine rgs_nil ?_; intro vs wk hE; replace H := H.ext hE; clear hE) | (refine RGs.bq (fun _ => rfl) rfl (by intro vs w hE hP; have H := H.ext hE; first | exact dbQ | fail) (fun hc => ?_) (fun hc => ?_) <;> ((try simp only [cmpP, decide_eq_true_eq, decide_eq_false_iff_not, dcd_iff, dcd_no] at hc); try exact prDQ)) | refine RGs.pq (fun _ => rfl) rfl (by intro vs w hE hP; have H := H.ext hE; first | exact dvQ | fail) ?_)
    all_goals first | (exfalso; omega) | skip
    obtain ⟨a5, c5, h6, e5, hle5, hS5, H9⟩ := H.freezeR (by simp)
    injection e5 with e51 e52 e53
    subst e51; subst e53
    clear H
    have H := H9
    clear H9
    have cE := fun w hs => r21_edit h6 (some ⟨b, off, none⟩) c ls i h4 (some ⟨bk, 0, none⟩) 0 [] w hs (hL.mono hle5) ⟨hS5, fun e he => (List.not_mem_nil he).elim⟩ (by omega) (by simp)
    repeat' (first | ((first | refine WL.p rfl ?_ | refine WL.u ?_); first | (refine opk 1 rfl ?_; (refine ost_Sk H rfl (cE _ H.sat) rfl ?_; clear H; rintro vk wk hfk Lk ⟨a9, c9, rfl, rfl⟩ hle H; simp only [List.cons_append, List.nil_append] at H)) | refine pvQ ?_ | (refine opk 3 rfl ?_; (refine ost_cmp rfl rfl rfl rfl (fun hc => ?_) (fun hc => ?_) <;> (simp only [cmpP] at hc; try exact prIQ))) | (refine opk 4 rfl ?_; (refine ost_cmp rfl rfl rfl rfl (fun hc => ?_) (fun hc => ?_) <;> (simp only [cmpP] at hc; try exact prIQ))) | (refine opk 8 rfl ?_; first | (refine ost_store1 H rfl rfl vlQ gvQ ixQ (by first | decide | (simp; omega) | (simp; done) | omega) ?_; clear H; intro wk H; simp only [List.set_cons_zero, List.set_cons_succ, Nat.reduceAdd] at H) | (refine ost_storeW H rfl rfl rfl rfl lQ ixQ lQ okQ ?_; clear H; intro wk H; simp only [List.set_cons_zero, List.set_cons_succ, Nat.reduceAdd] at H)) | (refine opk 9 rfl ?_; first | (refine ost_boxq H rfl ?_; clear H; intro bk wk H) | (refine ost_allocA H rfl ?_; clear H; intro bk wk H) | (refine ost_build1 H rfl rfl rfl evQ lsQ rfl ?_; clear H; intro bk wk H))) | refine Wc.seq ?_ | refine then_n ?_ | refine WL.nil ?_ | refine Wc.region ?_ | refine Wc.block ?_ | refine then_r ?_ | refine then_e ?_ | refine inb_e rfl ?_ | refine inb_o rfl ?_ | refine inb_n ?_ | refine inb_r ?_ | refine Wc.skip ?_ | refine Wc.exit ?_ | refine Wc.ret ?_ | refine Wc.cond_true rfl ?_ | refine Wc.cond_false rfl ?_)
    all_goals first | (exfalso; omega) | skip
    obtain ⟨b12, eb12⟩ := H.nameB idx1
    subst eb12
    obtain ⟨b9, eb9⟩ := H.nameB idx2
    subst eb9
    obtain ⟨b8, eb8⟩ := H.nameB idx3
    subst eb8
    obtain ⟨b4, eb4⟩ := H.nameB idx4
    subst eb4
    obtain ⟨a7, c7, h7, e7, hle7, hS7, H9⟩ := H.freezeR (rlC_len _)
    injection e7 with e71 e72 e73
    subst e71; subst e73
    clear H
    have H := H9
    clear H9
    have hle9 : FLe h0 h7 := fun k o e => hle7 _ _ (hle _ _ (hle5 _ _ e))
    have hfin := RLs.edit (b := []) hL hle9 hS7 (fun e he => (List.not_mem_nil he).elim)
    have hmp : (editR ls i []).map RL.p = edM (ls.map RL.p) i [] := edit_p ls i []
    have hx9 := hx.mono hle9
    clear cE cO hf hL hS hS7
    generalize editR ls i [] = E at H hfin hmp e72 ⊢
    repeat' (first | ((first | refine WL.p rfl ?_ | refine WL.u ?_); first | refine pvQ ?_ | (refine opk 3 rfl ?_; (refine ost_cmp rfl rfl rfl rfl (fun hc => ?_) (fun hc => ?_) <;> (simp only [cmpP] at hc; try exact prIQ))) | (refine opk 4 rfl ?_; (refine ost_cmp rfl rfl rfl rfl (fun hc => ?_) (fun hc => ?_) <;> (simp only [cmpP] at hc; try exact prIQ))) | (refine opk 8 rfl ?_; first | (refine ost_store1 H rfl rfl vlQ gvQ ixQ (by first | decide | (simp; omega) | (simp; done) | omega) ?_; clear H; intro wk H; simp only [List.set_cons_zero, List.set_cons_succ, Nat.reduceAdd] at H) | (refine ost_storeW H rfl rfl rfl rfl lQ ixQ lQ okQ ?_; clear H; intro wk H; simp only [List.set_cons_zero, List.set_cons_succ, Nat.reduceAdd] at H)) | (refine opk 9 rfl ?_; first | (refine ost_boxq H rfl ?_; clear H; intro bk wk H) | (refine ost_allocA H rfl ?_; clear H; intro bk wk H) | (refine ost_build1 H rfl rfl rfl evQ lsQ rfl ?_; clear H; intro bk wk H))) | refine Wc.seq ?_ | refine then_n ?_ | refine WL.nil ?_ | refine Wc.region ?_ | refine Wc.block ?_ | refine then_r ?_ | refine then_e ?_ | refine inb_e rfl ?_ | refine inb_o rfl ?_ | refine inb_n ?_ | refine inb_r ?_ | refine Wc.skip ?_ | refine Wc.exit ?_ | refine Wc.ret ?_ | refine Wc.cond_true rfl ?_ | refine Wc.cond_false rfl ?_ | (refine Wc.drawM (id := 8) 3 [(2, [.blk b8 _], fun _ L' => L' = [.blk b8 (.cells [.slice a9 E.length c9, .int .i64 rp, .int .i64 rm].toArray 29 (0, 0))])] [.blk b12 _, .blk b9 _, .blk b4 _] [2] H (by kernel_rfl) rfl (by kernel_rfl) (perm_pick [0, 1, 3, 2] 4 rfl (by decide) rfl) ?_) | (refine rgm_nil ?_; intro vs wk outs HM hR; obtain ⟨_, e9_2, -⟩ := hR 2 _ rfl; (try dsimp only at e9_2); simp only [outsL, e9_2, List.cons_append, List.nil_append, List.append_nil] at HM; replace H := HM; clear HM hR) | (refine RGm.bq (fun _ => rfl) rfl (by intro vs w TT hP H; simp only [List.cons_append, List.nil_append] at H; first | exact dbQ | fail) (fun hc => ?_) (fun hc => ?_) <;> ((try simp only [cmpP, decide_eq_true_eq, decide_eq_false_iff_not, dcd_iff, dcd_no] at hc); try exact prDQ)) | refine RGm.pq (fun _ => rfl) rfl (by intro vs w TT hP H; simp only [List.cons_append, List.nil_append] at H; first | exact dvQ | fail) ?_ | refine RGm.mq (fun _ => rfl) rfl (by intro vs w TT hP H; simp only [List.cons_append, List.nil_append] at H; first | (refine ost_storeW H rfl rfl rfl rfl lQ (by (exact ixQ)) lQ (by first | assumption | exact cV_one _ | exact one_set (cV_one _) rfl | exact allOne_of rfl) ?_; intro wk H2; simp only [List.set_cons_zero, List.set_cons_succ, Nat.reduceAdd] at H2; exact ⟨[_], rfl, H2⟩) | fail) ?_ | refine RGm.mu rfl (by intro vs w TT hP H; simp only [List.cons_append, List.nil_append] at H; first | (refine ost_storeW H rfl rfl rfl rfl lQ (by (exact ixQ)) lQ (by first | assumption | exact cV_one _ | exact one_set (cV_one _) rfl | exact allOne_of rfl) ?_; intro wk H2; simp only [List.set_cons_zero, List.set_cons_succ, Nat.reduceAdd] at H2; exact ⟨[_], rfl, H2⟩) | fail) ?_)
    all_goals first | (exfalso; omega) | skip
    exact fn_ret3 (v3 := .int _ _) rfl (rv_cellA rfl rfl H.bI lQ) (rv_cellA rfl rfl H.bI lQ) rfl ⟨_, _, H.picks (L' := []) [] rfl (by decide), a9, c9, E, ax, cx, rfl, rfl, hfin, hx9, hmp⟩
end Go.Tg

set_option linter.unusedVariables false
set_option linter.unusedSimpArgs false
set_option maxRecDepth 100000
set_option maxHeartbeats 8000000
namespace Go.Tg
open Go Go.Proofs
theorem r21_HarmNo (rp rm : Int) (hok : okR rp rm) (h0 : FH) (a : Option Addr) (c : Nat) (ls : List RL) (k : LkT) (q kind : Int) (at_ : UInt16) (by_ : UInt8) (hq1 : -9223372036854775808 ≤ q) (hq2 : q ≤ 9223372036854775807) (w : World) (hs : Sat h0 w) (hL : RLs h0 a c ls) (hl : ls.length ≤ 1024) (C : Int) (hC : C ≠ 0) (hM : harmM rp rm (ls.map RL.p) k q kind at_ by_ = (C, ls.map RL.p)) :
    Spec Try.prog 12 #[.agg (poR a ls.length c rp rm).toArray, .int .u8 k.1.toNat, .int .u8 k.2.toNat, .int .i64 q, .int .i64 kind, .int .u16 at_.toNat, .int .u8 by_.toNat] w [] h0 (fun v h' L' => ∃ a' c' ls', v = .tuple #[.agg (poR a' ls'.length c' rp rm).toArray, .int .i64 C] ∧ L' = [] ∧ RLs h' a' c' ls' ∧ ls'.map RL.p = ls.map RL.p) := by
  have H := St.start hs
  have hS := hL.1
  have hln := hS.lenM
  have g0 : (poR a ls.length c rp rm)[0 + 0]? = some (.slice a ls.length c) := rfl
  have g2 : (poR a ls.length c rp rm)[0 + 2]? = some (.int .i64 rm) := rfl
  have lp3 : (poR a ls.length c rp rm).length = 3 := rfl
  have hon := on_fault hok.1 k
  have hf := fun w hs => r21_find k q hq1 hq2 rp rm h0 a c ls w hs hL (by omega)
  have hfp := find_pos k ls q 0
  have hlm : (ls.map RL.p).length = ls.length := List.length_map ..
  unfold harmM at hM
  unfold Spec
  refine calls_of Try.func12 rfl Try.ntmps12 (by simp) ?_
  by_cases h1 : faultC rp k ≠ 0
  · rw [if_pos h1, fault_two h1] at hM
    injection hM with hM _
    subst hM
    have hcon : decide (onC rp k) = false := decide_eq_false fun h => h1 (hon.1 h)
    have cO := fun w => hcon ▸ r21_on a ls.length c rp rm k w
    repeat' (first | ((first | refine WL.p rfl ?_ | refine WL.u ?_ | refine WL.g rfl rfl ?_ | refine WL.gu rfl ?_); first | (refine opk 1 rfl ?_; (refine ost_V H rfl (cO _) rfl ?_; clear H; intro wk H)) | refine pvQ ?_ | (refine opk 3 rfl ?_; (refine ost_cmp rfl rfl rfl rfl (fun hc => ?_) (fun hc => ?_) <;> (simp only [cmpP] at hc; try exact prIQ))) | (refine opk 4 rfl ?_; (refine ost_cmp rfl rfl rfl rfl (fun hc => ?_) (fun hc => ?_) <;> (simp only [cmpP] at hc; try exact prIQ))) | (refine opk 8 rfl ?_; first | (refine ost_store1 H rfl rfl vlQ gvQ ixQ (by first | decide | (simp; omega) | (simp; done) | omega) ?_; clear H; intro wk H; simp only [List.set_cons_zero, List.set_cons_succ, Nat.reduceAdd] at H) | (refine ost_storeW H rfl rfl rfl rfl lQ ixQ lQ okQ ?_; clear H; intro wk H; simp only [List.set_cons_zero, List.set_cons_succ, Nat.reduceAdd] at H)) | (refine opk 9 rfl ?_; first | (refine ost_boxq H rfl ?_; clear H; intro bk wk H) | (refine ost_allocA H rfl ?_; clear H; intro bk wk H) | (refine ost_build1 H rfl rfl rfl evQ lsQ rfl ?_; clear H; intro bk wk H))) | refine Wc.seq ?_ | refine then_n ?_ | refine WL.nil ?_ | refine Wc.region ?_ | refine Wc.block ?_ | refine then_r ?_ | refine then_e ?_ | refine inb_e rfl ?_ | refine inb_o rfl ?_ | refine inb_n ?_ | refine inb_r ?_ | refine Wc.skip ?_ | refine Wc.exit ?_ | refine Wc.ret ?_ | refine Wc.cond_true rfl ?_ | refine Wc.cond_false rfl ?_ | refine WL.skp rfl rfl ?_ | refine WL.sku rfl ?_)
    all_goals first | (exfalso; omega) | exact fn_ret2 (v2 := .int _ _) rfl (rv_cellA rfl rfl H.bI lQ) rfl ⟨_, _, H.picks (L' := []) [] rfl (by decide), a, c, ls, rfl, rfl, hL, rfl⟩
  rw [if_neg h1] at hM
  have hcon : decide (onC rp k) = true := decide_eq_true (hon.2 (Classical.not_not.1 h1))
  have cO := fun w => hcon ▸ r21_on a ls.length c rp rm k w
  by_cases hk : kind < 1 ∨ 3 < kind
  · rw [if_pos hk] at hM
    injection hM with hM _
    subst hM
    repeat' (first | ((first | refine WL.p rfl ?_ | refine WL.u ?_ | refine WL.g rfl rfl ?_ | refine WL.gu rfl ?_); first | (refine opk 1 rfl ?_; (refine ost_V H rfl (cO _) rfl ?_; clear H; intro wk H)) | refine pvQ ?_ | (refine opk 3 rfl ?_; (refine ost_cmp rfl rfl rfl rfl (fun hc => ?_) (fun hc => ?_) <;> (simp only [cmpP] at hc; try exact prIQ))) | (refine opk 4 rfl ?_; (refine ost_cmp rfl rfl rfl rfl (fun hc => ?_) (fun hc => ?_) <;> (simp only [cmpP] at hc; try exact prIQ))) | (refine opk 8 rfl ?_; first | (refine ost_store1 H rfl rfl vlQ gvQ ixQ (by first | decide | (simp; omega) | (simp; done) | omega) ?_; clear H; intro wk H; simp only [List.set_cons_zero, List.set_cons_succ, Nat.reduceAdd] at H) | (refine ost_storeW H rfl rfl rfl rfl lQ ixQ lQ okQ ?_; clear H; intro wk H; simp only [List.set_cons_zero, List.set_cons_succ, Nat.reduceAdd] at H)) | (refine opk 9 rfl ?_; first | (refine ost_boxq H rfl ?_; clear H; intro bk wk H) | (refine ost_allocA H rfl ?_; clear H; intro bk wk H) | (refine ost_build1 H rfl rfl rfl evQ lsQ rfl ?_; clear H; intro bk wk H))) | refine Wc.seq ?_ | refine then_n ?_ | refine WL.nil ?_ | refine Wc.region ?_ | refine Wc.block ?_ | refine then_r ?_ | refine then_e ?_ | refine inb_e rfl ?_ | refine inb_o rfl ?_ | refine inb_n ?_ | refine inb_r ?_ | refine Wc.skip ?_ | refine Wc.exit ?_ | refine Wc.ret ?_ | refine Wc.cond_true rfl ?_ | refine Wc.cond_false rfl ?_ | refine WL.skp rfl rfl ?_ | refine WL.sku rfl ?_)
    all_goals first | (exfalso; omega) | exact fn_ret2 (v2 := .int _ _) rfl (rv_cellA rfl rfl H.bI lQ) rfl ⟨_, _, H.picks (L' := []) [] rfl (by decide), a, c, ls, rfl, rfl, hL, rfl⟩
  rw [if_neg hk] at hM
  cases hp : posM k (ls.map RL.p) q with
  | none =>
    rw [hp] at hM hfp
    simp only at hfp
    rw [hfp] at hf
    injection hM with hM _
    subst hM
    repeat' (first | ((first | refine WL.p rfl ?_ | refine WL.u ?_ | refine WL.g rfl rfl ?_ | refine WL.gu rfl ?_); first | (refine opk 1 rfl ?_; first | (refine ost_V H rfl (cO _) rfl ?_; clear H; intro wk H) | (refine ost_V H rfl (hf _ H.sat) rfl ?_; clear H; intro wk H)) | refine pvQ ?_ | (refine opk 3 rfl ?_; (refine ost_cmp rfl rfl rfl rfl (fun hc => ?_) (fun hc => ?_) <;> (simp only [cmpP] at hc; try exact prIQ))) | (refine opk 4 rfl ?_; (refine ost_cmp rfl rfl rfl rfl (fun hc => ?_) (fun hc => ?_) <;> (simp only [cmpP] at hc; try exact prIQ))) | (refine opk 8 rfl ?_; first | (refine ost_store1 H rfl rfl vlQ gvQ ixQ (by first | decide | (simp; omega) | (simp; done) | omega) ?_; clear H; intro wk H; simp only [List.set_cons_zero, List.set_cons_succ, Nat.reduceAdd] at H) | (refine ost_storeW H rfl rfl rfl rfl lQ ixQ lQ okQ ?_; clear H; intro wk H; simp only [List.set_cons_zero, List.set_cons_succ, Nat.reduceAdd] at H)) | (refine opk 9 rfl ?_; first | (refine ost_boxq H rfl ?_; clear H; intro bk wk H) | (refine ost_allocA H rfl ?_; clear H; intro bk wk H) | (refine ost_build1 H rfl rfl rfl evQ lsQ rfl ?_; clear H; intro bk wk H))) | refine Wc.seq ?_ | refine then_n ?_ | refine WL.nil ?_ | refine Wc.region ?_ | refine Wc.block ?_ | refine then_r ?_ | refine then_e ?_ | refine inb_e rfl ?_ | refine inb_o rfl ?_ | refine inb_n ?_ | refine inb_r ?_ | refine Wc.skip ?_ | refine Wc.exit ?_ | refine Wc.ret ?_ | refine Wc.cond_true rfl ?_ | refine Wc.cond_false rfl ?_ | refine WL.skp rfl rfl ?_ | refine WL.sku rfl ?_)
    all_goals first | (exfalso; omega) | exact fn_ret2 (v2 := .int _ _) rfl (rv_cellA rfl rfl H.bI lQ) rfl ⟨_, _, H.picks (L' := []) [] rfl (by decide), a, c, ls, rfl, rfl, hL, rfl⟩
  | some i =>
    rw [hp] at hM
    simp only at hM
    by_cases hk1 : kind = 1
    · rw [if_pos hk1] at hM
      injection hM with hM _
      exact absurd hM.symm hC
    rw [if_neg hk1] at hM
    by_cases hk2 : kind = 2
    · rw [if_pos hk2] at hM
      by_cases hr : rm ≤ (ls.map RL.p).length
      · rw [if_pos hr] at hM
        injection hM with hM _
        subst hM
        rw [hlm] at hr
        obtain ⟨j, x, rfl, h2, h3, h4, h5⟩ := posM_some hp
        rw [hp] at hfp
        simp only [Nat.zero_add] at hfp
        rw [hfp] at hf
        have hg : (ls.map RL.p)[i]?.getD noLt = (k, x) := by rw [h2]; rfl
        rw [List.length_map] at h4
        obtain ⟨b, off, l, T, fr, e1, eb, eg⟩ := hS.getM (by decide) (Nat.lt_of_le_of_lt (Nat.zero_le _) h4)
        subst e1
        have g9 := eg (i : Int).toNat i h4 (by omega)
        have lr : (rlC ls[i]).length = 3 := rfl
        rw [List.getElem?_map, List.getElem?_eq_getElem h4] at h2
        injection h2 with h2
        obtain ⟨ax, cx, ev, hx⟩ := hL.2 _ (List.getElem_mem h4)
        have ek : ls[i].k = k := congrArg Prod.fst h2
        have ex : ls[i].x = x := congrArg Prod.snd h2
        have er : rlC ls[i] = ltL k (.slice ax x.length cx) := by unfold rlC; rw [ek, ev, ex]
        rw [er] at g9
        rw [ex] at hx
        clear eg er lr
        repeat' (first | ((first | refine WL.p rfl ?_ | refine WL.u ?_ | refine WL.g rfl rfl ?_ | refine WL.gu rfl ?_); first | (refine opk 1 rfl ?_; first | (refine ost_V H rfl (cO _) rfl ?_; clear H; intro wk H) | (refine ost_V H rfl (hf _ H.sat) rfl ?_; clear H; intro wk H)) | refine pvQ ?_ | (refine opk 3 rfl ?_; (refine ost_cmp rfl rfl rfl rfl (fun hc => ?_) (fun hc => ?_) <;> (simp only [cmpP] at hc; try exact prIQ))) | (refine opk 4 rfl ?_; (refine ost_cmp rfl rfl rfl rfl (fun hc => ?_) (fun hc => ?_) <;> (simp only [cmpP] at hc; try exact prIQ))) | (refine opk 8 rfl ?_; first | (refine ost_store1 H rfl rfl vlQ gvQ ixQ (by first | decide | (simp; omega) | (simp; done) | omega) ?_; clear H; intro wk H; simp only [List.set_cons_zero, List.set_cons_succ, Nat.reduceAdd] at H) | (refine ost_storeW H rfl rfl rfl rfl lQ ixQ lQ okQ ?_; clear H; intro wk H; simp only [List.set_cons_zero, List.set_cons_succ, Nat.reduceAdd] at H)) | (refine opk 9 rfl ?_; first | (refine ost_boxq H rfl ?_; clear H; intro bk wk H) | (refine ost_allocA H rfl ?_; clear H; intro bk wk H) | (refine ost_build1 H rfl rfl rfl evQ lsQ rfl ?_; clear H; intro bk wk H))) | refine Wc.seq ?_ | refine then_n ?_ | refine WL.nil ?_ | refine Wc.region ?_ | refine Wc.block ?_ | refine then_r ?_ | refine then_e ?_ | refine inb_e rfl ?_ | refine inb_o rfl ?_ | refine inb_n ?_ | refine inb_r ?_ | refine Wc.skip ?_ | refine Wc.exit ?_ | refine Wc.ret ?_ | refine Wc.cond_true rfl ?_ | refine Wc.cond_false rfl ?_ | refine WL.skp rfl rfl ?_ | refine WL.sku rfl ?_)
        all_goals first | (exfalso; omega) | exact fn_ret2 (v2 := .int _ _) rfl (rv_cellA rfl rfl H.bI lQ) rfl ⟨_, _, H.picks (L' := []) [] rfl (by decide), _, c, ls, rfl, rfl, hL, rfl⟩
      · rw [if_neg hr] at hM
        injection hM with hM _
        exact absurd hM.symm hC
    · rw [if_neg hk2] at hM
      injection hM with hM _
      exact absurd hM.symm hC
theorem r21_HarmLost (rp rm : Int) (hok : okR rp rm) (h0 : FH) (a : Option Addr) (c : Nat) (ls : List RL) (k : LkT) (q kind : Int) (at_ : UInt16) (by_ : UInt8) (hq1 : -9223372036854775808 ≤ q) (hq2 : q ≤ 9223372036854775807) (w : World) (hs : Sat h0 w) (hL : RLs h0 a c ls) (hl : ls.length ≤ 1024) (i : Nat) (hp : posM k (ls.map RL.p) q = some i) (hC : faultC rp k = 0) (hk : kind = 1) :
    Spec Try.prog 12 #[.agg (poR a ls.length c rp rm).toArray, .int .u8 k.1.toNat, .int .u8 k.2.toNat, .int .i64 q, .int .i64 kind, .int .u16 at_.toNat, .int .u8 by_.toNat] w [] h0 (fun v h' L' => ∃ a' c' ls', v = .tuple #[.agg (poR a' ls'.length c' rp rm).toArray, .int .i64 0] ∧ L' = [] ∧ RLs h' a' c' ls' ∧ ls'.map RL.p = edM (ls.map RL.p) i []) := by
  have H := St.start hs
  have hS := hL.1
  have hln := hS.lenM
  have g0 : (poR a ls.length c rp rm)[0 + 0]? = some (.slice a ls.length c) := rfl
  have g2 : (poR a ls.length c rp rm)[0 + 2]? = some (.int .i64 rm) := rfl
  have lp3 : (poR a ls.length c rp rm).length = 3 := rfl
  have hon := on_fault hok.1 k
  have hf := fun w hs => r21_find k q hq1 hq2 rp rm h0 a c ls w hs hL (by omega)
  have hfp := find_pos k ls q 0
  have hlm : (ls.map RL.p).length = ls.length := List.length_map ..
  have hcon : decide (onC rp k) = true := decide_eq_true (hon.2 hC)
  have cO := fun w => hcon ▸ r21_on a ls.length c rp rm k w
  obtain ⟨j, x, rfl, h2, h3, h4, h5⟩ := posM_some hp
  rw [hp] at hfp
  simp only [Nat.zero_add] at hfp
  rw [hfp] at hf
  have hg : (ls.map RL.p)[i]?.getD noLt = (k, x) := by rw [h2]; rfl
  rw [List.length_map] at h4
  obtain ⟨b, off, l, T, fr, e1, eb, eg⟩ := hS.getM (by decide) (Nat.lt_of_le_of_lt (Nat.zero_le _) h4)
  subst e1
  have g9 := eg (i : Int).toNat i h4 (by omega)
  have lr : (rlC ls[i]).length = 3 := rfl
  rw [List.getElem?_map, List.getElem?_eq_getElem h4] at h2
  injection h2 with h2
  obtain ⟨ax, cx, ev, hx⟩ := hL.2 _ (List.getElem_mem h4)
  have ek : ls[i].k = k := congrArg Prod.fst h2
  have ex : ls[i].x = x := congrArg Prod.snd h2
  have er : rlC ls[i] = ltL k (.slice ax x.length cx) := by unfold rlC; rw [ek, ev, ex]
  rw [er] at g9
  rw [ex] at hx
  clear eg er lr
  unfold Spec
  refine calls_of Try.func12 rfl Try.ntmps12 (by simp) ?_
  repeat' (first | ((first | refine WL.p rfl ?_ | refine WL.u ?_ | refine WL.g rfl rfl ?_ | refine WL.gu rfl ?_); first | (refine opk 1 rfl ?_; first | (refine ost_V H rfl (cO _) rfl ?_; clear H; intro wk H) | (refine ost_V H rfl (hf _ H.sat) rfl ?_; clear H; intro wk H)) | (refine opk 9 rfl ?_; (refine ost_buildR (rows := []) H rfl (by decide) rfl (by rfl) evP_nil .nil rfl (by simp) ?_; clear H; intro bk wk H)) | refine pvQ ?_ | (refine opk 3 rfl ?_; (refine ost_cmp rfl rfl rfl rfl (fun hc => ?_) (fun hc => ?_) <;> (simp only [cmpP] at hc; try exact prIQ))) | (refine opk 4 rfl ?_; (refine ost_cmp rfl rfl rfl rfl (fun hc => ?_) (fun hc => ?_) <;> (simp only [cmpP] at hc; try exact prIQ))) | (refine opk 8 rfl ?_; first | (refine ost_store1 H rfl rfl vlQ gvQ ixQ (by first | decide | (simp; omega) | (simp; done) | omega) ?_; clear H; intro wk H; simp only [List.set_cons_zero, List.set_cons_succ, Nat.reduceAdd] at H) | (refine ost_storeW H rfl rfl rfl rfl lQ ixQ lQ okQ ?_; clear H; intro wk H; simp only [List.set_cons_zero, List.set_cons_succ, Nat.reduceAdd] at H)) | (refine opk 9 rfl ?_; first | (refine ost_boxq H rfl ?_; clear H; intro bk wk H) | (refine ost_allocA H rfl ?_; clear H; intro bk wk H) | (refine ost_build1 H rfl rfl rfl evQ lsQ rfl ?_; clear H; intro bk wk H))) | refine Wc.seq ?_ | refine then_n ?_ | refine WL.nil ?_ | refine Wc.region ?_ | refine Wc.block ?_ | refine then_r ?_ | refine then_e ?_ | refine inb_e rfl ?_ | refine inb_o rfl ?_ | refine inb_n ?_ | refine inb_r ?_ | refine Wc.skip ?_ | refine Wc.exit ?_ | refine Wc.ret ?_ | refine Wc.cond_true rfl ?_ | refine Wc.cond_false rfl ?_ | refine WL.skp rfl rfl ?_ | refine WL.sku rfl ?_)
  all_goals first | (exfalso; omega) | skip
  obtain ⟨a5, c5, h6, e5, hle5, hS5, H9⟩ := H.freezeR (by simp)
  injection e5 with e51 e52 e53
  subst e51; subst e53
  clear H
  have H := H9
  clear H9
  have cE := fun w hs => r21_edit h6 (some ⟨b, off, none⟩) c ls i h4 (some ⟨bk, 0, none⟩) 0 [] w hs (hL.mono hle5) ⟨hS5, fun e he => (List.not_mem_nil he).elim⟩ (by omega) (by simp)
  repeat' (first | ((first | refine WL.p rfl ?_ | refine WL.u ?_ | refine WL.g rfl rfl ?_ | refine WL.gu rfl ?_); first | (refine opk 1 rfl ?_; (refine ost_Sk H rfl (cE _ H.sat) rfl ?_; clear H; rintro vk wk hfk Lk ⟨a9, c9, rfl, rfl⟩ hle H; simp only [List.cons_append, List.nil_append] at H)) | refine pvQ ?_ | (refine opk 3 rfl ?_; (refine ost_cmp rfl rfl rfl rfl (fun hc => ?_) (fun hc => ?_) <;> (simp only [cmpP] at hc; try exact prIQ))) | (refine opk 4 rfl ?_; (refine ost_cmp rfl rfl rfl rfl (fun hc => ?_) (fun hc => ?_) <;> (simp only [cmpP] at hc; try exact prIQ))) | (refine opk 8 rfl ?_; first | (refine ost_store1 H rfl rfl vlQ gvQ ixQ (by first | decide | (simp; omega) | (simp; done) | omega) ?_; clear H; intro wk H; simp only [List.set_cons_zero, List.set_cons_succ, Nat.reduceAdd] at H) | (refine ost_storeW H rfl rfl rfl rfl lQ ixQ lQ okQ ?_; clear H; intro wk H; simp only [List.set_cons_zero, List.set_cons_succ, Nat.reduceAdd] at H)) | (refine opk 9 rfl ?_; first | (refine ost_boxq H rfl ?_; clear H; intro bk wk H) | (refine ost_allocA H rfl ?_; clear H; intro bk wk H) | (refine ost_build1 H rfl rfl rfl evQ lsQ rfl ?_; clear H; intro bk wk H))) | refine Wc.seq ?_ | refine then_n ?_ | refine WL.nil ?_ | refine Wc.region ?_ | refine Wc.block ?_ | refine then_r ?_ | refine then_e ?_ | refine inb_e rfl ?_ | refine inb_o rfl ?_ | refine inb_n ?_ | refine inb_r ?_ | refine Wc.skip ?_ | refine Wc.exit ?_ | refine Wc.ret ?_ | refine Wc.cond_true rfl ?_ | refine Wc.cond_false rfl ?_ | refine WL.skp rfl rfl ?_ | refine WL.sku rfl ?_)
  all_goals first | (exfalso; omega) | skip
  obtain ⟨a7, c7, h7, e7, hle7, hS7, H9⟩ := H.freezeR (rlC_len _)
  injection e7 with e71 e72 e73
  subst e71; subst e73
  clear H
  have H := H9
  clear H9
  have hle9 : FLe h0 h7 := fun k o e => hle7 _ _ (hle _ _ (hle5 _ _ e))
  exact fn_ret2 (v2 := .int _ _) rfl (rv_cellA rfl rfl H.bI lQ) rfl ⟨_, _, H.picks (L' := []) [] rfl (by decide), a9, c9, editR ls i [], rfl, rfl, RLs.edit (b := []) hL hle9 hS7 (fun e he => (List.not_mem_nil he).elim), edit_p ls i []⟩
theorem r21_HarmTwice (rp rm : Int) (hok : okR rp rm) (h0 : FH) (a : Option Addr) (c : Nat) (ls : List RL) (k : LkT) (q kind : Int) (at_ : UInt16) (by_ : UInt8) (hq1 : -9223372036854775808 ≤ q) (hq2 : q ≤ 9223372036854775807) (w : World) (hs : Sat h0 w) (hL : RLs h0 a c ls) (hl : ls.length ≤ 1024) (i : Nat) (hp : posM k (ls.map RL.p) q = some i) (hC : faultC rp k = 0) (hk : kind = 2) (hr : ¬ rm ≤ ls.length) :
    Spec Try.prog 12 #[.agg (poR a ls.length c rp rm).toArray, .int .u8 k.1.toNat, .int .u8 k.2.toNat, .int .i64 q, .int .i64 kind, .int .u16 at_.toNat, .int .u8 by_.toNat] w [] h0 (fun v h' L' => ∃ a' c' ls', v = .tuple #[.agg (poR a' ls'.length c' rp rm).toArray, .int .i64 0] ∧ L' = [] ∧ RLs h' a' c' ls' ∧ ls'.map RL.p = edM (ls.map RL.p) i [(ls.map RL.p)[i]?.getD noLt, (ls.map RL.p)[i]?.getD noLt]) := by
  have H := St.start hs
  have hS := hL.1
  have hln := hS.lenM
  have g0 : (poR a ls.length c rp rm)[0 + 0]? = some (.slice a ls.length c) := rfl
  have g2 : (poR a ls.length c rp rm)[0 + 2]? = some (.int .i64 rm) := rfl
  have lp3 : (poR a ls.length c rp rm).length = 3 := rfl
  have hon := on_fault hok.1 k
  have hf := fun w hs => r21_find k q hq1 hq2 rp rm h0 a c ls w hs hL (by omega)
  have hfp := find_pos k ls q 0
  have hlm : (ls.map RL.p).length = ls.length := List.length_map ..
  have hcon : decide (onC rp k) = true := decide_eq_true (hon.2 hC)
  have cO := fun w => hcon ▸ r21_on a ls.length c rp rm k w
  obtain ⟨j, x, rfl, h2, h3, h4, h5⟩ := posM_some hp
  rw [hp] at hfp
  simp only [Nat.zero_add] at hfp
  rw [hfp] at hf
  have hg : (ls.map RL.p)[i]?.getD noLt = (k, x) := by rw [h2]; rfl
  rw [List.length_map] at h4
  obtain ⟨b, off, l, T, fr, e1, eb, eg⟩ := hS.getM (by decide) (Nat.lt_of_le_of_lt (Nat.zero_le _) h4)
  subst e1
  have g9 := eg (i : Int).toNat i h4 (by omega)
  have lr : (rlC ls[i]).length = 3 := rfl
  rw [List.getElem?_map, List.getElem?_eq_getElem h4] at h2
  injection h2 with h2
  obtain ⟨ax, cx, ev, hx⟩ := hL.2 _ (List.getElem_mem h4)
  have ek : ls[i].k = k := congrArg Prod.fst h2
  have ex : ls[i].x = x := congrArg Prod.snd h2
  have er : rlC ls[i] = ltL k (.slice ax x.length cx) := by unfold rlC; rw [ek, ev, ex]
  rw [er] at g9
  rw [ex] at hx
  clear eg er lr
  rw [hg]
  have hbs : ∀ {h' : FH}, FLe h0 h' → ∀ e ∈ [(⟨k, .slice ax x.length cx, x⟩ : RL), ⟨k, .slice ax x.length cx, x⟩], BSv h' e.v e.x := fun hle e he => by
    simp only [List.mem_cons, List.not_mem_nil, or_false, or_self] at he
    subst he
    exact ⟨ax, cx, rfl, hx.mono hle⟩
  have hrw : [(⟨k, .slice ax x.length cx, x⟩ : RL), ⟨k, .slice ax x.length cx, x⟩].map rlC = [ltL k (.slice ax x.length cx), ltL k (.slice ax x.length cx)] := rfl
  have hmp := edit_p ls i [(⟨k, .slice ax x.length cx, x⟩ : RL), ⟨k, .slice ax x.length cx, x⟩]
  have lk3 : (ltL k (.slice ax x.length cx)).length = 3 := rfl
  unfold Spec
  refine calls_of Try.func12 rfl Try.ntmps12 (by simp) ?_
  repeat' (first | ((first | refine WL.p rfl ?_ | refine WL.u ?_ | refine WL.g rfl rfl ?_ | refine WL.gu rfl ?_); first | (refine opk 1 rfl ?_; first | (refine ost_V H rfl (cO _) rfl ?_; clear H; intro wk H) | (refine ost_V H rfl (hf _ H.sat) rfl ?_; clear H; intro wk H)) | (refine opk 9 rfl ?_; (refine ost_buildR (rows := [ltL k (.slice ax x.length cx), ltL k (.slice ax x.length cx)]) H rfl (by decide) rfl (by rfl) (evP_cons vxQ (evP_cons vxQ evP_nil)) (.cons rfl (.cons rfl .nil)) rfl (by intro r hr; simp at hr; subst hr; rfl) ?_; clear H; intro bk wk H)) | refine pvQ ?_ | (refine opk 3 rfl ?_; (refine ost_cmp rfl rfl rfl rfl (fun hc => ?_) (fun hc => ?_) <;> (simp only [cmpP] at hc; try exact prIQ))) | (refine opk 4 rfl ?_; (refine ost_cmp rfl rfl rfl rfl (fun hc => ?_) (fun hc => ?_) <;> (simp only [cmpP] at hc; try exact prIQ))) | (refine opk 8 rfl ?_; first | (refine ost_store1 H rfl rfl vlQ gvQ ixQ (by first | decide | (simp; omega) | (simp; done) | omega) ?_; clear H; intro wk H; simp only [List.set_cons_zero, List.set_cons_succ, Nat.reduceAdd] at H) | (refine ost_storeW H rfl rfl rfl rfl lQ ixQ lQ okQ ?_; clear H; intro wk H; simp only [List.set_cons_zero, List.set_cons_succ, Nat.reduceAdd] at H)) | (refine opk 9 rfl ?_; first | (refine ost_boxq H rfl ?_; clear H; intro bk wk H) | (refine ost_allocA H rfl ?_; clear H; intro bk wk H) | (refine ost_build1 H rfl rfl rfl evQ lsQ rfl ?_; clear H; intro bk wk H))) | refine Wc.seq ?_ | refine then_n ?_ | refine WL.nil ?_ | refine Wc.region ?_ | refine Wc.block ?_ | refine then_r ?_ | refine then_e ?_ | refine inb_e rfl ?_ | refine inb_o rfl ?_ | refine inb_n ?_ | refine inb_r ?_ | refine Wc.skip ?_ | refine Wc.exit ?_ | refine Wc.ret ?_ | refine Wc.cond_true rfl ?_ | refine Wc.cond_false rfl ?_ | refine WL.skp rfl rfl ?_ | refine WL.sku rfl ?_)
  all_goals first | (exfalso; omega) | skip
  obtain ⟨a5, c5, h6, e5, hle5, hS5, H9⟩ := H.freezeR (by intro r hr; simp at hr; subst hr; rfl)
  injection e5 with e51 e52 e53
  subst e51; subst e53
  clear H
  have H := H9
  clear H9
  have cE := fun w hs => r21_edit h6 (some ⟨b, off, none⟩) c ls i h4 (some ⟨bk, 0, none⟩) 2 [(⟨k, .slice ax x.length cx, x⟩ : RL), ⟨k, .slice ax x.length cx, x⟩] w hs (hL.mono hle5) ⟨hS5, hbs hle5⟩ (by omega) (by simp)
  repeat' (first | ((first | refine WL.p rfl ?_ | refine WL.u ?_ | refine WL.g rfl rfl ?_ | refine WL.gu rfl ?_); first | (refine opk 1 rfl ?_; (refine ost_Sk H rfl (cE _ H.sat) rfl ?_; clear H; rintro vk wk hfk Lk ⟨a9, c9, rfl, rfl⟩ hle H; simp only [List.cons_append, List.nil_append] at H)) | refine pvQ ?_ | (refine opk 3 rfl ?_; (refine ost_cmp rfl rfl rfl rfl (fun hc => ?_) (fun hc => ?_) <;> (simp only [cmpP] at hc; try exact prIQ))) | (refine opk 4 rfl ?_; (refine ost_cmp rfl rfl rfl rfl (fun hc => ?_) (fun hc => ?_) <;> (simp only [cmpP] at hc; try exact prIQ))) | (refine opk 8 rfl ?_; first | (refine ost_store1 H rfl rfl vlQ gvQ ixQ (by first | decide | (simp; omega) | (simp; done) | omega) ?_; clear H; intro wk H; simp only [List.set_cons_zero, List.set_cons_succ, Nat.reduceAdd] at H) | (refine ost_storeW H rfl rfl rfl rfl lQ ixQ lQ okQ ?_; clear H; intro wk H; simp only [List.set_cons_zero, List.set_cons_succ, Nat.reduceAdd] at H)) | (refine opk 9 rfl ?_; first | (refine ost_boxq H rfl ?_; clear H; intro bk wk H) | (refine ost_allocA H rfl ?_; clear H; intro bk wk H) | (refine ost_build1 H rfl rfl rfl evQ lsQ rfl ?_; clear H; intro bk wk H))) | refine Wc.seq ?_ | refine then_n ?_ | refine WL.nil ?_ | refine Wc.region ?_ | refine Wc.block ?_ | refine then_r ?_ | refine then_e ?_ | refine inb_e rfl ?_ | refine inb_o rfl ?_ | refine inb_n ?_ | refine inb_r ?_ | refine Wc.skip ?_ | refine Wc.exit ?_ | refine Wc.ret ?_ | refine Wc.cond_true rfl ?_ | refine Wc.cond_false rfl ?_ | refine WL.skp rfl rfl ?_ | refine WL.sku rfl ?_)
  all_goals first | (exfalso; omega) | skip
  obtain ⟨a7, c7, h7, e7, hle7, hS7, H9⟩ := H.freezeR (rlC_len _)
  injection e7 with e71 e72 e73
  subst e71; subst e73
  clear H
  have H := H9
  clear H9
  have hle9 : FLe h0 h7 := fun k o e => hle7 _ _ (hle _ _ (hle5 _ _ e))
  exact fn_ret2 (v2 := .int _ _) rfl (rv_cellA rfl rfl H.bI lQ) rfl ⟨_, _, H.picks (L' := []) [] rfl (by decide), a9, c9, editR ls i _, rfl, rfl, RLs.edit hL hle9 hS7 (hbs hle9), hmp⟩
def pU (k : LkT) (y : List UInt8) (c : Nat) (vs : Nat → Value) (T : List HA) : Prop := match c with
  | 0 => T = []
  | 1 => ∃ a' c', vs 6 = .agg (ltL k (.slice a' y.length c')).toArray ∧ T = [own8 (.slice a' y.length c') 5 y]
  | 2 => ∃ a' c' b', vs 6 = .agg (ltL k (.slice a' y.length c')).toArray ∧ vs 7 = .slice (some ⟨b', 0, none⟩) 1 1 ∧ T = [ownR (.slice (some ⟨b', 0, none⟩) 1 1) 39 3 [ltL k (.slice a' y.length c')], own8 (.slice a' y.length c') 5 y]
  | _ => False
theorem r21_HarmTurn (rp rm : Int) (hok : okR rp rm) (h0 : FH) (a : Option Addr) (c : Nat) (ls : List RL) (k : LkT) (q kind : Int) (at_ : UInt16) (by_ : UInt8) (hq1 : -9223372036854775808 ≤ q) (hq2 : q ≤ 9223372036854775807) (w : World) (hs : Sat h0 w) (hL : RLs h0 a c ls) (hl : ls.length ≤ 1024) (hz : ∀ e ∈ ls, e.x.length ≤ 5000) (i : Nat) (hp : posM k (ls.map RL.p) q = some i) (hC : faultC rp k = 0) (hk : kind = 3) :
    Spec Try.prog 12 #[.agg (poR a ls.length c rp rm).toArray, .int .u8 k.1.toNat, .int .u8 k.2.toNat, .int .i64 q, .int .i64 kind, .int .u16 at_.toNat, .int .u8 by_.toNat] w [] h0 (fun v h' L' => ∃ a' c' ls', v = .tuple #[.agg (poR a' ls'.length c' rp rm).toArray, .int .i64 0] ∧ L' = [] ∧ RLs h' a' c' ls' ∧ ls'.map RL.p = edM (ls.map RL.p) i [(((ls.map RL.p)[i]?.getD noLt).1, turnB at_ by_ ((ls.map RL.p)[i]?.getD noLt).2)]) := by
  have H := St.start hs
  have hS := hL.1
  have hln := hS.lenM
  have g0 : (poR a ls.length c rp rm)[0 + 0]? = some (.slice a ls.length c) := rfl
  have g2 : (poR a ls.length c rp rm)[0 + 2]? = some (.int .i64 rm) := rfl
  have lp3 : (poR a ls.length c rp rm).length = 3 := rfl
  have hon := on_fault hok.1 k
  have hf := fun w hs => r21_find k q hq1 hq2 rp rm h0 a c ls w hs hL (by omega)
  have hfp := find_pos k ls q 0
  have hlm : (ls.map RL.p).length = ls.length := List.length_map ..
  have hcon : decide (onC rp k) = true := decide_eq_true (hon.2 hC)
  have cO := fun w => hcon ▸ r21_on a ls.length c rp rm k w
  have hz9 : ∀ i (h : i < ls.length), ls[i].x.length ≤ 5000 := fun i h => hz _ (List.getElem_mem h)
  obtain ⟨j, x, rfl, h2, h3, h4, h5⟩ := posM_some hp
  rw [hp] at hfp
  simp only [Nat.zero_add] at hfp
  rw [hfp] at hf
  have hg : (ls.map RL.p)[i]?.getD noLt = (k, x) := by rw [h2]; rfl
  rw [List.length_map] at h4
  obtain ⟨b, off, l, T, fr, e1, eb, eg⟩ := hS.getM (by decide) (Nat.lt_of_le_of_lt (Nat.zero_le _) h4)
  subst e1
  have g9 := eg (i : Int).toNat i h4 (by omega)
  have lr : (rlC ls[i]).length = 3 := rfl
  rw [List.getElem?_map, List.getElem?_eq_getElem h4] at h2
  injection h2 with h2
  obtain ⟨ax, cx, ev, hx⟩ := hL.2 _ (List.getElem_mem h4)
  have ek : ls[i].k = k := congrArg Prod.fst h2
  have ex : ls[i].x = x := congrArg Prod.snd h2
  have er : rlC ls[i] = ltL k (.slice ax x.length cx) := by unfold rlC; rw [ek, ev, ex]
  rw [er] at g9
  rw [ex] at hx
  clear eg er lr
  have hxl := hz9 i h4
  rw [ex] at hxl
  rw [hg]
  have lk3 : (ltL k (.slice ax x.length cx)).length = 3 := rfl
  have hturn := fun w hs hr => r21_turned (full w) k ax cx x at_ by_ w hs hr (by omega)
  have hat := at_.toNat_lt
  have hby := by_.toNat_lt
  generalize hY : turnB at_ by_ x = y at hturn
  show Spec _ _ _ _ _ _ (fun v h' L' => ∃ a' c' ls', v = .tuple #[.agg (poR a' ls'.length c' rp rm).toArray, .int .i64 0] ∧ L' = [] ∧ RLs h' a' c' ls' ∧ ls'.map RL.p = edM (ls.map RL.p) i [(k, y)])
  unfold Spec
  refine calls_of Try.func12 rfl Try.ntmps12 (by simp) ?_
  repeat' (first | ((first | refine WL.p rfl ?_ | refine WL.u ?_ | refine WL.g rfl rfl ?_ | refine WL.gu rfl ?_); first | (refine opk 1 rfl ?_; first | (refine ost_V H rfl (cO _) rfl ?_; clear H; intro wk H) | (refine ost_V H rfl (hf _ H.sat) rfl ?_; clear H; intro wk H)) | refine pvQ ?_ | (refine opk 3 rfl ?_; (refine ost_cmp rfl rfl rfl rfl (fun hc => ?_) (fun hc => ?_) <;> (simp only [cmpP] at hc; try exact prIQ))) | (refine opk 4 rfl ?_; (refine ost_cmp rfl rfl rfl rfl (fun hc => ?_) (fun hc => ?_) <;> (simp only [cmpP] at hc; try exact prIQ))) | (refine opk 8 rfl ?_; first | (refine ost_store1 H rfl rfl vlQ gvQ ixQ (by first | decide | (simp; omega) | (simp; done) | omega) ?_; clear H; intro wk H; simp only [List.set_cons_zero, List.set_cons_succ, Nat.reduceAdd] at H) | (refine ost_storeW H rfl rfl rfl rfl lQ ixQ lQ okQ ?_; clear H; intro wk H; simp only [List.set_cons_zero, List.set_cons_succ, Nat.reduceAdd] at H)) | (refine opk 9 rfl ?_; first | (refine ost_boxq H rfl ?_; clear H; intro bk wk H) | (refine ost_allocA H rfl ?_; clear H; intro bk wk H) | (refine ost_build1 H rfl rfl rfl evQ lsQ rfl ?_; clear H; intro bk wk H))) | refine Wc.seq ?_ | refine then_n ?_ | refine WL.nil ?_ | refine Wc.region ?_ | refine Wc.block ?_ | refine then_r ?_ | refine then_e ?_ | refine inb_e rfl ?_ | refine inb_o rfl ?_ | refine inb_n ?_ | refine inb_r ?_ | refine Wc.skip ?_ | refine Wc.exit ?_ | refine Wc.ret ?_ | refine Wc.cond_true rfl ?_ | refine Wc.cond_false rfl ?_ | refine WL.skp rfl rfl ?_ | refine WL.sku rfl ?_)
  all_goals first | (exfalso; omega) | skip
  obtain ⟨b17, eb17⟩ := H.nameB idx0
  subst eb17
  obtain ⟨b14, eb14⟩ := H.nameB idx1
  subst eb14
  obtain ⟨b7, eb7⟩ := H.nameB idx2
  subst eb7
  refine Wc.drawX (id := 8) 8 [6, 7] (piN [6, 7] [.blk b17 (.cells (ltL k (.slice ax x.length cx)).toArray 39 (0, 0)), .blk b14 (.cells [.slice none 0 0, .int .i64 0, .int .i64 0].toArray 29 (0, 0)), .blk b7 (.cells (poR (some ⟨b, off, none⟩) ls.length c rp rm).toArray 29 (0, 0))] (pU k y)) H (by kernel_rfl) (by kernel_rfl) (piN_0 (A := []) rfl) ?_
  refine RGx.p rfl (by intro vs w dn L hd hP9 H; exact dvQ) ?_
  refine RGx.p rfl (by intro vs w dn L hd hP9 H; obtain ⟨T9, rfl⟩ := piN_B hP9; exact ost_load1 rfl rfl rfl (H.okB (j := 2) rfl) g0 ⟨Fr.refl _ _, rfl⟩) ?_
  refine RGx.p rfl (by intro vs w dn L hd hP9 H; exact dvQ) ?_
  refine RGx.p rfl (by intro vs w dn L hd hP9 H; obtain ⟨T9, rfl⟩ := piN_B hP9; exact ost_loadW rfl rfl rfl (H.okB (j := 0) rfl) lk3 ⟨Fr.refl _ _, rfl⟩) ?_
  refine RGx.p rfl (by intro vs w dn L hd hP9 H; exact dvQ) ?_
  refine RGx.p rfl (by intro vs w dn L hd hP9 H; exact dvQ) ?_
  refine RGx.m rfl (by
    intro vs w dn L h1 hd hP9 H
    obtain ⟨T9, rfl, rfl, hn9⟩ := piN_step (by decide) hP9 0 6 rfl h1 (.inl rfl)
    refine ost_C H rfl (hturn w (sat_full _) (hx.full H)) rfl ?_
    rintro v w' h' L' ⟨a', c', rfl, rfl⟩ H2
    exact ⟨_, hn9 _ [_] ⟨a', c', rfl, rfl⟩, H2⟩) ?_
  refine RGx.m rfl (by
    intro vs w dn L h1 hd hP9 H
    obtain ⟨T9, rfl, ⟨a', c', e1, rfl⟩, hn9⟩ := piN_step (by decide) hP9 1 7 rfl h1 (.inr ⟨6, rfl, hd 6 (by kernel_rfl) rfl⟩)
    have e8 : vs (0 + 1 + 1 + 1 + 1 + 1 + 1) = _ := e1
    rw [e8]
    refine ost_buildR (rows := [ltL k (.slice a' y.length c')]) H rfl (by decide) rfl (by rfl) (evP1 vxQ) (.cons rfl .nil) rfl (by intro r hr; rw [List.mem_singleton.1 hr]; rfl) ?_
    intro bk wk H2
    exact ⟨_, hn9 (.slice (some ⟨bk, 0, none⟩) 1 1) [_, _] ⟨a', c', bk, e1, rfl, rfl⟩, H2⟩) ?_
  refine RGx.nil ?_
  intro vs wk dn L hall hP9 H9
  obtain ⟨T9, rfl, a', c', b', e6, e7, rfl⟩ := piN_end hP9 7 rfl (hall 7 rfl)
  clear H
  have H := H9
  clear H9
  have hv7 : vs (0 + 1 + 1 + 1 + 1 + 1 + 1 + 1) = _ := e7
  (try dsimp only)
  rw [hv7]
  clear hP9 e6 e7 hv7
  simp only [List.cons_append, List.nil_append] at H
  obtain ⟨a5, c5, h5, e5, hle5, hS5, H9⟩ := H.freezeR (by intro r hr; rw [List.mem_singleton.1 hr]; rfl)
  injection e5 with e51 e52 e53
  subst e51; subst e53
  clear H
  obtain ⟨a6, c6, h6, e61, hle6, hr6, H⟩ := H9.freeze8
  injection e61 with e62 e63 e64
  subst e62; subst e64
  clear H9
  have hbs : ∀ {h' : FH}, FLe h6 h' → ∀ e ∈ [(⟨k, .slice a' y.length c', y⟩ : RL)], BSv h' e.v e.x := fun hle e he => by
    obtain rfl := List.mem_singleton.1 he
    exact ⟨a', c', rfl, hr6.mono hle⟩
  have hmp := edit_p ls i [(⟨k, .slice a' y.length c', y⟩ : RL)]
  have cE := fun w hs => r21_edit h6 (some ⟨b, off, none⟩) c ls i h4 (some ⟨b', 0, none⟩) 1 [(⟨k, .slice a' y.length c', y⟩ : RL)] w hs ((hL.mono hle5).mono hle6) ⟨Sl.mono hle6 hS5, hbs (fun _ _ e => e)⟩ (by omega) (by simp)
  repeat' (first | ((first | refine WL.p rfl ?_ | refine WL.u ?_ | refine WL.g rfl rfl ?_ | refine WL.gu rfl ?_); first | (refine opk 1 rfl ?_; (refine ost_Sk H rfl (cE _ H.sat) rfl ?_; clear H; rintro vk wk hfk Lk ⟨a9, c9, rfl, rfl⟩ hle H; simp only [List.cons_append, List.nil_append] at H)) | refine pvQ ?_ | (refine opk 3 rfl ?_; (refine ost_cmp rfl rfl rfl rfl (fun hc => ?_) (fun hc => ?_) <;> (simp only [cmpP] at hc; try exact prIQ))) | (refine opk 4 rfl ?_; (refine ost_cmp rfl rfl rfl rfl (fun hc => ?_) (fun hc => ?_) <;> (simp only [cmpP] at hc; try exact prIQ))) | (refine opk 8 rfl ?_; first | (refine ost_store1 H rfl rfl vlQ gvQ ixQ (by first | decide | (simp; omega) | (simp; done) | omega) ?_; clear H; intro wk H; simp only [List.set_cons_zero, List.set_cons_succ, Nat.reduceAdd] at H) | (refine ost_storeW H rfl rfl rfl rfl lQ ixQ lQ okQ ?_; clear H; intro wk H; simp only [List.set_cons_zero, List.set_cons_succ, Nat.reduceAdd] at H)) | (refine opk 9 rfl ?_; first | (refine ost_boxq H rfl ?_; clear H; intro bk wk H) | (refine ost_allocA H rfl ?_; clear H; intro bk wk H) | (refine ost_build1 H rfl rfl rfl evQ lsQ rfl ?_; clear H; intro bk wk H))) | refine Wc.seq ?_ | refine then_n ?_ | refine WL.nil ?_ | refine Wc.region ?_ | refine Wc.block ?_ | refine then_r ?_ | refine then_e ?_ | refine inb_e rfl ?_ | refine inb_o rfl ?_ | refine inb_n ?_ | refine inb_r ?_ | refine Wc.skip ?_ | refine Wc.exit ?_ | refine Wc.ret ?_ | refine Wc.cond_true rfl ?_ | refine Wc.cond_false rfl ?_ | refine WL.skp rfl rfl ?_ | refine WL.sku rfl ?_)
  all_goals first | (exfalso; omega) | skip
  obtain ⟨a7, c7, h7, e7, hle7, hS7, H9⟩ := H.freezeR (rlC_len _)
  injection e7 with e71 e72 e73
  subst e71; subst e73
  clear H
  have H := H9
  clear H9
  have hle8 : FLe h6 h7 := fun k o e => hle7 _ _ (hle _ _ e)
  have hle9 : FLe h0 h7 := fun k o e => hle8 _ _ (hle6 _ _ (hle5 _ _ e))
  exact fn_ret2 (v2 := .int _ _) rfl (rv_cellA rfl rfl H.bI lQ) rfl ⟨_, _, H.picks (L' := []) [] rfl (by decide), a9, c9, editR ls i _, rfl, rfl, RLs.edit hL hle9 hS7 (hbs hle8), hmp⟩
end Go.Tg

set_option linter.unusedVariables false
set_option linter.unusedSimpArgs false
set_option maxRecDepth 100000
set_option maxHeartbeats 16000000
namespace Go.Tg
open Go Go.Proofs
theorem r21_HarmA (rp rm : Int) (hok : okR rp rm) (h0 : FH) (a : Option Addr) (c : Nat) (ls : List RL) (k : LkT) (q kind : Int) (at_ : UInt16) (by_ : UInt8) (hq1 : -9223372036854775808 ≤ q) (hq2 : q ≤ 9223372036854775807) (w : World) (hs : Sat h0 w) (hL : RLs h0 a c ls) (hl : ls.length ≤ 1024) (hz : ∀ e ∈ ls, e.x.length ≤ 5000) (Z : Int × LsM) (hZ : harmM rp rm (ls.map RL.p) k q kind at_ by_ = Z) :
    Spec Try.prog 12 #[.agg (poR a ls.length c rp rm).toArray, .int .u8 k.1.toNat, .int .u8 k.2.toNat, .int .i64 q, .int .i64 kind, .int .u16 at_.toNat, .int .u8 by_.toNat] w [] h0 (fun v h' L' => ∃ a' c' ls', v = .tuple #[.agg (poR a' ls'.length c' rp rm).toArray, .int .i64 Z.1] ∧ L' = [] ∧ RLs h' a' c' ls' ∧ ls'.map RL.p = Z.2) := by
  have hno := r21_HarmNo rp rm hok h0 a c ls k q kind at_ by_ hq1 hq2 w hs hL hl
  have hlm : (ls.map RL.p).length = ls.length := List.length_map ..
  have hZ9 := hZ
  unfold harmM at hZ
  by_cases h1 : faultC rp k ≠ 0
  · rw [if_pos h1] at hZ
    subst hZ
    exact hno _ h1 hZ9
  rw [if_neg h1] at hZ
  have hC : faultC rp k = 0 := Classical.not_not.1 h1
  by_cases hk : kind < 1 ∨ 3 < kind
  · rw [if_pos hk] at hZ
    subst hZ
    exact hno 2 (by decide) hZ9
  rw [if_neg hk] at hZ
  cases hp : posM k (ls.map RL.p) q with
  | none =>
    rw [hp] at hZ
    subst hZ
    exact hno 7 (by decide) hZ9
  | some i =>
    rw [hp] at hZ
    simp only at hZ
    by_cases hk1 : kind = 1
    · rw [if_pos hk1] at hZ
      subst hZ
      exact r21_HarmLost rp rm hok h0 a c ls k q kind at_ by_ hq1 hq2 w hs hL hl i hp hC hk1
    rw [if_neg hk1] at hZ
    by_cases hk2 : kind = 2
    · rw [if_pos hk2] at hZ
      by_cases hr : rm ≤ (ls.map RL.p).length
      · rw [if_pos hr] at hZ
        subst hZ
        exact hno 10 (by decide) hZ9
      · rw [if_neg hr] at hZ
        subst hZ
        rw [hlm] at hr
        exact r21_HarmTwice rp rm hok h0 a c ls k q kind at_ by_ hq1 hq2 w hs hL hl i hp hC hk2 hr
    · rw [if_neg hk2] at hZ
      subst hZ
      exact r21_HarmTurn rp rm hok h0 a c ls k q kind at_ by_ hq1 hq2 w hs hL hl hz i hp hC (by omega)
theorem po_LenR {ws w : World} {S : List Nat} {h0 h : FH} {L : List HA} {i n pb mb clk : Nat} {rp rm : Int} {M : LsM} {es : List EnT} (H : St ws S h0 h L w) (hi : L[i]? = some (poH pb mb rp rm M.length es clk)) (hn : M.length = n) : SpecV Try.prog 16 #[pt pb] w (.int .i64 (n : Nat)) := by
  subst hn
  exact po_LenL pb _ _ _ _ _ _ (sat_full _) (H.poBlk hi)
end Go.Tg

