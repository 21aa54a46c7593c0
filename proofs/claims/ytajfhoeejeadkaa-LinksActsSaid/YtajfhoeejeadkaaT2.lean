/- Contracts of Go functions that the laws reach: what each call answers and leaves in memory, for all arguments within the bounds that each theorem names. -/
import Derived.Test.YtajfhoeejeadkaaInst
import Derived.Test.YtajfhoeejeadkaaAuto
import Derived.Test.YtajfhoeejeadkaaByt
import Derived.Test.YtajfhoeejeadkaaMp
import Derived.Test.YtajfhoeejeadkaaCpy
set_option linter.unusedVariables false
set_option linter.unusedSimpArgs false
set_option maxRecDepth 100000
set_option maxHeartbeats 4000000
namespace Go.Tg
open Go Go.Proofs
theorem clone8 (h0 : FH) (a : Option Addr) (c : Nat) (xs : List UInt8) (w : World) (hs : Sat h0 w) (hr : BS h0 a c xs) (hb : xs.length ≤ 1000000000) :
    Spec Try.prog 27 #[.slice a xs.length c] w [] h0 (fun v h' L' => ∃ a' c', v = .slice a' xs.length c' ∧ h' = h0 ∧ L' = [own8 v 5 xs]) := by
  have H := St.start hs
  unfold Spec
  refine calls_of Try.func27 rfl Try.ntmps27 (by simp) ?_
  repeat' (first | ((first | refine WL.p rfl ?_ | refine WL.u ?_); first | (refine opk 1 rfl ?_; (refine ost_app8 (xs := []) H rfl rfl rfl (by (exact ixQ)) ((hr.full H)) (by (try simp only [List.length_nil, List.length_append, List.length_cons, List.length_singleton]); omega) ?_; clear H; intro aa ca wk H; simp only [List.set_cons_zero, List.set_cons_succ, List.nil_append] at H)) | refine pvQ ?_ | (refine opk 3 rfl ?_; first | (refine ost_slEq rfl rfl rfl (fun hc => ?_) (fun hc => ?_) <;> try (simp at hc; done)) | (refine ost_slNe rfl rfl rfl (fun hc => ?_) (fun hc => ?_) <;> try (simp at hc; done))) | (refine opk 9 rfl ?_; (refine ost_build1 H rfl rfl rfl evQ lsQ rfl ?_; clear H; intro bk wk H))) | refine Wc.seq ?_ | refine then_n ?_ | refine WL.nil ?_ | refine Wc.region ?_ | refine Wc.block ?_ | refine then_r ?_ | refine then_e ?_ | refine inb_e rfl ?_ | refine inb_o rfl ?_ | refine inb_n ?_ | refine inb_r ?_ | refine Wc.skip ?_ | refine Wc.exit ?_ | refine Wc.ret ?_ | refine Wc.cond_true rfl ?_ | refine Wc.cond_false rfl ?_)
  · have h0' : a = none := by cases a <;> simp_all
    subst h0'
    have := r_nil hr; subst this
    exact fn_ret1 (v := .slice _ _ _) rfl rfl ⟨_, _, H.nil8 5, _, _, rfl, rfl, rfl⟩
  · exact fn_ret1 (v := .slice _ _ _) rfl rfl ⟨_, _, H, _, _, rfl, rfl, rfl⟩
end Go.Tg

set_option linter.unusedVariables false
set_option linter.unusedSimpArgs false
set_option maxRecDepth 100000
set_option maxHeartbeats 1000000
namespace Go.Tg
open Go Go.Proofs
abbrev LkT := UInt8 × UInt8
def lkL (k : LkT) : List Value := [.int .u8 k.1.toNat, .int .u8 k.2.toNat]
def cLk (k : LkT) : Value := .agg (lkL k).toArray
theorem lkL_inj {a b : LkT} (h : lkL a = lkL b) : a = b := by
  simp only [lkL, List.cons.injEq, Value.int.injEq, true_and, and_true] at h
  exact Prod.ext (UInt8.toNat_inj.1 (by omega)) (UInt8.toNat_inj.1 (by omega))
theorem lk_chk (q : Bool) (k : LkT) (w : World) : (Instr.checkKey q 10000 64 (cLk k)).run Try.prog w = .ok () w := by
  unfold cLk lkL
  generalize ((k.1.toNat : Nat) : Int) = a
  generalize ((k.2.toNat : Nat) : Int) = b
  kernel_rfl
theorem lk_eq (a b : LkT) (w : World) : (Op.equal 64 (cLk a) (cLk b)).run Try.prog w = .ok (decide (a = b)) w := by
  have he : EqT Try.prog 64 true _ _ := inferInstance
  obtain ⟨r, h1, h2⟩ := he.eq 10000 (lkL a) (lkL b) w (by decide) rfl rfl
  have h3 : r = decide (a = b) := by
    cases r with
    | true => exact (decide_eq_true (lkL_inj (h2.1 rfl))).symm
    | false => exact (decide_eq_false fun e => by rw [e] at h2; exact absurd (h2.2 rfl) (by decide)).symm
  rw [← h3]; exact h1
theorem lk_find (k : LkT) (es : List (ME LkT)) (w : World) : (Instr.findKey 64 (cLk k) (es.map (ME.e cLk))).run Try.prog w = .ok (match es.findIdx? (fun x => decide (x.k = k)) with | some i => some (i, ((es[i]?).map ME.v).getD undef) | none => none) w := by
  unfold Instr.findKey
  simp only [Sem.run_bind, Ty.run_und, Result.andThen_ok]
  cases es with
  | nil => rfl
  | cons x es =>
    have hn : ∀ d : Array Field, Instr.findNow (.struct d) (cLk k) ((x :: es).map (ME.e cLk)) 0 = none := fun d => rfl
    rw [hn]
    have := findAsk (k := k) (kt := 64) lk_eq (x :: es) 0 w
    simp only [Nat.zero_add] at this
    exact this
instance : MapK Try.prog 64 LkT cLk := ⟨lk_chk, lk_find, fun k => by
  unfold cLk lkL; simp [Instr.sameBits]⟩
end Go.Tg

set_option linter.unusedVariables false
set_option linter.unusedSimpArgs false
set_option maxRecDepth 100000
set_option maxHeartbeats 2000000
namespace Go.Tg
open Go Go.Proofs
theorem del_sl (a : Option Addr) (c : Nat) (xs : List Value) (i : Nat) (hi : i < xs.length) (h1 : ∀ v ∈ xs, v.oneCell' = true) (hb : xs.length ≤ 1000000) (g : FH) (w : World)
    (HO : St w (HA.own (.slice a xs.length c) 31 1 xs.length xs).fp g g [.own (.slice a xs.length c) 31 1 xs.length xs] w) :
    Spec Try.prog 28 #[.slice a xs.length c, .int .i64 i, .int .i64 ((i : Int) + 1)] w (HA.own (.slice a xs.length c) 31 1 xs.length xs).fp g (fun v' h' L' => h' = g ∧ ∃ a' c', v' = .slice a' (xs.eraseIdx i).length c' ∧ L' = [.own v' 31 1 (xs.eraseIdx i).length (xs.eraseIdx i)]) := by
  have H := HO
  have hmx : c ≤ maxLen := by
    obtain ⟨_, h2⟩ := HO.ok 0 _ rfl
    rcases h2 with ⟨h2, h3⟩ | ⟨g2, cap, cur2, h2, _, hg, hnc, hm, hs, ht⟩
    · omega
    · cases h2; exact hm
  have h9 : (maxLen : Nat) ≤ 9223372036854775807 := by decide
  obtain ⟨g0, cur, rfl, hnc, hcl, hct, H9⟩ := H.ownBlk (i := 0) rfl (Nat.lt_of_le_of_lt (Nat.zero_le _) hi)
  clear H; have H := H9; clear H9
  rw [Nat.mul_one] at hcl hct
  simp only [List.set_cons_zero] at H
  generalize hF9 : (HA.own (.slice (some ⟨g0, 0, none⟩) xs.length c) 31 1 xs.length xs).fp = F9 at H ⊢
  unfold Spec
  refine calls_of Try.func28 rfl Try.ntmps28 (by simp) ?_
  have hadr : (if c = ((i : Int) + 1).toNat then some (⟨g0, 0, none⟩ : Addr) else Option.map (fun x : Addr => x.add (((i : Int) + 1).toNat * 1)) (some (⟨g0, 0, none⟩ : Addr))) = some (if c = i + 1 then ⟨g0, 0, none⟩ else ⟨g0, i + 1, none⟩) := by
    rw [show ((i : Int) + 1).toNat = i + 1 by omega]
    split
    · rfl
    · simp [Addr.add]
  have hcell : ∀ j, j < xs.length → cur[j]? = xs[j]? := fun j hj => by
    have := congrArg (fun l => l[j]?) hct
    simp only [List.getElem?_take, if_pos hj] at this
    exact this
  have hlen : (xs.drop (i + 1)).length = xs.length - (((i : Int) + 1).toNat) := by rw [List.length_drop]; omega
  have hsrc : ∀ w' : World, w'.heap[g0]? = some (.cells cur.toArray 31 (0, 0)) → ∀ j v, (xs.drop (i + 1))[j]? = some v → w'.cell? ((if c = i + 1 then (⟨g0, 0, none⟩ : Addr) else ⟨g0, i + 1, none⟩).add j) = some v := fun w' hw j v hj => by
    have hjl := (List.getElem?_eq_some_iff.1 hj).1
    rw [List.length_drop] at hjl
    rw [if_neg (by omega), cell_add, cell_of_row w' g0 _ _ _ _ hw, List.getElem?_toArray, hcell _ (by omega)]
    rw [List.getElem?_drop] at hj; exact hj
  repeat' (first | ((first | refine WL.p rfl ?_ | refine WL.u ?_); first | (refine opk 1 rfl ?_; (refine ost_appIn (news := xs.drop (i + 1)) H rfl rfl rfl hadr (by (exact ixQ)) hlen (hsrc _ H.bI) (by omega) (by omega) (fun v hv => h1 v (List.mem_of_mem_drop hv)) ?_; clear H; intro wk H; simp only [List.set_cons_zero] at H)) | (refine opk 10 rfl ?_; (refine ost_slice3 rfl rfl rfl rfl rfl (by omega) (by omega) (by omega) (by omega) ?_)) | refine pvQ ?_ | (refine opk 3 rfl ?_; (refine ost_cmp rfl rfl rfl rfl (fun hc => ?_) (fun hc => ?_) <;> (simp only [cmpP] at hc; try exact prIQ))) | (refine opk 4 rfl ?_; (refine ost_cmp rfl rfl rfl rfl (fun hc => ?_) (fun hc => ?_) <;> (simp only [cmpP] at hc; try exact prIQ)))) | refine Wc.seq ?_ | refine then_n ?_ | refine WL.nil ?_ | refine Wc.region ?_ | refine Wc.block ?_ | refine then_r ?_ | refine then_e ?_ | refine inb_e rfl ?_ | refine inb_o rfl ?_ | refine inb_n ?_ | refine inb_r ?_ | refine Wc.skip ?_ | refine Wc.exit ?_ | refine Wc.ret ?_ | refine Wc.cond_true rfl ?_ | refine Wc.cond_false rfl ?_ | (refine Wc.drawn (id := 5) 6 (by kernel_rfl) ?_) | (refine rgs_nil ?_; intro vs wk hE; replace H := H.ext hE; clear hE) | (refine RGs.bq (fun _ => rfl) rfl (by intro vs w hE hP; have H := H.ext hE; first | exact dbQ | fail) (fun hc => ?_) (fun hc => ?_) <;> ((try simp only [cmpP, decide_eq_true_eq, decide_eq_false_iff_not, dcd_iff, dcd_no] at hc); try exact prDQ)) | refine RGs.pq (fun _ => rfl) rfl (by intro vs w hE hP; have H := H.ext hE; first | exact dvQ | fail) ?_)
  rw [show (i : Int).toNat + (xs.length - ((i : Int) + 1).toNat) = xs.length - 1 by omega, show (i : Int).toNat = i from rfl] at H
  rw [show (i : Int).toNat + (xs.length - ((i : Int) + 1).toNat) = xs.length - 1 by omega, show (((xs.length - 1 : Nat) : Int)).toNat = xs.length - 1 from rfl]
  have hti : cur.take i = xs.take i := by
    have := congrArg (List.take i) hct
    rw [List.take_take, Nat.min_eq_left (by omega)] at this; exact this
  have hel : xs.eraseIdx i = xs.take i ++ xs.drop (i + 1) := List.eraseIdx_eq_take_drop_succ ..
  have hell : (xs.eraseIdx i).length = xs.length - 1 := by rw [List.length_eraseIdx, if_pos hi]
  rw [hti, ← hel] at H
  generalize xs.eraseIdx i = E at H hell ⊢
  have hl9 : (E ++ cur.drop (xs.length - 1)).length = c := by rw [List.length_append, List.length_drop]; omega
  generalize hM : E ++ cur.drop (xs.length - 1) = M at H hl9
  repeat' (first | ((first | refine WL.p rfl ?_ | refine WL.u ?_); first | (refine opk 1 rfl ?_; (refine ost_clearB (b := g0) (off := xs.length - 1) H rfl rfl (fun _ => by rw [if_neg (by omega)]; simp [Addr.add]; omega) rfl (by (exact ixQ)) (by omega) ?_; clear H; intro wk H; simp only [List.set_cons_zero] at H)) | refine pvQ ?_ | (refine opk 3 rfl ?_; (refine ost_cmp rfl rfl rfl rfl (fun hc => ?_) (fun hc => ?_) <;> (simp only [cmpP] at hc; try exact prIQ))) | (refine opk 4 rfl ?_; (refine ost_cmp rfl rfl rfl rfl (fun hc => ?_) (fun hc => ?_) <;> (simp only [cmpP] at hc; try exact prIQ)))) | refine Wc.seq ?_ | refine then_n ?_ | refine WL.nil ?_ | refine Wc.region ?_ | refine Wc.block ?_ | refine then_r ?_ | refine then_e ?_ | refine inb_e rfl ?_ | refine inb_o rfl ?_ | refine inb_n ?_ | refine inb_r ?_ | refine Wc.skip ?_ | refine Wc.exit ?_ | refine Wc.ret ?_ | refine Wc.cond_true rfl ?_ | refine Wc.cond_false rfl ?_ | (refine Wc.drawn (id := 5) 6 (by kernel_rfl) ?_) | (refine rgs_nil ?_; intro vs wk hE; replace H := H.ext hE; clear hE) | (refine RGs.bq (fun _ => rfl) rfl (by intro vs w hE hP; have H := H.ext hE; first | exact dbQ | fail) (fun hc => ?_) (fun hc => ?_) <;> ((try simp only [cmpP, decide_eq_true_eq, decide_eq_false_iff_not, dcd_iff, dcd_no] at hc); try exact prDQ)) | refine RGs.pq (fun _ => rfl) rfl (by intro vs w hE hP; have H := H.ext hE; first | exact dvQ | fail) ?_)
  have hMt : M.take (xs.length - 1) = E := by rw [← hM]; exact List.take_left' hell
  rw [hMt, show ((xs.length : Nat) : Int).toNat - (xs.length - 1) = 1 by omega] at H
  have hl8 : (E ++ List.replicate 1 (Value.slice none 0 0) ++ M.drop (xs.length - 1 + 1)).length = c := by
    simp only [List.length_append, List.length_replicate, List.length_drop]; omega
  have H2 := H.blkOwnB (i := 0) rfl hl8 (n := xs.length - 1) (by omega) hmx
  rw [List.append_assoc, List.take_left' hell] at H2
  exact fn_ret1 (v := .slice _ _ _) rfl rfl ⟨_, _, H2, rfl, _, c, by rw [hell], by rw [hell]; rfl⟩
end Go.Tg

