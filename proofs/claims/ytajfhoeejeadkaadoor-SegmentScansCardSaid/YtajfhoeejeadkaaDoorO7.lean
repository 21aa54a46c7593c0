/- Contracts of Go functions that the laws reach: what each call answers and leaves in memory, for all arguments within the bounds that each theorem names. -/
import Derived.Test.YtajfhoeejeadkaaDoorInst
import Derived.Test.YtajfhoeejeadkaaDoorAuto
import Derived.Test.YtajfhoeejeadkaaDoorS5
import Derived.Test.YtajfhoeejeadkaaDoorVecE
import Derived.Test.YtajfhoeejeadkaaDoorW4
import Derived.Test.YtajfhoeejeadkaaDoorS2
set_option linter.unusedVariables false
set_option linter.unusedSimpArgs false
set_option maxRecDepth 100000
set_option maxHeartbeats 4000000
namespace Go.Tg
open Go Go.Proofs
theorem r12_pair (k n : Nat) (hk : k < 18446744073709551616) (hn : n < 18446744073709551616) (h0 : FH) (w : World) (hs : Sat h0 w) :
    Spec Tryd.prog 82 #[.int .u64 k, .int .u64 n] w [] h0 (fun v h' L' => ∃ a' c', v = .slice a' (numF k n).length c' ∧ L' = [own8 v 5 (numF k n)]) := by
  have H := St.start hs
  have p1 := putB_len k
  have p2 := putB_len n
  have hJ : ∀ (h0 : FH) (a1 : Option Addr) (c1 : Nat) (a2 : Option Addr) (c2 : Nat) (w : World) (hs : Sat h0 w) (hx : BS h0 a1 c1 (putB k)) (hy : BS h0 a2 c2 (putB n)), Spec Tryd.prog 123 #[.slice a1 (putB k).length c1, .slice a2 (putB n).length c2] w [] h0 (fun v h' L' => ∃ a' c', v = .slice a' (numF k n).length c' ∧ h' = h0 ∧ L' = [own8 v 5 (numF k n)]) :=
    fun h0 a1 c1 a2 c2 w hs hx hy => r3_Join h0 w hs a1 c1 (putB k) a2 c2 (putB n) hx hy (by omega)
  unfold Spec
  refine calls_of Tryd.func82 rfl Tryd.ntmps82 (by simp) ?_
  repeat' (first | ((first | refine WL.p rfl ?_ | refine WL.u ?_); first | (refine opk 1 rfl ?_; first | (refine ost_C H rfl (r2_Put k (by omega) _ _ (sat_full _)) rfl ?_; clear H; rintro vk wk hfk Lk ⟨a1, c1, rfl, _, rfl⟩ H; simp only [List.cons_append, List.nil_append] at H) | (refine ost_C H rfl (r2_Put n (by omega) _ _ (sat_full _)) rfl ?_; clear H; rintro vk wk hfk Lk ⟨a1, c1, rfl, _, rfl⟩ H; simp only [List.cons_append, List.nil_append] at H) | (refine ost_C H rfl (hJ _ _ _ _ _ _ (sat_full _) (H.own8rd (i := 1) rfl) (H.own8rd (i := 0) rfl)) rfl ?_; clear H; rintro vk wk hfk Lk ⟨a2, c2, rfl, _, rfl⟩ H; simp only [List.cons_append, List.nil_append] at H)) | refine pvQ ?_) | refine Wc.seq ?_ | refine then_n ?_ | refine WL.nil ?_ | refine Wc.region ?_ | refine Wc.block ?_ | refine then_r ?_ | refine then_e ?_ | refine inb_e rfl ?_ | refine inb_o rfl ?_ | refine inb_n ?_ | refine inb_r ?_ | refine Wc.skip ?_ | refine Wc.exit ?_ | refine Wc.ret ?_ | refine Wc.cond_true rfl ?_ | refine Wc.cond_false rfl ?_)
  exact fn_ret1 (v := .slice _ _ _) rfl rfl ⟨_, _, H.pick 0 rfl, _, _, rfl, rfl⟩
theorem r12_Head (id : UInt32) (h0 : FH) (w : World) (hs : Sat h0 w) :
    Spec Tryd.prog 39 #[.int .u32 id.toNat] w [] h0 (fun v h' L' => ∃ a' c', v = .slice a' (headB id).length c' ∧ L' = [own8 v 5 (headB id)]) := by
  have H := St.start hs
  have hi := id.toNat_lt
  have hl := numF_len 1 id.toNat
  unfold Spec
  refine calls_of Tryd.func39 rfl Tryd.ntmps39 (by simp) ?_
  repeat' (first | ((first | refine WL.p rfl ?_ | refine WL.u ?_); first | (refine opk 1 rfl ?_; first | (refine ost_C H rfl (r12_pair 1 id.toNat (by omega) (by omega) _ _ (sat_full _)) rfl ?_; clear H; rintro vk wk hfk Lk ⟨a1, c1, rfl, rfl⟩ H; simp only [List.cons_append, List.nil_append] at H) | (refine ost_C H rfl (r10_Wrapn _ _ _ _ (numF 1 id.toNat) _ (sat_full _) rfl (by omega) (H.own8rd (i := 0) rfl)) rfl ?_; clear H; rintro vk wk hfk Lk ⟨a5, c5, rfl, _, rfl⟩ H; simp only [List.cons_append, List.nil_append] at H)) | refine pvQ ?_) | refine Wc.seq ?_ | refine then_n ?_ | refine WL.nil ?_ | refine Wc.region ?_ | refine Wc.block ?_ | refine then_r ?_ | refine then_e ?_ | refine inb_e rfl ?_ | refine inb_o rfl ?_ | refine inb_n ?_ | refine inb_r ?_ | refine Wc.skip ?_ | refine Wc.exit ?_ | refine Wc.ret ?_ | refine Wc.cond_true rfl ?_ | refine Wc.cond_false rfl ?_)
  exact fn_ret1 (v := .slice _ _ _) rfl rfl ⟨_, _, H.pick 0 rfl, _, _, rfl, rfl⟩
noncomputable def recO (o : OpT) : List UInt8 × Bool := if rightO o 16 = true then (recF o, true) else ([], false)
theorem r12_record (o : OpT) (h0 : FH) (w : World) (hs : Sat h0 w) :
    Spec Tryd.prog 79 #[.agg (cOp o).toArray] w [] h0 (fun v h' L' => ∃ a' c', v = .tuple #[.slice a' (recO o).1.length c', .bool (recO o).2] ∧ L' = [own8 (.slice a' (recO o).1.length c') 5 (recO o).1]) := by
  have H := St.start hs
  have lo := cOp_len o
  unfold Spec
  refine calls_of Tryd.func79 rfl Tryd.ntmps79 (by simp) ?_
  cases hr : rightO o 16 with
  | true =>
    have hl := encO_len o
    have hf := fieldB_len (encO o)
    have hp := putB_len 2
    have hE : ∀ w, Sat h0 w → Spec Tryd.prog 122 #[.agg (cOp o).toArray] w [] h0 (fun v h' L' => ∃ a' c', v = .tuple #[.slice a' (encO o).length c', .int .i64 0] ∧ h' = h0 ∧ L' = [own8 (.slice a' (encO o).length c') 5 (encO o)]) := fun w hs => by
      have := r6_Encode h0 o w hs
      rw [show outO o = (encO o, 0) by unfold outO; rw [if_pos hr]] at this; exact this
    rw [show recO o = (recF o, true) by unfold recO; rw [if_pos hr]]
    have hJ : ∀ (h0 : FH) (a1 : Option Addr) (c1 : Nat) (a2 : Option Addr) (c2 : Nat) (w : World) (hs : Sat h0 w) (hx : BS h0 a1 c1 (putB 2)) (hy : BS h0 a2 c2 (fieldB (encO o))), Spec Tryd.prog 123 #[.slice a1 (putB 2).length c1, .slice a2 (fieldB (encO o)).length c2] w [] h0 (fun v h' L' => ∃ a' c', v = .slice a' (recF o).length c' ∧ h' = h0 ∧ L' = [own8 v 5 (recF o)]) :=
      fun h0 a1 c1 a2 c2 w hs hx hy => r3_Join h0 w hs a1 c1 (putB 2) a2 c2 (fieldB (encO o)) hx hy (by omega)
    repeat' (first | ((first | refine WL.p rfl ?_ | refine WL.u ?_); first | (refine opk 1 rfl ?_; first | (refine ost_Sk H rfl (hE _ H.sat) rfl ?_; clear H; rintro vk wk hfk Lk ⟨a1, c1, rfl, e9, rfl⟩ hle H; simp only [List.cons_append, List.nil_append] at H) | (refine ost_C H rfl (r2_Put 2 (by omega) _ _ (sat_full _)) rfl ?_; clear H; rintro vk wk hfk Lk ⟨a1, c1, rfl, _, rfl⟩ H; simp only [List.cons_append, List.nil_append] at H) | (refine ost_C H rfl (r3_Field _ _ (sat_full _) _ _ (encO o) (H.own8rd (i := 1) rfl) (by omega)) rfl ?_; clear H; rintro vk wk hfk Lk ⟨a1, c1, rfl, _, rfl⟩ H; simp only [List.cons_append, List.nil_append] at H) | (refine ost_C H rfl (hJ _ _ _ _ _ _ (sat_full _) (H.own8rd (i := 1) rfl) (H.own8rd (i := 0) rfl)) rfl ?_; clear H; rintro vk wk hfk Lk ⟨a2, c2, rfl, _, rfl⟩ H; simp only [List.cons_append, List.nil_append] at H)) | refine pvQ ?_ | (refine opk 3 rfl ?_; (refine ost_cmp rfl rfl rfl rfl (fun hc => ?_) (fun hc => ?_) <;> (simp only [cmpP] at hc; try exact prIQ))) | (refine opk 4 rfl ?_; (refine ost_cmp rfl rfl rfl rfl (fun hc => ?_) (fun hc => ?_) <;> (simp only [cmpP] at hc; try exact prIQ))) | (refine opk 9 rfl ?_; (refine ost_boxq H rfl ?_; clear H; intro bk wk H))) | refine Wc.seq ?_ | refine then_n ?_ | refine WL.nil ?_ | refine Wc.region ?_ | refine Wc.block ?_ | refine then_r ?_ | refine then_e ?_ | refine inb_e rfl ?_ | refine inb_o rfl ?_ | refine inb_n ?_ | refine inb_r ?_ | refine Wc.skip ?_ | refine Wc.exit ?_ | refine Wc.ret ?_ | refine Wc.cond_true rfl ?_ | refine Wc.cond_false rfl ?_)
    exact fn_ret2 (v1 := .slice _ _ _) (v2 := .bool _) rfl rfl rfl ⟨_, _, H.pick 0 rfl, _, _, rfl, rfl⟩
  | false =>
    have hE : ∀ w, Sat h0 w → Spec Tryd.prog 122 #[.agg (cOp o).toArray] w [] h0 (fun v h' L' => ∃ a' c', v = .tuple #[.slice a' ([] : List UInt8).length c', .int .i64 2] ∧ h' = h0 ∧ L' = [own8 (.slice a' ([] : List UInt8).length c') 5 []]) := fun w hs => by
      have := r6_Encode h0 o w hs
      rw [show outO o = ([], 2) by unfold outO; rw [hr]; rfl] at this; exact this
    rw [show recO o = ([], false) by unfold recO; rw [hr]; rfl]
    repeat' (first | ((first | refine WL.p rfl ?_ | refine WL.u ?_); first | (refine opk 1 rfl ?_; (refine ost_Sk H rfl (hE _ H.sat) rfl ?_; clear H; rintro vk wk hfk Lk ⟨a1, c1, rfl, e9, rfl⟩ hle H; simp only [List.cons_append, List.nil_append] at H)) | refine pvQ ?_ | (refine opk 3 rfl ?_; (refine ost_cmp rfl rfl rfl rfl (fun hc => ?_) (fun hc => ?_) <;> (simp only [cmpP] at hc; try exact prIQ))) | (refine opk 4 rfl ?_; (refine ost_cmp rfl rfl rfl rfl (fun hc => ?_) (fun hc => ?_) <;> (simp only [cmpP] at hc; try exact prIQ))) | (refine opk 9 rfl ?_; (refine ost_boxq H rfl ?_; clear H; intro bk wk H))) | refine Wc.seq ?_ | refine then_n ?_ | refine WL.nil ?_ | refine Wc.region ?_ | refine Wc.block ?_ | refine then_r ?_ | refine then_e ?_ | refine inb_e rfl ?_ | refine inb_o rfl ?_ | refine inb_n ?_ | refine inb_r ?_ | refine Wc.skip ?_ | refine Wc.exit ?_ | refine Wc.ret ?_ | refine Wc.cond_true rfl ?_ | refine Wc.cond_false rfl ?_)
    exact fn_ret2 (v1 := .slice _ _ _) (v2 := .bool _) rfl rfl rfl ⟨_, _, (H.nil8 5).pick 0 rfl, _, _, rfl, rfl⟩
end Go.Tg

set_option linter.unusedVariables false
set_option maxRecDepth 100000
set_option maxHeartbeats 400000
namespace Go.Tg
open Go Go.Proofs
theorem fill_op0 (n2 n3 n4 n5 n6 : Int) (x0 x1 x2 x3 x4 x5 x6 x7 x8 x9 x10 x11 x12 x13 x14 x15 : Value) : fillL [(0, 2), (2, 1), (3, 1), (4, 1), (5, 1), (6, 1), (7, 16)] [.int .u8 0, .int .u32 0, .int .u8 0, .int .u16 0, .int .u16 0, .int .u16 0, .int .u32 0, .int .u32 0, .int .u32 0, .int .u32 0, .int .u32 0, .int .u32 0, .int .u32 0, .int .u32 0, .int .u32 0, .int .u32 0, .int .u32 0, .int .u32 0, .int .u32 0, .int .u32 0, .int .u32 0, .int .u32 0, .int .u32 0] [(1, .int .u8 n2), (2, .int .u16 n3), (3, .int .u16 n4), (4, .int .u16 n5), (5, .int .u32 n6), (6, .agg [x0, x1, x2, x3, x4, x5, x6, x7, x8, x9, x10, x11, x12, x13, x14, x15].toArray)] = [.int .u8 0, .int .u32 0, .int .u8 n2, .int .u16 n3, .int .u16 n4, .int .u16 n5, .int .u32 n6, x0, x1, x2, x3, x4, x5, x6, x7, x8, x9, x10, x11, x12, x13, x14, x15] := by simp [fillL, setMany, Value.cells]
theorem fill_op (n2 n3 n4 n5 n6 : Int) (v : V16) : fillL [(0, 2), (2, 1), (3, 1), (4, 1), (5, 1), (6, 1), (7, 16)] [.int .u8 0, .int .u32 0, .int .u8 0, .int .u16 0, .int .u16 0, .int .u16 0, .int .u32 0, .int .u32 0, .int .u32 0, .int .u32 0, .int .u32 0, .int .u32 0, .int .u32 0, .int .u32 0, .int .u32 0, .int .u32 0, .int .u32 0, .int .u32 0, .int .u32 0, .int .u32 0, .int .u32 0, .int .u32 0, .int .u32 0] [(1, .int .u8 n2), (2, .int .u16 n3), (3, .int .u16 n4), (4, .int .u16 n5), (5, .int .u32 n6), (6, .agg (cV v).toArray)] = [.int .u8 0, .int .u32 0, .int .u8 n2, .int .u16 n3, .int .u16 n4, .int .u16 n5, .int .u32 n6] ++ cV v := by
  have e : cV v = [u32 (v 0), u32 (v 1), u32 (v 2), u32 (v 3), u32 (v 4), u32 (v 5), u32 (v 6), u32 (v 7), u32 (v 8), u32 (v 9), u32 (v 10), u32 (v 11), u32 (v 12), u32 (v 13), u32 (v 14), u32 (v 15)] := by simp [cV, List.ofFn_succ]
  rw [e]; exact fill_op0 _ _ _ _ _ (u32 (v 0)) (u32 (v 1)) (u32 (v 2)) (u32 (v 3)) (u32 (v 4)) (u32 (v 5)) (u32 (v 6)) (u32 (v 7)) (u32 (v 8)) (u32 (v 9)) (u32 (v 10)) (u32 (v 11)) (u32 (v 12)) (u32 (v 13)) (u32 (v 14)) (u32 (v 15))
theorem fill_ok (n2 n3 n4 n5 n6 : Int) (v : V16) : fillOk [(0, 2), (2, 1), (3, 1), (4, 1), (5, 1), (6, 1), (7, 16)] 23 [(1, .int .u8 n2), (2, .int .u16 n3), (3, .int .u16 n4), (4, .int .u16 n5), (5, .int .u32 n6), (6, .agg (cV v).toArray)] = true := by
  have : (Value.agg (cV v).toArray).cells.toList.length = 16 := by rw [show (Value.agg (cV v).toArray).cells = (cV v).toArray from rfl]; simp [cV_len]
  simp only [fillOk, this]; rfl
end Go.Tg

set_option linter.unusedVariables false
set_option linter.unusedSimpArgs false
set_option maxRecDepth 100000
set_option maxHeartbeats 1000000
namespace Go.Tg
open Go Go.Proofs
def tk8 (b : List UInt8) : Nat → TkT
  | 0 => ⟨0, b, false⟩
  | k + 1 => tkS (tk8 b k) 64
theorem tk8_full {b : List UInt8} {u : OpT} (h : encO u = b) : ∀ k, k ≤ 7 → tk8 b k = ⟨0, tailO u k ++ fieldB (encV u.ctx), false⟩
  | 0, _ => by
    show (⟨0, b, false⟩ : TkT) = _
    rw [← h]; unfold encO putsO tailO; simp
  | k + 1, hk => by
    have ih := tk8_full h k (by omega)
    have hn := numsO_lt u k
    exact (tk_full (t := tk8 b k) (bits := 64) (n := numsO u k) (r := tailO u (k + 1) ++ fieldB (encV u.ctx)) (by rw [ih]) (by rw [ih]) (by rw [ih, tailO_step (by omega), List.append_assoc]) (by omega) (by omega)).2
theorem tk8_num {b : List UInt8} {u : OpT} (h : encO u = b) {k : Nat} (hk : k < 7) : numE (tk8 b k).e (tk8 b k).xs = (numsO u k, 0, 0, tailO u (k + 1) ++ fieldB (encV u.ctx)) := by
  have ih := tk8_full h k (by omega)
  have hn := numsO_lt u k
  rw [ih, tailO_step hk, List.append_assoc]
  exact numE_putB _ (by omega) _
theorem tk8_end {b : List UInt8} {u : OpT} (h : encO u = b) : tk8 b 7 = ⟨0, fieldB (encV u.ctx), false⟩ := by
  rw [tk8_full h 7 (by omega)]; simp [tailO]
theorem tk8_len (b : List UInt8) : ∀ k, (tk8 b k).xs.length ≤ b.length
  | 0 => Nat.le_refl _
  | k + 1 => Nat.le_trans (numE_len _ _) (tk8_len b k)
theorem tk8_bad {b : List UInt8} {k : Nat} (h1 : (tk8 b k).bad = false) (h2 : (numE (tk8 b k).e (tk8 b k).xs).2.1 = 0) : (tk8 b (k + 1)).bad = false := by
  have h3 := numE_lt (tk8 b k).e (tk8 b k).xs
  have h4 : tkN (tk8 b k) / 2 ^ 64 = 0 := Nat.div_eq_of_lt (by unfold tkN; omega)
  show ((tk8 b k).bad || !(decide ((numE (tk8 b k).e (tk8 b k).xs).2.1 = 0) && decide (tkN (tk8 b k) / 2 ^ 64 = 0))) = false
  rw [h1, h2, h4]; rfl
def rowsN (b : List UInt8) (k : Nat) : List (List Value) := (List.range k).map fun i => [.int .u64 (tkN (tk8 b i))]
theorem rowsN_succ (b : List UInt8) (k : Nat) : rowsN b (k + 1) = rowsN b k ++ [[.int .u64 (tkN (tk8 b k))]] := by simp [rowsN, List.range_succ]
theorem rowsN_len (b : List UInt8) (k : Nat) : (rowsN b k).length = k := by simp [rowsN]
theorem St.cell6 {ws w : World} {S : List Nat} {h0 h : FH} {A B C D E : HA} {b : Nat} {l l2 : List Value} {T : TypeId} (H : St ws S h0 h [A, B, C, D, E, .blk b (.cells l.toArray T (0, 0))] w) (e : l = l2) : St ws S h0 h [A, B, C, D, E, .blk b (.cells l2.toArray T (0, 0))] w := e ▸ H
theorem r6_Decode (h0 : FH) (a : Option Addr) (c : Nat) (b : List UInt8) (w : World) (hs : Sat h0 w) (hr : BS h0 a c b) (hb : b.length ≤ 1000000) :
    SpecV Tryd.prog 129 #[.slice a b.length c] w (.tuple #[.agg (cOp (decO b).1).toArray, .int .i64 (decO b).2]) := by
  have H := St.start hs
  have z23 := cOp_len zeroO
  have no5 : (∀ u, rightO u 16 = true → encO u ≠ b) → Value.tuple #[.agg (cOp zeroO).toArray, .int .i64 5] = .tuple #[.agg (cOp (decO b).1).toArray, .int .i64 (decO b).2] := fun hu => decO_fin (.inr ⟨rfl, rfl, hu⟩) rfl
  unfold SpecV
  refine calls_of Tryd.func129 rfl Tryd.ntmps129 (by simp) ?_
  repeat' (first | ((first | refine WL.p rfl ?_ | refine WL.u ?_ | refine WL.g rfl rfl ?_ | refine WL.gu rfl ?_); first | refine pvQ ?_ | (refine opk 3 rfl ?_; first | (refine ost_cmp rfl rfl rfl rfl (fun hc => ?_) (fun hc => ?_) <;> (simp only [cmpP] at hc; try exact prIQ)) | (refine ost_streqB rfl rfl rfl (fun hc => ?_) (fun hc => ?_) <;> try exact prEQ) | (refine ost_strneB rfl rfl rfl (fun hc => ?_) (fun hc => ?_) <;> try exact prEQ) | (refine ost_streq rfl rfl rfl (fun hc => ?_) (fun hc => ?_) <;> try exact absurd rfl hc) | (refine ost_strne rfl rfl rfl (fun hc => ?_) (fun hc => ?_))) | (refine opk 4 rfl ?_; (refine ost_cmp rfl rfl rfl rfl (fun hc => ?_) (fun hc => ?_) <;> (simp only [cmpP] at hc; try exact prIQ))) | (refine opk 8 rfl ?_; (refine ost_storeW H rfl rfl rfl rfl lQ ixQ lQ okQ ?_; clear H; intro wk H; simp only [List.set_cons_zero, List.set_cons_succ, Nat.reduceAdd] at H)) | (refine opk 9 rfl ?_; first | (refine ost_allocA H rfl ?_; clear H; intro bk wk H) | (refine ost_build1 H rfl rfl rfl evQ lsQ rfl ?_; clear H; intro bk wk H))) | refine Wc.seq ?_ | refine then_n ?_ | refine WL.nil ?_ | refine Wc.region ?_ | refine Wc.block ?_ | refine then_r ?_ | refine then_e ?_ | refine inb_e rfl ?_ | refine inb_o rfl ?_ | refine inb_n ?_ | refine inb_r ?_ | refine Wc.skip ?_ | refine Wc.exit ?_ | refine Wc.ret ?_ | refine Wc.cond_true rfl ?_ | refine Wc.cond_false rfl ?_ | (refine Wc.drawn (id := 17) 23 (by kernel_rfl) ?_) | (refine Wc.drawn (id := 18) 8 (by kernel_rfl) ?_) | (refine Wc.drawn (id := 19) 9 (by kernel_rfl) ?_) | refine WL.skp rfl rfl ?_ | refine WL.sku rfl ?_ | (refine rgs_nil ?_; intro vs wk hE; replace H := H.ext hE; clear hE) | refine RGs.skp (fun _ => rfl) rfl ?_ | (refine RGs.bq (fun _ => rfl) rfl (by intro vs w hE hP; have H := H.ext hE; first | exact dbQ | fail) (fun hc => ?_) (fun hc => ?_) <;> ((try simp only [cmpP, decide_eq_true_eq, decide_eq_false_iff_not, dcd_iff, dcd_no] at hc); try exact prDQ)) | refine RGs.pq (fun _ => rfl) rfl (by intro vs w hE hP; have H := H.ext hE; first | exact dvQ | fail) ?_)
  rename_i b2 _ _
  replace H : St w [] h0 h0 [ownR (.slice none 0 0) 91 1 (rowsN b 0), .blk bk (.cells [.slice a b.length c, .int .i64 0].toArray 162 (0, 0)), .blk b2 (.cells (cOp zeroO).toArray 67 (0, 0))] wk := H.nilOwn 91 1
  refine Wc.loopE (fun s0 m s w' => ∃ (k : Nat) (a3 : Option Addr) (c3 : Nat) (a5 : Option Addr) (c5 : Nat), m = 7 - k ∧ k ≤ 7 ∧ Agree [3, 5, 6, 7, 8, 9, 18, 19, 20, 21, 22, 23, 24, 25, 26, 27, 28, 29, 30, 31, 32, 33, 34, 35] s s0 ∧ s 6 = .int .i64 k ∧ s 5 = .slice a5 (rowsN b k).length c5 ∧
    BS h0 a3 c3 (tk8 b k).xs ∧ (tk8 b k).e = 0 ∧ (tk8 b k).bad = false ∧
    St w [] h0 h0 [ownR (.slice a5 (rowsN b k).length c5) 91 1 (rowsN b k), .blk bk (.cells [Value.slice a3 (tk8 b k).xs.length c3, Value.int .i64 (tk8 b k).e].toArray 162 (0, 0)), .blk b2 (.cells (cOp zeroO).toArray 67 (0, 0))] w') 7
    ⟨0, a, c, none, 0, rfl, by omega, Agree.refl _ _, rfl, rfl, hr, rfl, rfl, H⟩ ?_
  clear H
  rintro m s w' ⟨k, a3, c3, a5, c5, rfl, hk, hA, e1, e2, hr3, he, hbd, H⟩
  obtain ⟨j, rfl⟩ := hA.env2 e1 e2
  clear hA e1 e2
  have hlen := tk8_len b k
  have hrl := rowsN_len b k
  by_cases hlt : k < 7
  · have hlt9 := numE_lt (tk8 b k).e (tk8 b k).xs
    by_cases herr : (numE (tk8 b k).e (tk8 b k).xs).2.1 = 0
    · repeat' (first | ((first | refine WL.p rfl ?_ | refine WL.u ?_ | refine WL.g rfl rfl ?_ | refine WL.gu rfl ?_); first | (refine opk 1 rfl ?_; first | (refine ost_Sk H rfl (r3_Num _ _ H.sat _ _ _ _ hr3) rfl ?_; clear H; rintro vk wk hfk Lk ⟨a4, c4, rfl, rfl, rfl, hr4⟩ hle H; simp only [List.cons_append, List.nil_append] at H) | (refine ost_appR (rows := rowsN b k) (row := [.int .u64 (tkN (tk8 b k))]) H rfl rfl rfl (by (exact ixQ)) (by (exact ixQ)) (by rfl) (by first | simp; done | exact Nat.succ_pos _) rfl (allOne_of rfl) rfl (by omega) ?_; clear H; intro aa ca wk H; simp only [List.set_cons_zero, List.set_cons_succ] at H)) | (refine opk 9 rfl ?_; (refine ost_buildR (rows := [[.int .u64 (tkN (tk8 b k))]]) H rfl (by decide) rfl (by rfl) (evP1 vxQ) (.cons rfl .nil) rfl (fun r hr => by rw [List.mem_singleton.1 hr]; rfl) ?_; clear H; intro bk wk H)) | refine pvQ ?_ | (refine opk 3 rfl ?_; first | (refine ost_cmp rfl rfl rfl rfl (fun hc => ?_) (fun hc => ?_) <;> (simp only [cmpP] at hc; try exact prIQ)) | (refine ost_streqB rfl rfl rfl (fun hc => ?_) (fun hc => ?_) <;> try exact prEQ) | (refine ost_strneB rfl rfl rfl (fun hc => ?_) (fun hc => ?_) <;> try exact prEQ) | (refine ost_streq rfl rfl rfl (fun hc => ?_) (fun hc => ?_) <;> try exact absurd rfl hc) | (refine ost_strne rfl rfl rfl (fun hc => ?_) (fun hc => ?_))) | (refine opk 4 rfl ?_; (refine ost_cmp rfl rfl rfl rfl (fun hc => ?_) (fun hc => ?_) <;> (simp only [cmpP] at hc; try exact prIQ))) | (refine opk 8 rfl ?_; (refine ost_storeW H rfl rfl rfl rfl lQ ixQ lQ okQ ?_; clear H; intro wk H; simp only [List.set_cons_zero, List.set_cons_succ, Nat.reduceAdd] at H)) | (refine opk 9 rfl ?_; first | (refine ost_allocA H rfl ?_; clear H; intro bk wk H) | (refine ost_build1 H rfl rfl rfl evQ lsQ rfl ?_; clear H; intro bk wk H))) | refine Wc.seq ?_ | refine then_n ?_ | refine WL.nil ?_ | refine Wc.region ?_ | refine Wc.block ?_ | refine then_r ?_ | refine then_e ?_ | refine inb_e rfl ?_ | refine inb_o rfl ?_ | refine inb_n ?_ | refine inb_r ?_ | refine Wc.skip ?_ | refine Wc.exit ?_ | refine Wc.ret ?_ | refine Wc.cond_true rfl ?_ | refine Wc.cond_false rfl ?_ | (refine Wc.drawn (id := 17) 23 (by kernel_rfl) ?_) | (refine Wc.drawn (id := 18) 8 (by kernel_rfl) ?_) | (refine Wc.drawn (id := 19) 9 (by kernel_rfl) ?_) | refine WL.skp rfl rfl ?_ | refine WL.sku rfl ?_ | (refine rgs_nil ?_; intro vs wk hE; replace H := H.ext hE; clear hE) | refine RGs.skp (fun _ => rfl) rfl ?_ | (refine RGs.bq (fun _ => rfl) rfl (by intro vs w hE hP; have H := H.ext hE; first | exact dbQ | fail) (fun hc => ?_) (fun hc => ?_) <;> ((try simp only [cmpP, decide_eq_true_eq, decide_eq_false_iff_not, dcd_iff, dcd_no] at hc); try exact prDQ)) | refine RGs.pq (fun _ => rfl) rfl (by intro vs w hE hP; have H := H.ext hE; first | exact dvQ | fail) ?_)
      exact ⟨7 - (k + 1), by omega, k + 1, a4, c4, aa, ca, rfl, by omega, by (repeat' (first | exact Agree.refl _ _ | exact Agree.havoc | refine Agree.upd rfl ?_ | refine Agree.hav2 rfl ?_)), rfl, by rw [rowsN_succ]; rfl, hr4, numE_ok herr, tk8_bad hbd herr, by rw [rowsN_succ]; exact H.tl.tl⟩
    · repeat' (first | ((first | refine WL.p rfl ?_ | refine WL.u ?_ | refine WL.g rfl rfl ?_ | refine WL.gu rfl ?_); first | (refine opk 1 rfl ?_; (refine ost_Sk H rfl (r3_Num _ _ H.sat _ _ _ _ hr3) rfl ?_; clear H; rintro vk wk hfk Lk ⟨a4, c4, rfl, rfl, rfl, hr4⟩ hle H; simp only [List.cons_append, List.nil_append] at H)) | refine pvQ ?_ | (refine opk 3 rfl ?_; first | (refine ost_cmp rfl rfl rfl rfl (fun hc => ?_) (fun hc => ?_) <;> (simp only [cmpP] at hc; try exact prIQ)) | (refine ost_streqB rfl rfl rfl (fun hc => ?_) (fun hc => ?_) <;> try exact prEQ) | (refine ost_strneB rfl rfl rfl (fun hc => ?_) (fun hc => ?_) <;> try exact prEQ) | (refine ost_streq rfl rfl rfl (fun hc => ?_) (fun hc => ?_) <;> try exact absurd rfl hc) | (refine ost_strne rfl rfl rfl (fun hc => ?_) (fun hc => ?_))) | (refine opk 4 rfl ?_; (refine ost_cmp rfl rfl rfl rfl (fun hc => ?_) (fun hc => ?_) <;> (simp only [cmpP] at hc; try exact prIQ))) | (refine opk 8 rfl ?_; (refine ost_storeW H rfl rfl rfl rfl lQ ixQ lQ okQ ?_; clear H; intro wk H; simp only [List.set_cons_zero, List.set_cons_succ, Nat.reduceAdd] at H)) | (refine opk 9 rfl ?_; first | (refine ost_allocA H rfl ?_; clear H; intro bk wk H) | (refine ost_build1 H rfl rfl rfl evQ lsQ rfl ?_; clear H; intro bk wk H))) | refine Wc.seq ?_ | refine then_n ?_ | refine WL.nil ?_ | refine Wc.region ?_ | refine Wc.block ?_ | refine then_r ?_ | refine then_e ?_ | refine inb_e rfl ?_ | refine inb_o rfl ?_ | refine inb_n ?_ | refine inb_r ?_ | refine Wc.skip ?_ | refine Wc.exit ?_ | refine Wc.ret ?_ | refine Wc.cond_true rfl ?_ | refine Wc.cond_false rfl ?_ | (refine Wc.drawn (id := 17) 23 (by kernel_rfl) ?_) | (refine Wc.drawn (id := 18) 8 (by kernel_rfl) ?_) | (refine Wc.drawn (id := 19) 9 (by kernel_rfl) ?_) | refine WL.skp rfl rfl ?_ | refine WL.sku rfl ?_ | (refine rgs_nil ?_; intro vs wk hE; replace H := H.ext hE; clear hE) | refine RGs.skp (fun _ => rfl) rfl ?_ | (refine RGs.bq (fun _ => rfl) rfl (by intro vs w hE hP; have H := H.ext hE; first | exact dbQ | fail) (fun hc => ?_) (fun hc => ?_) <;> ((try simp only [cmpP, decide_eq_true_eq, decide_eq_false_iff_not, dcd_iff, dcd_no] at hc); try exact prDQ)) | refine RGs.pq (fun _ => rfl) rfl (by intro vs w hE hP; have H := H.ext hE; first | exact dvQ | fail) ?_)
      refine fn_ret2 (v2 := .int _ _) rfl (rv_cellA rfl rfl H.bI lQ) rfl ⟨no5 fun u hr hu => ?_, H.fr⟩
      rw [tk8_num hu hlt] at herr; exact herr rfl
  · obtain rfl : k = 7 := by omega
    have hK := bytesE_len (tk8 b 7).e (tk8 b 7).xs
    repeat' (first | ((first | refine WL.p rfl ?_ | refine WL.u ?_ | refine WL.g rfl rfl ?_ | refine WL.gu rfl ?_); first | (refine opk 1 rfl ?_; (refine ost_Sk H rfl (r3_Bytes _ _ H.sat _ _ _ _ hr3 (by omega)) rfl ?_; clear H; rintro vk wk hfk Lk ⟨a4, c4, a6, c6, rfl, rfl, rfl, hr4, hr6⟩ hle H; simp only [List.cons_append, List.nil_append] at H)) | refine pvQ ?_ | (refine opk 3 rfl ?_; first | (refine ost_cmp rfl rfl rfl rfl (fun hc => ?_) (fun hc => ?_) <;> (simp only [cmpP] at hc; try exact prIQ)) | (refine ost_streqB rfl rfl rfl (fun hc => ?_) (fun hc => ?_) <;> try exact prEQ) | (refine ost_strneB rfl rfl rfl (fun hc => ?_) (fun hc => ?_) <;> try exact prEQ) | (refine ost_streq rfl rfl rfl (fun hc => ?_) (fun hc => ?_) <;> try exact absurd rfl hc) | (refine ost_strne rfl rfl rfl (fun hc => ?_) (fun hc => ?_))) | (refine opk 4 rfl ?_; (refine ost_cmp rfl rfl rfl rfl (fun hc => ?_) (fun hc => ?_) <;> (simp only [cmpP] at hc; try exact prIQ))) | (refine opk 8 rfl ?_; (refine ost_storeW H rfl rfl rfl rfl lQ ixQ lQ okQ ?_; clear H; intro wk H; simp only [List.set_cons_zero, List.set_cons_succ, Nat.reduceAdd] at H)) | (refine opk 9 rfl ?_; first | (refine ost_allocA H rfl ?_; clear H; intro bk wk H) | (refine ost_build1 H rfl rfl rfl evQ lsQ rfl ?_; clear H; intro bk wk H))) | refine Wc.seq ?_ | refine then_n ?_ | refine WL.nil ?_ | refine Wc.region ?_ | refine Wc.block ?_ | refine then_r ?_ | refine then_e ?_ | refine inb_e rfl ?_ | refine inb_o rfl ?_ | refine inb_n ?_ | refine inb_r ?_ | refine Wc.skip ?_ | refine Wc.exit ?_ | refine Wc.ret ?_ | refine Wc.cond_true rfl ?_ | refine Wc.cond_false rfl ?_ | (refine Wc.drawn (id := 17) 23 (by kernel_rfl) ?_) | (refine Wc.drawn (id := 18) 8 (by kernel_rfl) ?_) | (refine Wc.drawn (id := 19) 9 (by kernel_rfl) ?_) | refine WL.skp rfl rfl ?_ | refine WL.sku rfl ?_ | (refine rgs_nil ?_; intro vs wk hE; replace H := H.ext hE; clear hE) | refine RGs.skp (fun _ => rfl) rfl ?_ | (refine RGs.bq (fun _ => rfl) rfl (by intro vs w hE hP; have H := H.ext hE; first | exact dbQ | fail) (fun hc => ?_) (fun hc => ?_) <;> ((try simp only [cmpP, decide_eq_true_eq, decide_eq_false_iff_not, dcd_iff, dcd_no] at hc); try exact prDQ)) | refine RGs.pq (fun _ => rfl) rfl (by intro vs w hE hP; have H := H.ext hE; first | exact dvQ | fail) ?_)
    · refine fn_ret2 (v2 := .int _ _) rfl (rv_cellA rfl rfl H.bI lQ) rfl ⟨no5 fun u hr hu => ?_, H.fr⟩
      rw [tk8_end hu] at hc
      have := bytesE_fieldB (encV u.ctx) [] (by have := encV_len u.ctx; omega)
      rw [List.append_nil] at this
      rw [this] at hc; exact hc rfl
    · have h9 : (bytesE (tk8 b 7).e (tk8 b 7).xs).2.1 = 0 := Classical.not_not.1 ‹_›
      have hI : (tk8 b 7).xs = fieldB (bytesE (tk8 b 7).e (tk8 b 7).xs).1 ++ (bytesE (tk8 b 7).e (tk8 b 7).xs).2.2.2 := by
        have := bytesE_inv (xs := (tk8 b 7).xs)
        rw [he] at h9 ⊢; exact this h9
      have hY : ∀ u, rightO u 16 = true → encO u = b → (bytesE (tk8 b 7).e (tk8 b 7).xs).1 = encV u.ctx ∧ (bytesE (tk8 b 7).e (tk8 b 7).xs).2.2.2 = [] := fun u hr hu => by
        rw [tk8_end hu]
        have := bytesE_fieldB (encV u.ctx) [] (by have := encV_len u.ctx; omega)
        rw [List.append_nil] at this
        rw [this]; exact ⟨rfl, rfl⟩
      have hE : ∀ u, rightO u 16 = true → encO u = b → decV (bytesE (tk8 b 7).e (tk8 b 7).xs).1 = (u.ctx, 0) := fun u hr hu => by rw [(hY u hr hu).1]; exact decV_enc _
      have hD := decV_spec (bytesE (tk8 b 7).e (tk8 b 7).xs).1
      have hv := r4_Decode hfk a6 c6 (bytesE (tk8 b 7).e (tk8 b 7).xs).1
      generalize hDD : decV (bytesE (tk8 b 7).e (tk8 b 7).xs).1 = D
      rw [hDD] at hD hv
      simp only [hDD] at hE
      have hrow : (rowsN b 7).flatten = (List.range 7).map fun i => Value.int .u64 (tkN (tk8 b i)) := rfl
      obtain ⟨g, cur, e5, -, -, ht, H⟩ := H.ownBlk (i := 1) rfl (by omega)
      cases e5
      rw [hrow, hrl] at ht
      have gk : ∀ i : Nat, i < 7 → cur[i]? = some (.int .u64 (tkN (tk8 b i))) := fun i hi => by
        have h1 : (cur.take (7 * 1))[i]? = ((List.range 7).map fun i => Value.int .u64 (tkN (tk8 b i)))[i]? := by rw [ht]
        rw [List.getElem?_take_of_lt (by omega)] at h1
        rw [h1]; simp [hi]
      have g0 : cur[0 + (0 : Int).toNat * 1]? = some (.int .u64 (tkN (tk8 b 0))) := gk 0 (by omega)
      have g1 : cur[0 + (1 : Int).toNat * 1]? = some (.int .u64 (tkN (tk8 b 1))) := gk 1 (by omega)
      have g2 : cur[0 + (2 : Int).toNat * 1]? = some (.int .u64 (tkN (tk8 b 2))) := gk 2 (by omega)
      have g3 : cur[0 + (3 : Int).toNat * 1]? = some (.int .u64 (tkN (tk8 b 3))) := gk 3 (by omega)
      have g4 : cur[0 + (4 : Int).toNat * 1]? = some (.int .u64 (tkN (tk8 b 4))) := gk 4 (by omega)
      have g5 : cur[0 + (5 : Int).toNat * 1]? = some (.int .u64 (tkN (tk8 b 5))) := gk 5 (by omega)
      have g6 : cur[0 + (6 : Int).toNat * 1]? = some (.int .u64 (tkN (tk8 b 6))) := gk 6 (by omega)
      simp only [List.set_cons_zero, List.set_cons_succ] at H
      have lD := cV_len D.1
      repeat' (first | ((first | refine WL.p rfl ?_ | refine WL.u ?_ | refine WL.g rfl rfl ?_ | refine WL.gu rfl ?_); first | (refine opk 1 rfl ?_; (refine ost_V H rfl (hv _ H.sat hr6 (by omega)) rfl ?_; clear H; intro wk H)) | refine pvQ ?_ | (refine opk 3 rfl ?_; first | (refine ost_cmp rfl rfl rfl rfl (fun hc => ?_) (fun hc => ?_) <;> (simp only [cmpP] at hc; try exact prIQ)) | (refine ost_streqB rfl rfl rfl (fun hc => ?_) (fun hc => ?_) <;> try exact prEQ) | (refine ost_strneB rfl rfl rfl (fun hc => ?_) (fun hc => ?_) <;> try exact prEQ) | (refine ost_streq rfl rfl rfl (fun hc => ?_) (fun hc => ?_) <;> try exact absurd rfl hc) | (refine ost_strne rfl rfl rfl (fun hc => ?_) (fun hc => ?_))) | (refine opk 4 rfl ?_; (refine ost_cmp rfl rfl rfl rfl (fun hc => ?_) (fun hc => ?_) <;> (simp only [cmpP] at hc; try exact prIQ))) | (refine opk 8 rfl ?_; (refine ost_storeW H rfl rfl rfl rfl lQ ixQ lQ okQ ?_; clear H; intro wk H; simp only [List.set_cons_zero, List.set_cons_succ, Nat.reduceAdd] at H)) | (refine opk 9 rfl ?_; first | (refine ost_allocA H rfl ?_; clear H; intro bk wk H) | (refine ost_build1 H rfl rfl rfl evQ lsQ rfl ?_; clear H; intro bk wk H))) | refine Wc.seq ?_ | refine then_n ?_ | refine WL.nil ?_ | refine Wc.region ?_ | refine Wc.block ?_ | refine then_r ?_ | refine then_e ?_ | refine inb_e rfl ?_ | refine inb_o rfl ?_ | refine inb_n ?_ | refine inb_r ?_ | refine Wc.skip ?_ | refine Wc.exit ?_ | refine Wc.ret ?_ | refine Wc.cond_true rfl ?_ | refine Wc.cond_false rfl ?_ | (refine Wc.drawn (id := 18) 8 (by kernel_rfl) ?_) | (refine Wc.drawn (id := 19) 9 (by kernel_rfl) ?_) | refine WL.skp rfl rfl ?_ | refine WL.sku rfl ?_ | (refine rgs_nil ?_; intro vs wk hE; replace H := H.ext hE; clear hE) | refine RGs.skp (fun _ => rfl) rfl ?_ | (refine RGs.bq (fun _ => rfl) rfl (by intro vs w hE hP; have H := H.ext hE; first | exact dbQ | fail) (fun hc => ?_) (fun hc => ?_) <;> ((try simp only [cmpP, decide_eq_true_eq, decide_eq_false_iff_not, dcd_iff, dcd_no] at hc); try exact prDQ)) | refine RGs.pq (fun _ => rfl) rfl (by intro vs w hE hP; have H := H.ext hE; first | (refine opk 9 rfl ?_; (refine ost_buildS rfl (evP_cons (rfl : _ = Value.int .u8 _) (evP_cons (rfl : _ = Value.int .u16 _) (evP_cons (rfl : _ = Value.int .u16 _) (evP_cons (rfl : _ = Value.int .u16 _) (evP_cons (rfl : _ = Value.int .u32 _) (evP_cons (rfl : _ = Value.agg _) evP_nil)))))) (fill_ok _ _ _ _ _ D.1) (fill_op _ _ _ _ _ D.1) ?_; exact ⟨Fr.refl _ _, rfl⟩)) | exact dvQ | fail) ?_ | (refine Wc.drawM (id := 17) 23 [(22, [], fun v L' => ∃ b, v = pt b ∧ L' = [.blk b (.cells (cOp zeroO).toArray 67 (0, 0))])] [.blk _ _, .blk _ _, .blk _ _, .blk _ _, .blk _ _] [22] H (by kernel_rfl) rfl (by kernel_rfl) (by simp only [inpL, List.nil_append, List.cons_append, List.append_nil]; first | exact List.Perm.refl _ | exact List.Perm.swap _ _ _ | exact (List.Perm.swap _ _ _).trans ((List.Perm.swap _ _ _).cons _) | exact ((List.Perm.swap _ _ _).cons _) | exact ((List.Perm.swap _ _ _).cons _).trans (List.Perm.swap _ _ _)) ?_) | (refine rgm_nil ?_; intro vs wk outs HM hR; obtain ⟨v22, ⟨b22, e22, o22⟩, h22⟩ := hR 22 _ rfl; have hv22 : vs (0 + 1 + 1 + 1 + 1 + 1 + 1 + 1 + 1 + 1 + 1 + 1 + 1 + 1 + 1 + 1 + 1 + 1 + 1 + 1 + 1 + 1 + 1) = _ := (h22 (by kernel_rfl)).trans e22; simp only [outsL, o22, List.cons_append, List.nil_append, List.append_nil] at HM; (try dsimp only); rw [hv22]; replace H := HM; clear HM hR) | refine RGm.skp (fun _ => rfl) rfl ?_ | (refine RGm.bq (fun _ => rfl) rfl (by intro vs w TT hP H; simp only [List.cons_append, List.nil_append] at H; first | exact dbQ | fail) (fun hc => ?_) (fun hc => ?_) <;> ((try simp only [cmpP, decide_eq_true_eq, decide_eq_false_iff_not, dcd_iff, dcd_no] at hc); try exact prDQ)) | refine RGm.pq (fun _ => rfl) rfl (by intro vs w TT hP H; simp only [List.cons_append, List.nil_append] at H; first | (refine opk 9 rfl ?_; (refine ost_buildS rfl (evP_cons (rfl : _ = Value.int .u8 _) (evP_cons (rfl : _ = Value.int .u16 _) (evP_cons (rfl : _ = Value.int .u16 _) (evP_cons (rfl : _ = Value.int .u16 _) (evP_cons (rfl : _ = Value.int .u32 _) (evP_cons (rfl : _ = Value.agg _) evP_nil)))))) (fill_ok _ _ _ _ _ D.1) (fill_op _ _ _ _ _ D.1) ?_; exact ⟨Fr.refl _ _, rfl⟩)) | exact dvQ | fail) ?_ | refine RGm.mq (fun _ => rfl) rfl (by intro vs w TT hP H; simp only [List.cons_append, List.nil_append] at H; first | (refine ost_allocA H rfl ?_; intro bk wk H2; exact ⟨[_], ⟨_, rfl, rfl⟩, H2⟩) | fail) ?_ | refine RGm.mu rfl (by intro vs w TT hP H; simp only [List.cons_append, List.nil_append] at H; first | (refine ost_allocA H rfl ?_; intro bk wk H2; exact ⟨[_], ⟨_, rfl, rfl⟩, H2⟩) | fail) ?_)
      · refine fn_ret2 (v2 := .int _ _) rfl (rv_cellA rfl rfl H.bI lQ) rfl ⟨no5 fun u hr hu => ?_, H.fr⟩
        have := hE u hr hu
        rw [this] at hc; exact hc rfl
      · refine WL.u ?_
        refine ost_storeA (i := 5) (vs := [.int .u8 (IntKind.u8.wrap (tkN (tk8 b 0))), .int .u32 (IntKind.u32.wrap (tkN (tk8 b 1)))]) (l := [.int .u8 0, .int .u32 0, .int .u8 (IntKind.u8.wrap (tkN (tk8 b 2))), .int .u16 (IntKind.u16.wrap (tkN (tk8 b 3))), .int .u16 (IntKind.u16.wrap (tkN (tk8 b 4))), .int .u16 (IntKind.u16.wrap (tkN (tk8 b 5))), .int .u32 (IntKind.u32.wrap (tkN (tk8 b 6)))] ++ cV D.1) H rfl rfl rfl (allOne_of rfl) rfl idx5 (by simp [cV_len]) ?_
        clear H; intro wk H
        simp only [List.set_cons_zero, List.set_cons_succ] at H
        replace H := St.cell6 (l2 := cOp (opN (fun i => tkN (tk8 b i)) D.1)) H (by rw [u8_wrap, u8_wrap, u16_wrap, u16_wrap, u16_wrap, u32_wrap2, u32_wrap2]; rfl)
        generalize hx : opN (fun i => tkN (tk8 b i)) D.1 = x at H
        have lx := cOp_len x
        have hU : ∀ u, rightO u 16 = true → encO u = b → x = u := fun u hr hu => by
          have h1 := opN_of u (f := fun i => tkN (tk8 b i)) (fun k hk => by show (numE (tk8 b k).e (tk8 b k).xs).1 = _; rw [tk8_num hu hk])
          rw [← hx, hE u hr hu]; exact h1
        cases hrx : rightO x 16 with
        | true =>
          repeat' (first | ((first | refine WL.p rfl ?_ | refine WL.u ?_ | refine WL.g rfl rfl ?_ | refine WL.gu rfl ?_); first | refine pvQ ?_ | (refine opk 3 rfl ?_; first | (refine ost_cmp rfl rfl rfl rfl (fun hc => ?_) (fun hc => ?_) <;> (simp only [cmpP] at hc; try exact prIQ)) | (refine ost_streqB rfl rfl rfl (fun hc => ?_) (fun hc => ?_) <;> try exact prEQ) | (refine ost_strneB rfl rfl rfl (fun hc => ?_) (fun hc => ?_) <;> try exact prEQ) | (refine ost_streq rfl rfl rfl (fun hc => ?_) (fun hc => ?_) <;> try exact absurd rfl hc) | (refine ost_strne rfl rfl rfl (fun hc => ?_) (fun hc => ?_))) | (refine opk 4 rfl ?_; (refine ost_cmp rfl rfl rfl rfl (fun hc => ?_) (fun hc => ?_) <;> (simp only [cmpP] at hc; try exact prIQ))) | (refine opk 8 rfl ?_; (refine ost_storeW H rfl rfl rfl rfl lQ ixQ lQ okQ ?_; clear H; intro wk H; simp only [List.set_cons_zero, List.set_cons_succ, Nat.reduceAdd] at H)) | (refine opk 9 rfl ?_; first | (refine ost_allocA H rfl ?_; clear H; intro bk wk H) | (refine ost_build1 H rfl rfl rfl evQ lsQ rfl ?_; clear H; intro bk wk H))) | refine Wc.seq ?_ | refine then_n ?_ | refine WL.nil ?_ | refine Wc.region ?_ | refine Wc.block ?_ | refine then_r ?_ | refine then_e ?_ | refine inb_e rfl ?_ | refine inb_o rfl ?_ | refine inb_n ?_ | refine inb_r ?_ | refine Wc.skip ?_ | refine Wc.exit ?_ | refine Wc.ret ?_ | refine Wc.cond_true rfl ?_ | refine Wc.cond_false rfl ?_ | (refine Wc.drawn (id := 17) 23 (by kernel_rfl) ?_) | (refine Wc.drawn (id := 18) 8 (by kernel_rfl) ?_) | (refine Wc.drawnB (id := 19) 9 [(5, encO x)] (by kernel_rfl) ?_) | refine WL.skp rfl rfl ?_ | refine WL.sku rfl ?_ | (refine rgs_nil ?_; intro vs wk hE; replace H := H.ext hE; clear hE) | refine RGs.skp (fun _ => rfl) rfl ?_ | (refine RGs.bq (fun _ => rfl) rfl (by intro vs w hE hP; have H := H.ext hE; first | (refine opk 1 rfl ?_; (exact ost_V0d rfl (r6_Right _ _ _) rfl)) | exact dbQ | fail) (fun hc => ?_) (fun hc => ?_) <;> ((try simp only [cmpP, decide_eq_true_eq, decide_eq_false_iff_not, dcd_iff, dcd_no] at hc); try exact prDQ)) | refine RGs.pq (fun _ => rfl) rfl (by intro vs w hE hP; have H := H.ext hE; first | (refine opk 6 rfl ?_; (refine ost_toStrN (xs := b) rfl rfl (by first | rfl | (simp; omega)) (hr.full H) ?_; exact ⟨Fr.refl _ _, rfl⟩)) | (refine ost_toStrV rfl (pf_B hP 5 (by kernel_rfl) rfl rfl) ?_; exact ⟨Fr.refl _ _, rfl⟩) | exact dvQ | fail) ?_ | refine RGs.sq (fun _ => rfl) rfl (by intro vs w hE hP; have H := H.ext hE; first | (refine ost_B rfl (r6_bytes _ x _ (sat_full _)) rfl (fun _ _ _ ⟨_, _, _, _, e⟩ => e) ?_; intro vk wk hX hB; exact ⟨hX, hB⟩) | fail) ?_)
          · refine fn_ret2 (v2 := .int _ _) rfl (rv_cellA rfl rfl H.bI lQ) rfl ⟨no5 fun u hr hu => ?_, H.fr⟩
            have h1 := hU u hr hu
            subst h1
            exact absurd hu ‹_›
          · have hc9 : encO x = b := ‹_›
            exact fn_ret2 (v2 := .int _ _) rfl (rv_cellA rfl rfl H.bI lQ) rfl ⟨decO_fin (.inl ⟨rfl, hrx, hc9⟩) rfl, H.fr⟩
        | false =>
          repeat' (first | ((first | refine WL.p rfl ?_ | refine WL.u ?_ | refine WL.g rfl rfl ?_ | refine WL.gu rfl ?_); first | refine pvQ ?_ | (refine opk 3 rfl ?_; first | (refine ost_cmp rfl rfl rfl rfl (fun hc => ?_) (fun hc => ?_) <;> (simp only [cmpP] at hc; try exact prIQ)) | (refine ost_streqB rfl rfl rfl (fun hc => ?_) (fun hc => ?_) <;> try exact prEQ) | (refine ost_strneB rfl rfl rfl (fun hc => ?_) (fun hc => ?_) <;> try exact prEQ) | (refine ost_streq rfl rfl rfl (fun hc => ?_) (fun hc => ?_) <;> try exact absurd rfl hc) | (refine ost_strne rfl rfl rfl (fun hc => ?_) (fun hc => ?_))) | (refine opk 4 rfl ?_; (refine ost_cmp rfl rfl rfl rfl (fun hc => ?_) (fun hc => ?_) <;> (simp only [cmpP] at hc; try exact prIQ))) | (refine opk 8 rfl ?_; (refine ost_storeW H rfl rfl rfl rfl lQ ixQ lQ okQ ?_; clear H; intro wk H; simp only [List.set_cons_zero, List.set_cons_succ, Nat.reduceAdd] at H)) | (refine opk 9 rfl ?_; first | (refine ost_allocA H rfl ?_; clear H; intro bk wk H) | (refine ost_build1 H rfl rfl rfl evQ lsQ rfl ?_; clear H; intro bk wk H))) | refine Wc.seq ?_ | refine then_n ?_ | refine WL.nil ?_ | refine Wc.region ?_ | refine Wc.block ?_ | refine then_r ?_ | refine then_e ?_ | refine inb_e rfl ?_ | refine inb_o rfl ?_ | refine inb_n ?_ | refine inb_r ?_ | refine Wc.skip ?_ | refine Wc.exit ?_ | refine Wc.ret ?_ | refine Wc.cond_true rfl ?_ | refine Wc.cond_false rfl ?_ | (refine Wc.drawn (id := 17) 23 (by kernel_rfl) ?_) | (refine Wc.drawn (id := 18) 8 (by kernel_rfl) ?_) | (refine Wc.drawn (id := 19) 9 (by kernel_rfl) ?_) | refine WL.skp rfl rfl ?_ | refine WL.sku rfl ?_ | (refine rgs_nil ?_; intro vs wk hE; replace H := H.ext hE; clear hE) | refine RGs.skp (fun _ => rfl) rfl ?_ | (refine RGs.bq (fun _ => rfl) rfl (by intro vs w hE hP; have H := H.ext hE; first | (refine opk 1 rfl ?_; (exact ost_V0d rfl (r6_Right _ _ _) rfl)) | exact dbQ | fail) (fun hc => ?_) (fun hc => ?_) <;> ((try simp only [cmpP, decide_eq_true_eq, decide_eq_false_iff_not, dcd_iff, dcd_no] at hc); try exact prDQ)) | refine RGs.pq (fun _ => rfl) rfl (by intro vs w hE hP; have H := H.ext hE; first | (refine opk 6 rfl ?_; (refine ost_toStrN (xs := b) rfl rfl (by first | rfl | (simp; omega)) (hr.full H) ?_; exact ⟨Fr.refl _ _, rfl⟩)) | exact dvQ | fail) ?_)
          refine fn_ret2 (v2 := .int _ _) rfl (rv_cellA rfl rfl H.bI lQ) rfl ⟨no5 fun u hr hu => ?_, H.fr⟩
          have h1 := hU u hr hu
          rw [h1, hr] at hrx; cases hrx
end Go.Tg

