/- Contracts of Go functions that the laws reach: what each call answers and leaves in memory, for all arguments within the bounds that each theorem names. -/
import Derived.Test.YtbfilhaigbebpaaDoorInst
import Derived.Test.YtbfilhaigbebpaaDoorAuto
import Derived.Test.YtbfilhaigbebpaaDoorRE
import Derived.Test.YtbfilhaigbebpaaDoorR1
import Derived.Test.YtbfilhaigbebpaaDoorQK
import Derived.Test.YtbfilhaigbebpaaDoorQ8
set_option linter.unusedVariables false
set_option linter.unusedSimpArgs false
set_option maxRecDepth 100000
set_option maxHeartbeats 4000000
namespace Go.Tg
open Go Go.Proofs
def PickS (a b : List UInt8) (r : SlotT) (e : Int) : Prop :=
  (∃ x, encS x = a ∧ (∀ y, encS y = b → y.ver.toNat ≤ x.ver.toNat) ∧ r = x ∧ e = 0) ∨
  (∃ y, encS y = b ∧ (∀ x, encS x = a → x.ver.toNat < y.ver.toNat) ∧ r = y ∧ e = 0) ∨
  ((∀ s, encS s ≠ a) ∧ (∀ s, encS s ≠ b) ∧ r = zeroS ∧ e = 7)
theorem PickS.unique {a b : List UInt8} {r r' : SlotT} {e e' : Int} (h : PickS a b r e) (k : PickS a b r' e') : r = r' ∧ e = e' := by
  rcases h with ⟨x, h1, h2, rfl, rfl⟩ | ⟨y, h1, h2, rfl, rfl⟩ | ⟨h1, h2, rfl, rfl⟩ <;> rcases k with ⟨x', k1, k2, rfl, rfl⟩ | ⟨y', k1, k2, rfl, rfl⟩ | ⟨k1, k2, rfl, rfl⟩
  · exact ⟨encS_inj (h1.trans k1.symm), rfl⟩
  · exact absurd (k2 _ h1) (Nat.not_lt.2 (h2 _ k1))
  · exact absurd h1 (k1 _)
  · exact absurd (h2 _ k1) (Nat.not_lt.2 (k2 _ h1))
  · exact ⟨encS_inj (h1.trans k1.symm), rfl⟩
  · exact absurd h1 (k2 _)
  · exact absurd k1 (h1 _)
  · exact absurd k1 (h2 _)
  · exact ⟨rfl, rfl⟩
theorem pickS_1 {a b : List UInt8} {x y : SlotT} {q : Bool} (hx : DecS a x true) (hy : DecS b y q) (h : q = true → y.ver.toNat ≤ x.ver.toNat) : PickS a b x 0 := by
  rcases hx with ⟨-, hx⟩ | ⟨hx, -⟩
  · refine .inl ⟨x, hx, fun z hz => ?_, rfl, rfl⟩
    rcases hy with ⟨h1, h2⟩ | ⟨h1, h2⟩
    · rw [encS_inj (hz.trans h2.symm)]; exact h h1
    · exact absurd hz (h2 _)
  · cases hx
theorem pickS_2 {a b : List UInt8} {x y : SlotT} {p : Bool} (hx : DecS a x p) (hy : DecS b y true) (h : p = true → x.ver.toNat < y.ver.toNat) : PickS a b y 0 := by
  rcases hy with ⟨-, hy⟩ | ⟨hy, -⟩
  · refine .inr (.inl ⟨y, hy, fun z hz => ?_, rfl, rfl⟩)
    rcases hx with ⟨h1, h2⟩ | ⟨h1, h2⟩
    · rw [encS_inj (hz.trans h2.symm)]; exact h h1
    · exact absurd hz (h2 _)
  · cases hy
theorem pickS_3 {a b : List UInt8} {x y : SlotT} (hx : DecS a x false) (hy : DecS b y false) : PickS a b zeroS 7 := by
  rcases hx with ⟨hx, -⟩ | ⟨-, hx⟩
  · cases hx
  rcases hy with ⟨hy, -⟩ | ⟨-, hy⟩
  · cases hy
  exact .inr (.inr ⟨hx, hy, rfl, rfl⟩)
theorem ro_Pick (h0 : FH) (a1 a2 : Option Addr) (c1 c2 : Nat) (a b : List UInt8) (w : World) (hs : Sat h0 w) (hT : Half h0) (hr1 : BS h0 a1 c1 a) (hr2 : BS h0 a2 c2 b) (ha : a.length ≤ 1000000) (hb : b.length ≤ 1000000) :
    Spec Tryd.prog 16 #[.slice a1 a.length c1, .slice a2 b.length c2] w [] h0 (fun v h' L' => h' = h0 ∧ L' = [] ∧ ∃ r e, v = .tuple #[.agg (cSlot r).toArray, .int .i64 e] ∧ PickS a b r e) := by
  have H := St.start hs
  have lz : cSlot zeroS = [Value.int .u64 0, .int .u32 0, .int .u32 0, .int .u32 0] := rfl
  have hd1 := fun w hs => ro_decode h0 a1 c1 a w hs hT hr1 ha
  have hd2 := fun w hs => ro_decode h0 a2 c2 b w hs hT hr2 hb
  unfold Spec
  refine calls_of Tryd.func16 rfl Tryd.ntmps16 (by simp) ?_
  repeat' (first | ((first | refine WL.p rfl ?_ | refine WL.u ?_ | refine WL.g rfl rfl ?_ | refine WL.gu rfl ?_); first | (refine opk 1 rfl ?_; first | (refine ost_Sk H rfl (hd1 _ H.sat) rfl ?_; clear H; rintro vk wk hfk Lk ⟨rfl, rfl, x, p, rfl, hx⟩ hle H; simp only [List.cons_append, List.nil_append] at H) | (refine ost_Sk H rfl (hd2 _ H.sat) rfl ?_; clear H; rintro vk wk hfk Lk ⟨rfl, rfl, y, q, rfl, hy⟩ hle H; simp only [List.cons_append, List.nil_append] at H)) | refine pvQ ?_ | (refine opk 3 rfl ?_; (refine ost_cmp rfl rfl rfl rfl (fun hc => ?_) (fun hc => ?_) <;> (simp only [cmpP] at hc; try exact prIQ))) | (refine opk 4 rfl ?_; (refine ost_cmp rfl rfl rfl rfl (fun hc => ?_) (fun hc => ?_) <;> (simp only [cmpP] at hc; try exact prIQ))) | (refine opk 8 rfl ?_; (refine ost_storeW H rfl rfl rfl rfl lQ ixQ lQ okQ ?_; clear H; intro wk H; simp only [List.set_cons_zero, List.set_cons_succ, Nat.reduceAdd] at H)) | (refine opk 9 rfl ?_; (refine ost_allocA H rfl ?_; clear H; intro bk wk H))) | refine Wc.seq ?_ | refine then_n ?_ | refine WL.nil ?_ | refine Wc.region ?_ | refine Wc.block ?_ | refine then_r ?_ | refine then_e ?_ | refine inb_e rfl ?_ | refine inb_o rfl ?_ | refine inb_n ?_ | refine inb_r ?_ | refine Wc.skip ?_ | refine Wc.exit ?_ | refine Wc.ret ?_ | refine Wc.cond_true rfl ?_ | refine Wc.cond_false rfl ?_ | refine WL.skp rfl rfl ?_ | refine WL.sku rfl ?_)
  cases p <;> cases q
  · repeat' (first | ((first | refine WL.p rfl ?_ | refine WL.u ?_ | refine WL.g rfl rfl ?_ | refine WL.gu rfl ?_); first | (refine opk 9 rfl ?_; (refine ost_buildS rfl evP_nil rfl (rfl : _ = [_, _, _, _]) ?_)) | refine pvQ ?_ | (refine opk 3 rfl ?_; (refine ost_cmp rfl rfl rfl rfl (fun hc => ?_) (fun hc => ?_) <;> (simp only [cmpP] at hc; try exact prIQ))) | (refine opk 4 rfl ?_; (refine ost_cmp rfl rfl rfl rfl (fun hc => ?_) (fun hc => ?_) <;> (simp only [cmpP] at hc; try exact prIQ))) | (refine opk 8 rfl ?_; (refine ost_storeW H rfl rfl rfl rfl lQ ixQ lQ okQ ?_; clear H; intro wk H; simp only [List.set_cons_zero, List.set_cons_succ, Nat.reduceAdd] at H)) | (refine opk 9 rfl ?_; (refine ost_allocA H rfl ?_; clear H; intro bk wk H))) | refine Wc.seq ?_ | refine then_n ?_ | refine WL.nil ?_ | refine Wc.region ?_ | refine Wc.block ?_ | refine then_r ?_ | refine then_e ?_ | refine inb_e rfl ?_ | refine inb_o rfl ?_ | refine inb_n ?_ | refine inb_r ?_ | refine Wc.skip ?_ | refine Wc.exit ?_ | refine Wc.ret ?_ | refine Wc.cond_true rfl ?_ | refine Wc.cond_false rfl ?_ | refine WL.skp rfl rfl ?_ | refine WL.sku rfl ?_)
    exact fn_ret2 (v2 := .int _ _) rfl (rv_cellA rfl rfl H.bI lQ) rfl ⟨_, _, H.picks [] rfl (by decide), rfl, rfl, _, _, rfl, pickS_3 hx hy⟩
  · repeat' (first | ((first | refine WL.p rfl ?_ | refine WL.u ?_ | refine WL.g rfl rfl ?_ | refine WL.gu rfl ?_); first | (refine opk 8 rfl ?_; (refine ost_storeW (i := 2) (vs := cSlot y) H rfl rfl rfl rfl rfl rfl rfl (allOne_of rfl) ?_; clear H; intro wk H; simp only [List.set_cons_zero, List.set_cons_succ] at H)) | refine pvQ ?_ | (refine opk 3 rfl ?_; (refine ost_cmp rfl rfl rfl rfl (fun hc => ?_) (fun hc => ?_) <;> (simp only [cmpP] at hc; try exact prIQ))) | (refine opk 4 rfl ?_; (refine ost_cmp rfl rfl rfl rfl (fun hc => ?_) (fun hc => ?_) <;> (simp only [cmpP] at hc; try exact prIQ))) | (refine opk 8 rfl ?_; (refine ost_storeW H rfl rfl rfl rfl lQ ixQ lQ okQ ?_; clear H; intro wk H; simp only [List.set_cons_zero, List.set_cons_succ, Nat.reduceAdd] at H)) | (refine opk 9 rfl ?_; (refine ost_allocA H rfl ?_; clear H; intro bk wk H))) | refine Wc.seq ?_ | refine then_n ?_ | refine WL.nil ?_ | refine Wc.region ?_ | refine Wc.block ?_ | refine then_r ?_ | refine then_e ?_ | refine inb_e rfl ?_ | refine inb_o rfl ?_ | refine inb_n ?_ | refine inb_r ?_ | refine Wc.skip ?_ | refine Wc.exit ?_ | refine Wc.ret ?_ | refine Wc.cond_true rfl ?_ | refine Wc.cond_false rfl ?_ | refine WL.skp rfl rfl ?_ | refine WL.sku rfl ?_)
    exact fn_ret2 (v2 := .int _ _) rfl (rv_cellA rfl rfl H.bI lQ) rfl ⟨_, _, H.picks [] rfl (by decide), rfl, rfl, _, _, rfl, pickS_2 hx hy (fun h => by cases h)⟩
  · repeat' (first | ((first | refine WL.p rfl ?_ | refine WL.u ?_ | refine WL.g rfl rfl ?_ | refine WL.gu rfl ?_); first | (refine opk 8 rfl ?_; (refine ost_storeW (i := 2) (vs := cSlot x) H rfl rfl rfl rfl rfl rfl rfl (allOne_of rfl) ?_; clear H; intro wk H; simp only [List.set_cons_zero, List.set_cons_succ] at H)) | refine pvQ ?_ | (refine opk 3 rfl ?_; (refine ost_cmp rfl rfl rfl rfl (fun hc => ?_) (fun hc => ?_) <;> (simp only [cmpP] at hc; try exact prIQ))) | (refine opk 4 rfl ?_; (refine ost_cmp rfl rfl rfl rfl (fun hc => ?_) (fun hc => ?_) <;> (simp only [cmpP] at hc; try exact prIQ))) | (refine opk 8 rfl ?_; (refine ost_storeW H rfl rfl rfl rfl lQ ixQ lQ okQ ?_; clear H; intro wk H; simp only [List.set_cons_zero, List.set_cons_succ, Nat.reduceAdd] at H)) | (refine opk 9 rfl ?_; (refine ost_allocA H rfl ?_; clear H; intro bk wk H))) | refine Wc.seq ?_ | refine then_n ?_ | refine WL.nil ?_ | refine Wc.region ?_ | refine Wc.block ?_ | refine then_r ?_ | refine then_e ?_ | refine inb_e rfl ?_ | refine inb_o rfl ?_ | refine inb_n ?_ | refine inb_r ?_ | refine Wc.skip ?_ | refine Wc.exit ?_ | refine Wc.ret ?_ | refine Wc.cond_true rfl ?_ | refine Wc.cond_false rfl ?_ | refine WL.skp rfl rfl ?_ | refine WL.sku rfl ?_)
    exact fn_ret2 (v2 := .int _ _) rfl (rv_cellA rfl rfl H.bI lQ) rfl ⟨_, _, H.picks [] rfl (by decide), rfl, rfl, _, _, rfl, pickS_1 hx hy (fun h => by cases h)⟩
  · by_cases hv : y.ver.toNat ≤ x.ver.toNat
    · repeat' (first | ((first | refine WL.p rfl ?_ | refine WL.u ?_ | refine WL.g rfl rfl ?_ | refine WL.gu rfl ?_); first | (refine opk 8 rfl ?_; (refine ost_storeW (i := 2) (vs := cSlot x) H rfl rfl rfl rfl rfl rfl rfl (allOne_of rfl) ?_; clear H; intro wk H; simp only [List.set_cons_zero, List.set_cons_succ] at H)) | refine pvQ ?_ | (refine opk 3 rfl ?_; (refine ost_cmp rfl rfl rfl rfl (fun hc => ?_) (fun hc => ?_) <;> (simp only [cmpP] at hc; try exact prIQ))) | (refine opk 4 rfl ?_; (refine ost_cmp rfl rfl rfl rfl (fun hc => ?_) (fun hc => ?_) <;> (simp only [cmpP] at hc; try exact prIQ))) | (refine opk 8 rfl ?_; (refine ost_storeW H rfl rfl rfl rfl lQ ixQ lQ okQ ?_; clear H; intro wk H; simp only [List.set_cons_zero, List.set_cons_succ, Nat.reduceAdd] at H)) | (refine opk 9 rfl ?_; (refine ost_allocA H rfl ?_; clear H; intro bk wk H))) | refine Wc.seq ?_ | refine then_n ?_ | refine WL.nil ?_ | refine Wc.region ?_ | refine Wc.block ?_ | refine then_r ?_ | refine then_e ?_ | refine inb_e rfl ?_ | refine inb_o rfl ?_ | refine inb_n ?_ | refine inb_r ?_ | refine Wc.skip ?_ | refine Wc.exit ?_ | refine Wc.ret ?_ | refine Wc.cond_true rfl ?_ | refine Wc.cond_false rfl ?_ | refine WL.skp rfl rfl ?_ | refine WL.sku rfl ?_)
      all_goals first | (exfalso; omega) | exact fn_ret2 (v2 := .int _ _) rfl (rv_cellA rfl rfl H.bI lQ) rfl ⟨_, _, H.picks [] rfl (by decide), rfl, rfl, _, _, rfl, pickS_1 hx hy (fun _ => hv)⟩
    · repeat' (first | ((first | refine WL.p rfl ?_ | refine WL.u ?_ | refine WL.g rfl rfl ?_ | refine WL.gu rfl ?_); first | (refine opk 8 rfl ?_; (refine ost_storeW (i := 2) (vs := cSlot y) H rfl rfl rfl rfl rfl rfl rfl (allOne_of rfl) ?_; clear H; intro wk H; simp only [List.set_cons_zero, List.set_cons_succ] at H)) | refine pvQ ?_ | (refine opk 3 rfl ?_; (refine ost_cmp rfl rfl rfl rfl (fun hc => ?_) (fun hc => ?_) <;> (simp only [cmpP] at hc; try exact prIQ))) | (refine opk 4 rfl ?_; (refine ost_cmp rfl rfl rfl rfl (fun hc => ?_) (fun hc => ?_) <;> (simp only [cmpP] at hc; try exact prIQ))) | (refine opk 8 rfl ?_; (refine ost_storeW H rfl rfl rfl rfl lQ ixQ lQ okQ ?_; clear H; intro wk H; simp only [List.set_cons_zero, List.set_cons_succ, Nat.reduceAdd] at H)) | (refine opk 9 rfl ?_; (refine ost_allocA H rfl ?_; clear H; intro bk wk H))) | refine Wc.seq ?_ | refine then_n ?_ | refine WL.nil ?_ | refine Wc.region ?_ | refine Wc.block ?_ | refine then_r ?_ | refine then_e ?_ | refine inb_e rfl ?_ | refine inb_o rfl ?_ | refine inb_n ?_ | refine inb_r ?_ | refine Wc.skip ?_ | refine Wc.exit ?_ | refine Wc.ret ?_ | refine Wc.cond_true rfl ?_ | refine Wc.cond_false rfl ?_ | refine WL.skp rfl rfl ?_ | refine WL.sku rfl ?_)
      all_goals first | (exfalso; omega) | exact fn_ret2 (v2 := .int _ _) rfl (rv_cellA rfl rfl H.bI lQ) rfl ⟨_, _, H.picks [] rfl (by decide), rfl, rfl, _, _, rfl, pickS_2 hx hy (fun _ => by omega)⟩
theorem r15_Pick (h0 : FH) (a1 a2 : Option Addr) (c1 c2 : Nat) (a b : List UInt8) (w : World) (hs : Sat h0 w) (hr1 : BS h0 a1 c1 a) (hr2 : BS h0 a2 c2 b) (ha : a.length ≤ 1000000) (hb : b.length ≤ 1000000) :
    Spec Tryd.prog 17 #[.slice a1 a.length c1, .slice a2 b.length c2] w [] h0 (fun v h' L' => h' = h0 ∧ L' = [] ∧ ∃ r e, v = .tuple #[.agg (cSlot r).toArray, .int .i64 e] ∧ PickS a b r e) := by
  have H := St.start hs
  have lz : cSlot zeroS = [Value.int .u64 0, .int .u32 0, .int .u32 0, .int .u32 0] := rfl
  have hd1 := fun w hs => r15_decode h0 a1 c1 a w hs hr1 ha
  have hd2 := fun w hs => r15_decode h0 a2 c2 b w hs hr2 hb
  unfold Spec
  refine calls_of Tryd.func17 rfl Tryd.ntmps17 (by simp) ?_
  repeat' (first | ((first | refine WL.p rfl ?_ | refine WL.u ?_ | refine WL.g rfl rfl ?_ | refine WL.gu rfl ?_); first | (refine opk 1 rfl ?_; first | (refine ost_Sk H rfl (hd1 _ H.sat) rfl ?_; clear H; rintro vk wk hfk Lk ⟨rfl, rfl, x, p, rfl, hx⟩ hle H; simp only [List.cons_append, List.nil_append] at H) | (refine ost_Sk H rfl (hd2 _ H.sat) rfl ?_; clear H; rintro vk wk hfk Lk ⟨rfl, rfl, y, q, rfl, hy⟩ hle H; simp only [List.cons_append, List.nil_append] at H)) | refine pvQ ?_ | (refine opk 3 rfl ?_; (refine ost_cmp rfl rfl rfl rfl (fun hc => ?_) (fun hc => ?_) <;> (simp only [cmpP] at hc; try exact prIQ))) | (refine opk 4 rfl ?_; (refine ost_cmp rfl rfl rfl rfl (fun hc => ?_) (fun hc => ?_) <;> (simp only [cmpP] at hc; try exact prIQ))) | (refine opk 8 rfl ?_; (refine ost_storeW H rfl rfl rfl rfl lQ ixQ lQ okQ ?_; clear H; intro wk H; simp only [List.set_cons_zero, List.set_cons_succ, Nat.reduceAdd] at H)) | (refine opk 9 rfl ?_; (refine ost_allocA H rfl ?_; clear H; intro bk wk H))) | refine Wc.seq ?_ | refine then_n ?_ | refine WL.nil ?_ | refine Wc.region ?_ | refine Wc.block ?_ | refine then_r ?_ | refine then_e ?_ | refine inb_e rfl ?_ | refine inb_o rfl ?_ | refine inb_n ?_ | refine inb_r ?_ | refine Wc.skip ?_ | refine Wc.exit ?_ | refine Wc.ret ?_ | refine Wc.cond_true rfl ?_ | refine Wc.cond_false rfl ?_ | refine WL.skp rfl rfl ?_ | refine WL.sku rfl ?_)
  cases p <;> cases q
  · repeat' (first | ((first | refine WL.p rfl ?_ | refine WL.u ?_ | refine WL.g rfl rfl ?_ | refine WL.gu rfl ?_); first | (refine opk 9 rfl ?_; (refine ost_buildS rfl evP_nil rfl (rfl : _ = [_, _, _, _]) ?_)) | refine pvQ ?_ | (refine opk 3 rfl ?_; (refine ost_cmp rfl rfl rfl rfl (fun hc => ?_) (fun hc => ?_) <;> (simp only [cmpP] at hc; try exact prIQ))) | (refine opk 4 rfl ?_; (refine ost_cmp rfl rfl rfl rfl (fun hc => ?_) (fun hc => ?_) <;> (simp only [cmpP] at hc; try exact prIQ))) | (refine opk 8 rfl ?_; (refine ost_storeW H rfl rfl rfl rfl lQ ixQ lQ okQ ?_; clear H; intro wk H; simp only [List.set_cons_zero, List.set_cons_succ, Nat.reduceAdd] at H)) | (refine opk 9 rfl ?_; (refine ost_allocA H rfl ?_; clear H; intro bk wk H))) | refine Wc.seq ?_ | refine then_n ?_ | refine WL.nil ?_ | refine Wc.region ?_ | refine Wc.block ?_ | refine then_r ?_ | refine then_e ?_ | refine inb_e rfl ?_ | refine inb_o rfl ?_ | refine inb_n ?_ | refine inb_r ?_ | refine Wc.skip ?_ | refine Wc.exit ?_ | refine Wc.ret ?_ | refine Wc.cond_true rfl ?_ | refine Wc.cond_false rfl ?_ | refine WL.skp rfl rfl ?_ | refine WL.sku rfl ?_)
    exact fn_ret2 (v2 := .int _ _) rfl (rv_cellA rfl rfl H.bI lQ) rfl ⟨_, _, H.picks [] rfl (by decide), rfl, rfl, _, _, rfl, pickS_3 hx hy⟩
  · repeat' (first | ((first | refine WL.p rfl ?_ | refine WL.u ?_ | refine WL.g rfl rfl ?_ | refine WL.gu rfl ?_); first | (refine opk 8 rfl ?_; (refine ost_storeW (i := 2) (vs := cSlot y) H rfl rfl rfl rfl rfl rfl rfl (allOne_of rfl) ?_; clear H; intro wk H; simp only [List.set_cons_zero, List.set_cons_succ] at H)) | refine pvQ ?_ | (refine opk 3 rfl ?_; (refine ost_cmp rfl rfl rfl rfl (fun hc => ?_) (fun hc => ?_) <;> (simp only [cmpP] at hc; try exact prIQ))) | (refine opk 4 rfl ?_; (refine ost_cmp rfl rfl rfl rfl (fun hc => ?_) (fun hc => ?_) <;> (simp only [cmpP] at hc; try exact prIQ))) | (refine opk 8 rfl ?_; (refine ost_storeW H rfl rfl rfl rfl lQ ixQ lQ okQ ?_; clear H; intro wk H; simp only [List.set_cons_zero, List.set_cons_succ, Nat.reduceAdd] at H)) | (refine opk 9 rfl ?_; (refine ost_allocA H rfl ?_; clear H; intro bk wk H))) | refine Wc.seq ?_ | refine then_n ?_ | refine WL.nil ?_ | refine Wc.region ?_ | refine Wc.block ?_ | refine then_r ?_ | refine then_e ?_ | refine inb_e rfl ?_ | refine inb_o rfl ?_ | refine inb_n ?_ | refine inb_r ?_ | refine Wc.skip ?_ | refine Wc.exit ?_ | refine Wc.ret ?_ | refine Wc.cond_true rfl ?_ | refine Wc.cond_false rfl ?_ | refine WL.skp rfl rfl ?_ | refine WL.sku rfl ?_)
    exact fn_ret2 (v2 := .int _ _) rfl (rv_cellA rfl rfl H.bI lQ) rfl ⟨_, _, H.picks [] rfl (by decide), rfl, rfl, _, _, rfl, pickS_2 hx hy (fun h => by cases h)⟩
  · repeat' (first | ((first | refine WL.p rfl ?_ | refine WL.u ?_ | refine WL.g rfl rfl ?_ | refine WL.gu rfl ?_); first | (refine opk 8 rfl ?_; (refine ost_storeW (i := 2) (vs := cSlot x) H rfl rfl rfl rfl rfl rfl rfl (allOne_of rfl) ?_; clear H; intro wk H; simp only [List.set_cons_zero, List.set_cons_succ] at H)) | refine pvQ ?_ | (refine opk 3 rfl ?_; (refine ost_cmp rfl rfl rfl rfl (fun hc => ?_) (fun hc => ?_) <;> (simp only [cmpP] at hc; try exact prIQ))) | (refine opk 4 rfl ?_; (refine ost_cmp rfl rfl rfl rfl (fun hc => ?_) (fun hc => ?_) <;> (simp only [cmpP] at hc; try exact prIQ))) | (refine opk 8 rfl ?_; (refine ost_storeW H rfl rfl rfl rfl lQ ixQ lQ okQ ?_; clear H; intro wk H; simp only [List.set_cons_zero, List.set_cons_succ, Nat.reduceAdd] at H)) | (refine opk 9 rfl ?_; (refine ost_allocA H rfl ?_; clear H; intro bk wk H))) | refine Wc.seq ?_ | refine then_n ?_ | refine WL.nil ?_ | refine Wc.region ?_ | refine Wc.block ?_ | refine then_r ?_ | refine then_e ?_ | refine inb_e rfl ?_ | refine inb_o rfl ?_ | refine inb_n ?_ | refine inb_r ?_ | refine Wc.skip ?_ | refine Wc.exit ?_ | refine Wc.ret ?_ | refine Wc.cond_true rfl ?_ | refine Wc.cond_false rfl ?_ | refine WL.skp rfl rfl ?_ | refine WL.sku rfl ?_)
    exact fn_ret2 (v2 := .int _ _) rfl (rv_cellA rfl rfl H.bI lQ) rfl ⟨_, _, H.picks [] rfl (by decide), rfl, rfl, _, _, rfl, pickS_1 hx hy (fun h => by cases h)⟩
  · by_cases hv : y.ver.toNat ≤ x.ver.toNat
    · repeat' (first | ((first | refine WL.p rfl ?_ | refine WL.u ?_ | refine WL.g rfl rfl ?_ | refine WL.gu rfl ?_); first | (refine opk 8 rfl ?_; (refine ost_storeW (i := 2) (vs := cSlot x) H rfl rfl rfl rfl rfl rfl rfl (allOne_of rfl) ?_; clear H; intro wk H; simp only [List.set_cons_zero, List.set_cons_succ] at H)) | refine pvQ ?_ | (refine opk 3 rfl ?_; (refine ost_cmp rfl rfl rfl rfl (fun hc => ?_) (fun hc => ?_) <;> (simp only [cmpP] at hc; try exact prIQ))) | (refine opk 4 rfl ?_; (refine ost_cmp rfl rfl rfl rfl (fun hc => ?_) (fun hc => ?_) <;> (simp only [cmpP] at hc; try exact prIQ))) | (refine opk 8 rfl ?_; (refine ost_storeW H rfl rfl rfl rfl lQ ixQ lQ okQ ?_; clear H; intro wk H; simp only [List.set_cons_zero, List.set_cons_succ, Nat.reduceAdd] at H)) | (refine opk 9 rfl ?_; (refine ost_allocA H rfl ?_; clear H; intro bk wk H))) | refine Wc.seq ?_ | refine then_n ?_ | refine WL.nil ?_ | refine Wc.region ?_ | refine Wc.block ?_ | refine then_r ?_ | refine then_e ?_ | refine inb_e rfl ?_ | refine inb_o rfl ?_ | refine inb_n ?_ | refine inb_r ?_ | refine Wc.skip ?_ | refine Wc.exit ?_ | refine Wc.ret ?_ | refine Wc.cond_true rfl ?_ | refine Wc.cond_false rfl ?_ | refine WL.skp rfl rfl ?_ | refine WL.sku rfl ?_)
      all_goals first | (exfalso; omega) | exact fn_ret2 (v2 := .int _ _) rfl (rv_cellA rfl rfl H.bI lQ) rfl ⟨_, _, H.picks [] rfl (by decide), rfl, rfl, _, _, rfl, pickS_1 hx hy (fun _ => hv)⟩
    · repeat' (first | ((first | refine WL.p rfl ?_ | refine WL.u ?_ | refine WL.g rfl rfl ?_ | refine WL.gu rfl ?_); first | (refine opk 8 rfl ?_; (refine ost_storeW (i := 2) (vs := cSlot y) H rfl rfl rfl rfl rfl rfl rfl (allOne_of rfl) ?_; clear H; intro wk H; simp only [List.set_cons_zero, List.set_cons_succ] at H)) | refine pvQ ?_ | (refine opk 3 rfl ?_; (refine ost_cmp rfl rfl rfl rfl (fun hc => ?_) (fun hc => ?_) <;> (simp only [cmpP] at hc; try exact prIQ))) | (refine opk 4 rfl ?_; (refine ost_cmp rfl rfl rfl rfl (fun hc => ?_) (fun hc => ?_) <;> (simp only [cmpP] at hc; try exact prIQ))) | (refine opk 8 rfl ?_; (refine ost_storeW H rfl rfl rfl rfl lQ ixQ lQ okQ ?_; clear H; intro wk H; simp only [List.set_cons_zero, List.set_cons_succ, Nat.reduceAdd] at H)) | (refine opk 9 rfl ?_; (refine ost_allocA H rfl ?_; clear H; intro bk wk H))) | refine Wc.seq ?_ | refine then_n ?_ | refine WL.nil ?_ | refine Wc.region ?_ | refine Wc.block ?_ | refine then_r ?_ | refine then_e ?_ | refine inb_e rfl ?_ | refine inb_o rfl ?_ | refine inb_n ?_ | refine inb_r ?_ | refine Wc.skip ?_ | refine Wc.exit ?_ | refine Wc.ret ?_ | refine Wc.cond_true rfl ?_ | refine Wc.cond_false rfl ?_ | refine WL.skp rfl rfl ?_ | refine WL.sku rfl ?_)
      all_goals first | (exfalso; omega) | exact fn_ret2 (v2 := .int _ _) rfl (rv_cellA rfl rfl H.bI lQ) rfl ⟨_, _, H.picks [] rfl (by decide), rfl, rfl, _, _, rfl, pickS_2 hx hy (fun _ => by omega)⟩
end Go.Tg

set_option linter.unusedVariables false
set_option linter.unusedSimpArgs false
set_option maxRecDepth 100000
set_option maxHeartbeats 4000000
namespace Go.Tg
open Go Go.Proofs
noncomputable def pageAt (b : List UInt8) (i : Nat) : Option PageT :=
  if i < b.length ∧ (firstF (b.drop i)).2.2 = 0 ∧ (decP ((b.drop i).take (firstF (b.drop i)).2.1)).2 = 0 then some (decP ((b.drop i).take (firstF (b.drop i)).2.1)).1 else none
def itemsP (p : PageT) : List ItemT := (p.keys.zip p.locs).map fun x => ⟨x.1, x.2⟩
theorem decP_shape {b : List UInt8} (h : (decP b).2 = 0) : (decP b).1.locs.length ≤ (decP b).1.keys.length ∧ (decP b).1.keys.length ≤ 8 ∧ (decP b).1.kids.length ≤ 8 := by
  rcases decP_spec b with ⟨h1, h2, h3⟩ | ⟨h1, h2, h3⟩
  · have hs := (rightP_iff.1 h2).2
    unfold shapeP at hs
    split at hs <;> omega
  · rw [h] at h1; cases h1
theorem itemsP_len {p : PageT} (h : p.locs.length ≤ p.keys.length) : (itemsP p).length = p.locs.length := by
  unfold itemsP; rw [List.length_map, List.length_zip]; omega
theorem itemsP_get {p : PageT} {i : Nat} (h1 : i < p.keys.length) (h2 : i < p.locs.length) : (itemsP p)[i]? = some ⟨p.keys[i], p.locs[i]⟩ := by
  unfold itemsP
  rw [List.getElem?_map, List.getElem?_eq_getElem (by rw [List.length_zip]; omega), List.getElem_zip]; rfl
theorem itemsP_take {p : PageT} {i : Nat} (h1 : i < p.keys.length) (h2 : i < p.locs.length) : (itemsP p).take (i + 1) = (itemsP p).take i ++ [⟨p.keys[i], p.locs[i]⟩] := by
  rw [List.take_add_one, itemsP_get h1 h2]; rfl
noncomputable def rdF (b : List UInt8) : Nat → List Nat → Option (List ItemT × Nat)
  | left, [] => some ([], left)
  | 0, _ :: _ => none
  | left + 1, i :: l => match pageAt b i with
    | none => none
    | some p => match rdF b left (p.kids.map (·.toNat) ++ l) with
      | none => none
      | some r => some (itemsP p ++ r.1, r.2)
theorem rdF_nil (b : List UInt8) (left : Nat) : rdF b left [] = some ([], left) := by cases left <;> simp [rdF]
theorem rdF_zero (b : List UInt8) (i : Nat) (l : List Nat) : rdF b 0 (i :: l) = none := by simp [rdF]
theorem rdF_no {b : List UInt8} {i : Nat} (h : pageAt b i = none) (left : Nat) (l : List Nat) : rdF b left (i :: l) = none := by
  cases left with
  | zero => exact rdF_zero b i l
  | succ n => simp [rdF, h]
theorem rdF_page {b : List UInt8} {i : Nat} {p : PageT} (h : pageAt b i = some p) (left : Nat) (l : List Nat) : rdF b (left + 1) (i :: l) = (rdF b left (p.kids.map (·.toNat) ++ l)).map fun r => (itemsP p ++ r.1, r.2) := by
  simp only [rdF, h]
  cases rdF b left (p.kids.map (·.toNat) ++ l) <;> rfl
theorem rdF_app (b : List UInt8) : ∀ (left : Nat) (xs ys : List Nat), rdF b left (xs ++ ys) = (rdF b left xs).bind fun r => (rdF b r.2 ys).map fun s => (r.1 ++ s.1, s.2)
  | left, [], ys => by
    rw [rdF_nil]
    cases h : rdF b left ys <;> simp [h]
  | 0, x :: xs, ys => by rw [List.cons_append, rdF_zero, rdF_zero]; rfl
  | left + 1, x :: xs, ys => by
    rw [List.cons_append]
    cases h : pageAt b x with
    | none => rw [rdF_no h, rdF_no h]; rfl
    | some p =>
      rw [rdF_page h, rdF_page h, ← List.append_assoc, rdF_app b left _ ys]
      cases rdF b left (p.kids.map (·.toNat) ++ xs) with
      | none => rfl
      | some r =>
        simp only [Option.bind_some, Option.map_some]
        cases rdF b r.2 ys with
        | none => rfl
        | some s => simp
theorem pageAt_shape {b : List UInt8} {i : Nat} {p : PageT} (h : pageAt b i = some p) : p.locs.length ≤ p.keys.length ∧ p.keys.length ≤ 8 ∧ p.kids.length ≤ 8 := by
  unfold pageAt at h
  split at h
  · rename_i h9
    cases h
    exact decP_shape h9.2.2
  · cases h
theorem rdF_len (b : List UInt8) : ∀ (left : Nat) (l : List Nat) (r : List ItemT × Nat), rdF b left l = some r → r.2 ≤ left ∧ r.1.length + 8 * r.2 ≤ 8 * left
  | left, [], r, h => by rw [rdF_nil] at h; cases h; simp
  | 0, x :: xs, r, h => by rw [rdF_zero] at h; cases h
  | left + 1, x :: xs, r, h => by
    cases hp : pageAt b x with
    | none => rw [rdF_no hp] at h; cases h
    | some p =>
      rw [rdF_page hp] at h
      cases hq : rdF b left (p.kids.map (·.toNat) ++ xs) with
      | none => rw [hq] at h; cases h
      | some s =>
        rw [hq] at h; cases h
        obtain ⟨h1, h2⟩ := rdF_len b left _ s hq
        obtain ⟨h3, h4, _⟩ := pageAt_shape hp
        have := itemsP_len h3
        simp only [List.length_append]
        omega
theorem pageAt_no1 {b : List UInt8} {i : Nat} (h : ¬ i < b.length) : pageAt b i = none := by unfold pageAt; rw [if_neg fun h9 => h h9.1]
theorem pageAt_no2 {b : List UInt8} {i : Nat} (h : (firstF (b.drop i)).2.2 ≠ 0) : pageAt b i = none := by unfold pageAt; rw [if_neg fun h9 => h h9.2.1]
theorem pageAt_no3 {b : List UInt8} {i : Nat} (h : (decP ((b.drop i).take (firstF (b.drop i)).2.1)).2 ≠ 0) : pageAt b i = none := by unfold pageAt; rw [if_neg fun h9 => h h9.2.2]
theorem pageAt_yes {b : List UInt8} {i : Nat} (h1 : i < b.length) (h2 : (firstF (b.drop i)).2.2 = 0) (h3 : (decP ((b.drop i).take (firstF (b.drop i)).2.1)).2 = 0) : pageAt b i = some (decP ((b.drop i).take (firstF (b.drop i)).2.1)).1 := by
  unfold pageAt; rw [if_pos ⟨h1, h2, h3⟩]
noncomputable def loadL (b : List UInt8) (s : SlotT) : List ItemT × Int :=
  if b.length < s.end_.toNat then ([], 4) else
  match rdF (b.take s.end_.toNat) 8192 [s.at_.toNat] with
  | none => ([], 15)
  | some r => if dcd (r.1.length ≤ 4096 ∧ ∃ base : Nat, base ≤ s.end_.toNat ∧ dumpM r.1 s.ver base = ((b.take s.end_.toNat).drop base, s, 0)) = true then (r.1, 0) else ([], 15)
theorem dumpM_err (l : List ItemT) (v v' : UInt64) {x y : Nat} (hx : x ≤ 1073741824) (hy : y ≤ 1073741824) : (dumpM l v x).2.2 = (dumpM l v' y).2.2 := by
  cases hr : riseL l with
  | false =>
    unfold dumpM
    rw [if_pos (.inr (.inr hr)), if_pos (.inr (.inr hr))]
  | true =>
    unfold dumpM
    have h1 : ¬ ((x : Int) < 0 ∨ 1073741824 < (x : Int) ∨ riseL l = false) := by rw [hr]; simp; omega
    have h2 : ¬ ((y : Int) < 0 ∨ 1073741824 < (y : Int) ∨ riseL l = false) := by rw [hr]; simp; omega
    simp only [if_neg h1, if_neg h2]
    split <;> rfl
theorem dumpM_ok {l : List ItemT} {v : UInt64} {x : Nat} (h : (dumpM l v x).2.2 = 0) : riseL l = true ∧ l.length ≤ 4096 := by
  unfold dumpM at h
  split at h
  · cases h
  · rename_i h9
    split at h
    · cases h
    · refine ⟨?_, by omega⟩
      cases hr : riseL l with
      | true => rfl
      | false => exact absurd (.inr (.inr hr)) h9
end Go.Tg

set_option linter.unusedVariables false
set_option linter.unusedSimpArgs false
set_option maxRecDepth 100000
set_option maxHeartbeats 4000000
namespace Go.Tg
open Go Go.Proofs
theorem frame_FirstM (n : Nat) (h0 : FH) (a : Option Addr) (c : Nat) (b : List UInt8) (w : World) (hs : Sat h0 w) (hT : Half h0) (hn : n = b.length) (hr : BS h0 a c b) (hb : b.length ≤ 1000000000) :
    Spec Tryd.prog 38 #[.slice a n c] w [] h0 (fun v h' L' => ∃ a' c', v = .tuple #[.slice a' (firstF b).1.length c', .int .i64 (firstF b).2.1, .int .i64 (firstF b).2.2] ∧ h' = h0 ∧ L' = [own8 (.slice a' (firstF b).1.length c') 5 (firstF b).1]) := by
  subst hn; exact frame_First h0 a c b w hs hT hr hb
theorem page_DecodeM (n : Nat) (h0 : FH) (a : Option Addr) (c : Nat) (b : List UInt8) (w : World) (hs : Sat h0 w) (hT : Half h0) (hn : n = b.length) (hr : BS h0 a c b) (hb : b.length ≤ 1000000) :
    Spec Tryd.prog 20 #[.slice a n c] w [] h0 (fun v h' L' => ∃ A, v = .tuple #[.agg (pgV (decP b).1 A).toArray, .int .i64 (decP b).2] ∧ L' = [] ∧ PgR h' (decP b).1 A) := by
  subst hn; exact page_Decode h0 a c b w hs hT hr hb
abbrev rdH (rb : Nat) (a : Option Addr) (c : Nat) (b : List UInt8) (left : Nat) (ai : Option Addr) (ci : Nat) (its : List ItemT) : HA := .both (.blk rb (.cells [Value.slice a b.length c, .int .i64 left, .slice ai its.length ci].toArray 94 (0, 0))) (ownR (.slice ai its.length ci) 70 5 (its.map cItem))
theorem BS.dropE {h : FH} {a : Option Addr} {c : Nat} {xs : List UInt8} (r : BS h a c xs) (i k : Nat) (hi : i ≤ xs.length) : BS h (if c = i then a else a.map (·.add (i * 1))) (c - i) ((xs.drop i).take k) := (r.drop hi).take k
theorem ro_read (rb : Nat) (a : Option Addr) (c : Nat) (b : List UInt8) (hb : b.length ≤ 1000000) : ∀ (left : Nat), left ≤ 8192 → ∀ (i : Nat) (hi : i < 4294967296) (ai : Option Addr) (ci : Nat) (its : List ItemT) (g : FH) (w : World) (hT : Half g) (hr : BS g a c b) (hl : its.length + 8 * left ≤ 65536) (HO : St w (rdH rb a c b left ai ci its).fp g g [rdH rb a c b left ai ci its] w),
    Spec Tryd.prog 28 #[pt rb, .int .u32 (i : Int)] w (rdH rb a c b left ai ci its).fp g (fun v h' L' => ∃ a' c' its' left', L' = [rdH rb a c b left' a' c' its'] ∧ its'.length ≤ 65536 ∧
      ((∃ r, rdF b left [i] = some r ∧ v = .bool true ∧ its' = its ++ r.1 ∧ left' = r.2) ∨ (v = .bool false ∧ rdF b left [i] = none))) := by
  intro left
  induction left using Nat.strongRecOn with
  | _ left ih =>
  intro hleft i hi ai ci its g w hT hr hl HO
  have H := HO.split
  generalize hF9 : (rdH rb a c b left ai ci its).fp = F9 at H ⊢
  have hcap := hr.le
  have hmx := hr.mx
  unfold Spec
  refine calls_of Tryd.func28 rfl Tryd.ntmps28 (by simp) ?_
  by_cases hl0 : left = 0
  · subst hl0
    repeat' (first | ((first | refine WL.p rfl ?_ | refine WL.u ?_ | refine WL.g rfl rfl ?_ | refine WL.gu rfl ?_); first | refine pvQ ?_ | (refine opk 3 rfl ?_; (refine ost_cmp rfl rfl rfl rfl (fun hc => ?_) (fun hc => ?_) <;> (simp only [cmpP] at hc; try exact prIQ))) | (refine opk 4 rfl ?_; (refine ost_cmp rfl rfl rfl rfl (fun hc => ?_) (fun hc => ?_) <;> (simp only [cmpP] at hc; try exact prIQ))) | (refine opk 8 rfl ?_; first | (refine ost_store1 H rfl rfl vlQ gvQ ixQ (by first | decide | (simp; omega) | (simp; done) | omega) ?_; clear H; intro wk H; simp only [List.set_cons_zero, List.set_cons_succ, Nat.reduceAdd] at H) | (refine ost_storeW H rfl rfl rfl rfl lQ ixQ lQ okQ ?_; clear H; intro wk H; simp only [List.set_cons_zero, List.set_cons_succ, Nat.reduceAdd] at H)) | (refine opk 9 rfl ?_; first | (refine ost_allocA H rfl ?_; clear H; intro bk wk H) | (refine ost_build1 H rfl rfl rfl evQ lsQ rfl ?_; clear H; intro bk wk H))) | refine Wc.seq ?_ | refine then_n ?_ | refine WL.nil ?_ | refine Wc.region ?_ | refine Wc.block ?_ | refine then_r ?_ | refine then_e ?_ | refine inb_e rfl ?_ | refine inb_o rfl ?_ | refine inb_n ?_ | refine inb_r ?_ | refine Wc.skip ?_ | refine Wc.exit ?_ | refine Wc.ret ?_ | refine Wc.cond_true rfl ?_ | refine Wc.cond_false rfl ?_ | (refine Wc.drawn (id := 13) 14 (by kernel_rfl) ?_) | refine WL.skp rfl rfl ?_ | refine WL.sku rfl ?_ | (refine rgs_nil ?_; intro vs wk hE; replace H := H.ext hE; clear hE) | refine RGs.skp (fun _ => rfl) rfl ?_ | (refine RGs.bq (fun _ => rfl) rfl (by intro vs w hE hP; have H := H.ext hE; first | exact dbQ | fail) (fun hc => ?_) (fun hc => ?_) <;> ((try simp only [cmpP, decide_eq_true_eq, decide_eq_false_iff_not, dcd_iff, dcd_no] at hc); try exact prDQ)) | refine RGs.pq (fun _ => rfl) rfl (by intro vs w hE hP; have H := H.ext hE; first | exact dvQ | fail) ?_)
    exact fn_ret1 (v := .bool _) rfl rfl ⟨_, _, H.join, _, _, _, _, rfl, by omega, .inr ⟨rfl, rdF_zero b i []⟩⟩
  · obtain ⟨left, rfl⟩ : ∃ m, left = m + 1 := ⟨left - 1, by omega⟩
    have hlf : ((left + 1 : Nat) : Int) - 1 = (left : Nat) := by omega
    by_cases hib : i < b.length
    · have hFF := fun g w hs hT hn hr => frame_FirstM (b.length - i) g (if c = i then a else a.map (·.add (i * 1))) (c - i) (b.drop i) w hs hT hn hr (by rw [List.length_drop]; omega)
      have hpg1 := @pageAt_no2 b i
      have hpg2 := @pageAt_no3 b i
      have hpg3 := @pageAt_yes b i hib
      have hok := @firstF_ok (b.drop i)
      generalize firstF (b.drop i) = F at hFF hpg1 hpg2 hpg3 hok
      obtain ⟨f, k, e⟩ := F
      dsimp only at hFF hpg1 hpg2 hpg3 hok
      by_cases he : e = 0
      · subst he
        obtain ⟨_, _, hk⟩ := hok rfl
        rw [List.length_drop] at hk
        have hDD := fun g w hs hT hr => page_DecodeM (i + k - i) g (if c = i then a else a.map (·.add (i * 1))) (c - i) ((b.drop i).take k) w hs hT (by rw [List.length_take, List.length_drop]; omega) hr (by rw [List.length_take, List.length_drop]; omega)
        have hsh := @decP_shape ((b.drop i).take k)
        generalize decP ((b.drop i).take k) = D at hDD hpg2 hpg3 hsh
        obtain ⟨p, ep⟩ := D
        dsimp only at hDD hpg2 hpg3 hsh
        have lp := pgV_len p
        repeat' (first | ((first | refine WL.p rfl ?_ | refine WL.u ?_ | refine WL.g rfl rfl ?_ | refine WL.gu rfl ?_); first | (refine opk 1 rfl ?_; first | (refine ost_C H rfl (hFF _ _ (sat_full _) (hT.full H) (by rw [List.length_drop]) ((hr.full H).drop (by omega))) rfl ?_; clear H; rintro vk wk hfk Lk ⟨a1, c1, rfl, -, rfl⟩ H; simp only [List.cons_append, List.nil_append] at H) | (refine ost_Sk H rfl (hDD _ _ H.sat hT (hr.dropE i k (by omega))) rfl ?_; clear H; rintro vk wk hfk Lk ⟨A, rfl, rfl, hP⟩ hle H; simp only [List.cons_append, List.nil_append] at H)) | refine pvQ ?_ | (refine opk 3 rfl ?_; (refine ost_cmp rfl rfl rfl rfl (fun hc => ?_) (fun hc => ?_) <;> (simp only [cmpP] at hc; try exact prIQ))) | (refine opk 4 rfl ?_; (refine ost_cmp rfl rfl rfl rfl (fun hc => ?_) (fun hc => ?_) <;> (simp only [cmpP] at hc; try exact prIQ))) | (refine opk 8 rfl ?_; first | (refine ost_store1 H rfl rfl vlQ gvQ ixQ (by first | decide | (simp; omega) | (simp; done) | omega) ?_; clear H; intro wk H; simp only [List.set_cons_zero, List.set_cons_succ, Nat.reduceAdd] at H) | (refine ost_storeW H rfl rfl rfl rfl lQ ixQ lQ okQ ?_; clear H; intro wk H; simp only [List.set_cons_zero, List.set_cons_succ, Nat.reduceAdd] at H)) | (refine opk 9 rfl ?_; first | (refine ost_allocA H rfl ?_; clear H; intro bk wk H) | (refine ost_build1 H rfl rfl rfl evQ lsQ rfl ?_; clear H; intro bk wk H))) | refine Wc.seq ?_ | refine then_n ?_ | refine WL.nil ?_ | refine Wc.region ?_ | refine Wc.block ?_ | refine then_r ?_ | refine then_e ?_ | refine inb_e rfl ?_ | refine inb_o rfl ?_ | refine inb_n ?_ | refine inb_r ?_ | refine Wc.skip ?_ | refine Wc.exit ?_ | refine Wc.ret ?_ | refine Wc.cond_true rfl ?_ | refine Wc.cond_false rfl ?_ | (refine Wc.drawn (id := 13) 14 (by kernel_rfl) ?_) | refine WL.skp rfl rfl ?_ | refine WL.sku rfl ?_ | (refine rgs_nil ?_; intro vs wk hE; replace H := H.ext hE; clear hE) | refine RGs.skp (fun _ => rfl) rfl ?_ | (refine RGs.bq (fun _ => rfl) rfl (by intro vs w hE hP; have H := H.ext hE; first | exact dbQ | fail) (fun hc => ?_) (fun hc => ?_) <;> ((try simp only [cmpP, decide_eq_true_eq, decide_eq_false_iff_not, dcd_iff, dcd_no] at hc); try exact prDQ)) | refine RGs.pq (fun _ => rfl) rfl (by intro vs w hE hP; have H := H.ext hE; first | exact dvQ | fail) ?_)
        · rw [hlf] at H
          exact fn_ret1 (v := .bool _) rfl rfl ⟨_, _, (H.picks [2, 3] rfl (by decide)).join, _, _, _, _, rfl, by omega, .inr ⟨rfl, rdF_no (hpg2 (by assumption)) _ _⟩⟩
        · rename_i hc9
          have hep : ep = 0 := Decidable.not_not.1 (by assumption)
          subst hep
          obtain ⟨hs1, hs2, hs3⟩ := hsh rfl
          have hpp := hpg3 rfl rfl
          clear hpg1 hpg2 hpg3 hsh hFF hDD hok
          obtain ⟨bp, ebp⟩ := H.nameB idx0
          subst ebp
          obtain ⟨ak, ck, al, cl, ad, cd⟩ := A
          rw [hlf] at H
          have hil := itemsP_len hs1
          have hrw := rows_len5 its
          replace H := H.picks (L' := [_, _, _]) [0, 2, 3] rfl (by decide)
          have hT1 := hT.mono hle
          have hr1 := hr.mono hle
          refine Wc.loopE (fun s0 m s w' => ∃ (j : Nat) (ai : Option Addr) (ci : Nat), m = p.locs.length - j ∧ j ≤ p.locs.length ∧ Agree [9, 10, 68, 69, 70, 71, 72, 73, 74, 75, 76, 77, 78, 79, 80, 81, 82, 83, 84, 85, 86, 87, 88, 89] s s0 ∧ s 68 = .int .i64 j ∧
            St w F9 g hfk [.blk bp (.cells (pgV p ⟨ak, ck, al, cl, ad, cd⟩).toArray 59 (0, 0)), .blk rb (.cells [Value.slice a b.length c, .int .i64 left, .slice ai (its ++ (itemsP p).take j).length ci].toArray 94 (0, 0)), ownR (.slice ai (its ++ (itemsP p).take j).length ci) 70 5 ((its ++ (itemsP p).take j).map cItem)] w') _ ⟨0, ai, ci, rfl, by omega, Agree.refl _ _, rfl, by rw [List.take_zero, List.append_nil]; exact H⟩ ?_
          clear H
          rintro m s w' ⟨j, ai, ci, rfl, hj, hA, e1, H⟩
          obtain ⟨j9, rfl⟩ := hA.env1 e1
          clear hA e1
          by_cases hlt : j < p.locs.length
          · have hjk : j < p.keys.length := by omega
            obtain ⟨b7, off7, l7, T7, fr7, e7, eb7, eg7⟩ := hP.l.getM (by decide) (by omega)
            obtain ⟨b8, off8, l8, T8, fr8, e8, eb8, eg8⟩ := hP.k.getM (by decide) (by omega)
            dsimp only at e7 e8
            subst e7
            subst e8
            have g7 : (l7.drop (off7 + (j : Int).toNat * 2)).take 2 = cLoc p.locs[j] := eg7 (j : Int).toNat j hlt rfl
            have g8 : (l8.drop (off8 + (j : Int).toNat * 3)).take 3 = cKey p.keys[j] := eg8 (j : Int).toNat j hjk rfl
            clear eg7 eg8
            have htk := itemsP_take hjk hlt
            have hsn : its ++ (itemsP p).take (j + 1) = its ++ (itemsP p).take j ++ [⟨p.keys[j], p.locs[j]⟩] := by rw [htk, List.append_assoc]
            have hIl : (its ++ (itemsP p).take j).length ≤ 65536 := by rw [List.length_append, List.length_take]; omega
            have g9 : (pgV p ⟨some ⟨b8, off8, none⟩, ck, some ⟨b7, off7, none⟩, cl, ad, cd⟩)[0 + 1]? = some (.slice (some ⟨b8, off8, none⟩) p.keys.length ck) := rfl
            generalize its ++ (itemsP p).take j = II at H hsn hIl ⊢
            generalize p.keys[j] = kj at g8 hsn ⊢
            generalize p.locs[j] = lj at g7 hsn ⊢
            have oi := allOne_of (cItem_one ⟨kj, lj⟩)
            have li := cItem_len ⟨kj, lj⟩
            repeat' (first | ((first | refine WL.p rfl ?_ | refine WL.u ?_ | refine WL.g rfl rfl ?_ | refine WL.gu rfl ?_); first | refine pvQ ?_ | (refine opk 3 rfl ?_; (refine ost_cmp rfl rfl rfl rfl (fun hc => ?_) (fun hc => ?_) <;> (simp only [cmpP] at hc; try exact prIQ))) | (refine opk 4 rfl ?_; (refine ost_cmp rfl rfl rfl rfl (fun hc => ?_) (fun hc => ?_) <;> (simp only [cmpP] at hc; try exact prIQ))) | (refine opk 8 rfl ?_; first | (refine ost_store1 H rfl rfl vlQ gvQ ixQ (by first | decide | (simp; omega) | (simp; done) | omega) ?_; clear H; intro wk H; simp only [List.set_cons_zero, List.set_cons_succ, Nat.reduceAdd] at H) | (refine ost_storeW H rfl rfl rfl rfl lQ ixQ lQ okQ ?_; clear H; intro wk H; simp only [List.set_cons_zero, List.set_cons_succ, Nat.reduceAdd] at H)) | (refine opk 9 rfl ?_; first | (refine ost_allocA H rfl ?_; clear H; intro bk wk H) | (refine ost_build1 H rfl rfl rfl evQ lsQ rfl ?_; clear H; intro bk wk H))) | refine Wc.seq ?_ | refine then_n ?_ | refine WL.nil ?_ | refine Wc.region ?_ | refine Wc.block ?_ | refine then_r ?_ | refine then_e ?_ | refine inb_e rfl ?_ | refine inb_o rfl ?_ | refine inb_n ?_ | refine inb_r ?_ | refine Wc.skip ?_ | refine Wc.exit ?_ | refine Wc.ret ?_ | refine Wc.cond_true rfl ?_ | refine Wc.cond_false rfl ?_ | refine WL.skp rfl rfl ?_ | refine WL.sku rfl ?_ | (refine Wc.drawM (id := 13) 14 [(12, [], fun v L' => ∃ b, v = Value.slice (some ⟨b, 0, none⟩) 1 1 ∧ L' = [ownR (Value.slice (some ⟨b, 0, none⟩) 1 1) 70 5 [cItem ⟨kj, lj⟩]]), (13, [ownR (.slice ai II.length ci) 70 5 (II.map cItem)], fun v L' => ∃ a c, v = Value.slice a (II.map cItem ++ [cItem ⟨kj, lj⟩]).length c ∧ L' = [ownR (Value.slice a (II.map cItem ++ [cItem ⟨kj, lj⟩]).length c) 70 5 (II.map cItem ++ [cItem ⟨kj, lj⟩])])] [.blk _ _, .blk _ _, .blk _ _] [12, 13] H (by kernel_rfl) rfl (by kernel_rfl) (by simp only [inpL, List.nil_append, List.cons_append, List.append_nil]; first | exact List.Perm.refl _ | exact List.Perm.swap _ _ _ | exact (List.Perm.swap _ _ _).trans ((List.Perm.swap _ _ _).cons _) | exact ((List.Perm.swap _ _ _).cons _) | exact ((List.Perm.swap _ _ _).cons _).trans (List.Perm.swap _ _ _)) ?_) | (refine rgm_nil ?_; intro vs wk outs HM hR; obtain ⟨v3, ⟨b3, e3, o3⟩, h3⟩ := hR 12 _ rfl; obtain ⟨v4, ⟨a4, c4, e4, o4⟩, h4⟩ := hR 13 _ rfl; have hv4 : vs (0 + 1 + 1 + 1 + 1 + 1 + 1 + 1 + 1 + 1 + 1 + 1 + 1 + 1) = _ := (h4 (by kernel_rfl)).trans e4; simp only [outsL, o3, o4, List.cons_append, List.nil_append, List.append_nil] at HM; (try dsimp only); rw [hv4]; replace H := HM; clear HM hR) | refine RGm.skp (fun _ => rfl) rfl ?_ | (refine RGm.bq (fun _ => rfl) rfl (by intro vs w TT hP H; simp only [List.cons_append, List.nil_append] at H; first | exact dbQ | fail) (fun hc => ?_) (fun hc => ?_) <;> ((try simp only [cmpP, decide_eq_true_eq, decide_eq_false_iff_not, dcd_iff, dcd_no] at hc); try exact prDQ)) | refine RGm.pq (fun _ => rfl) rfl (by intro vs w TT hP H; simp only [List.cons_append, List.nil_append] at H; first | exact dvQ | fail) ?_ | refine RGm.mq (fun _ => rfl) rfl (by intro vs w TT hP H; simp only [List.cons_append, List.nil_append] at H; first | (refine ost_buildR (rows := [cItem ⟨kj, lj⟩]) H rfl (by decide) rfl (by rfl) (evP1 vxQ) (.cons rfl .nil) rfl (by simp [li]) ?_; intro bk wk H2; exact ⟨[_], ⟨_, rfl, rfl⟩, H2⟩) | (obtain ⟨L9, ⟨b9, e9, rfl⟩, hm9⟩ := hP 12 _ (by kernel_rfl) rfl rfl; obtain ⟨j9, hj9⟩ := List.getElem?_of_mem (hm9 _ (List.mem_singleton_self _)); refine ost_appR (i := 0) (j := j9 + 4) (rows := II.map cItem) (row := cItem ⟨kj, lj⟩) H rfl e9 rfl rfl hj9 (by rfl) (by decide) li oi rfl (by simp; omega) ?_; intro a9 c9 w9 H2; simp only [List.set_cons_zero] at H2; exact ⟨[_], ⟨a9, c9, rfl, rfl⟩, H2⟩) | fail) ?_ | refine RGm.mu rfl (by intro vs w TT hP H; simp only [List.cons_append, List.nil_append] at H; first | (refine ost_buildR (rows := [cItem ⟨kj, lj⟩]) H rfl (by decide) rfl (by rfl) (evP1 vxQ) (.cons rfl .nil) rfl (by simp [li]) ?_; intro bk wk H2; exact ⟨[_], ⟨_, rfl, rfl⟩, H2⟩) | (obtain ⟨L9, ⟨b9, e9, rfl⟩, hm9⟩ := hP 12 _ (by kernel_rfl) rfl rfl; obtain ⟨j9, hj9⟩ := List.getElem?_of_mem (hm9 _ (List.mem_singleton_self _)); refine ost_appR (i := 0) (j := j9 + 4) (rows := II.map cItem) (row := cItem ⟨kj, lj⟩) H rfl e9 rfl rfl hj9 (by rfl) (by decide) li oi rfl (by simp; omega) ?_; intro a9 c9 w9 H2; simp only [List.set_cons_zero] at H2; exact ⟨[_], ⟨a9, c9, rfl, rfl⟩, H2⟩) | fail) ?_)
            have hmp : II.map cItem ++ [cItem ⟨kj, lj⟩] = (II ++ [(⟨kj, lj⟩ : ItemT)]).map cItem := by rw [List.map_append]; rfl
            have hml : (II.map cItem ++ [cItem ⟨kj, lj⟩]).length = (II ++ [(⟨kj, lj⟩ : ItemT)]).length := by simp
            rw [hml, hmp, ← hsn] at H
            exact ⟨p.locs.length - (j + 1), by omega, j + 1, _, _, rfl, by omega, by (repeat' (first | exact Agree.refl _ _ | exact Agree.havoc | refine Agree.upd rfl ?_ | refine Agree.hav2 rfl ?_)), rfl, H.picks [1, 2, 4] rfl (by decide)⟩
          · obtain rfl : j = p.locs.length := by omega
            repeat' (first | ((first | refine WL.p rfl ?_ | refine WL.u ?_ | refine WL.g rfl rfl ?_ | refine WL.gu rfl ?_); first | refine pvQ ?_ | (refine opk 3 rfl ?_; (refine ost_cmp rfl rfl rfl rfl (fun hc => ?_) (fun hc => ?_) <;> (simp only [cmpP] at hc; try exact prIQ))) | (refine opk 4 rfl ?_; (refine ost_cmp rfl rfl rfl rfl (fun hc => ?_) (fun hc => ?_) <;> (simp only [cmpP] at hc; try exact prIQ))) | (refine opk 8 rfl ?_; first | (refine ost_store1 H rfl rfl vlQ gvQ ixQ (by first | decide | (simp; omega) | (simp; done) | omega) ?_; clear H; intro wk H; simp only [List.set_cons_zero, List.set_cons_succ, Nat.reduceAdd] at H) | (refine ost_storeW H rfl rfl rfl rfl lQ ixQ lQ okQ ?_; clear H; intro wk H; simp only [List.set_cons_zero, List.set_cons_succ, Nat.reduceAdd] at H)) | (refine opk 9 rfl ?_; first | (refine ost_allocA H rfl ?_; clear H; intro bk wk H) | (refine ost_build1 H rfl rfl rfl evQ lsQ rfl ?_; clear H; intro bk wk H))) | refine Wc.seq ?_ | refine then_n ?_ | refine WL.nil ?_ | refine Wc.region ?_ | refine Wc.block ?_ | refine then_r ?_ | refine then_e ?_ | refine inb_e rfl ?_ | refine inb_o rfl ?_ | refine inb_n ?_ | refine inb_r ?_ | refine Wc.skip ?_ | refine Wc.exit ?_ | refine Wc.ret ?_ | refine Wc.cond_true rfl ?_ | refine Wc.cond_false rfl ?_ | (refine Wc.drawn (id := 13) 14 (by kernel_rfl) ?_) | refine WL.skp rfl rfl ?_ | refine WL.sku rfl ?_ | (refine rgs_nil ?_; intro vs wk hE; replace H := H.ext hE; clear hE) | refine RGs.skp (fun _ => rfl) rfl ?_ | (refine RGs.bq (fun _ => rfl) rfl (by intro vs w hE hP; have H := H.ext hE; first | exact dbQ | fail) (fun hc => ?_) (fun hc => ?_) <;> ((try simp only [cmpP, decide_eq_true_eq, decide_eq_false_iff_not, dcd_iff, dcd_no] at hc); try exact prDQ)) | refine RGs.pq (fun _ => rfl) rfl (by intro vs w hE hP; have H := H.ext hE; first | exact dvQ | fail) ?_)
            have htk : (itemsP p).take p.locs.length = itemsP p := List.take_of_length_le (by omega)
            rw [htk] at H
            have hrf0 : rdF b left ((p.kids.map (·.toNat)).take 0) = some ([], left) := rdF_nil _ _
            have hpd := hP.d
            dsimp only at hpd
            refine Wc.loopE (fun s0 m s w' => ∃ (k : Nat) (ai : Option Addr) (ci : Nat) (I2 : List ItemT) (lf : Nat) (h7 : FH), m = p.kids.length - k ∧ k ≤ p.kids.length ∧ FLe hfk h7 ∧ Agree [4, 12, 93, 94, 95, 96, 97, 98, 99, 100, 101] s s0 ∧ s 93 = .int .i64 k ∧ rdF b left ((p.kids.map (·.toNat)).take k) = some (I2, lf) ∧
              St w F9 g h7 [rdH rb a c b lf ai ci (its ++ itemsP p ++ I2)] w') _ ⟨0, ai, ci, [], left, hfk, rfl, by omega, FLe.refl _, Agree.refl _ _, rfl, hrf0, by rw [List.append_nil]; exact (H.picks (L' := [_, _]) [1, 2] rfl (by decide)).join⟩ ?_
            clear H hrf0
            rintro m s w' ⟨k, ai, ci, I2, lf, h7, rfl, hk9, hle7, hA, e1, hrf, H⟩
            obtain ⟨j9, rfl⟩ := hA.env1 e1
            clear hA e1
            have hT7 := hT1.mono hle7
            have hr7 := hr1.mono hle7
            have hln := rdF_len b _ _ _ hrf
            dsimp only at hln
            by_cases hkt : k < p.kids.length
            · obtain ⟨b7, off7, l7, T7, fr7, e7, eb7, eg7⟩ := (hpd.mono hle7).getM (by decide) (by omega)
              subst e7
              have g7 : l7[off7 + (k : Int).toNat * 1]? = some (.int .u32 (p.kids[k].toNat : Nat)) := row_cell (row := cKid p.kids[k]) (eg7 (k : Int).toNat k hkt rfl) (q := 0) (by simp [cKid])
              clear eg7
              have hkd : p.kids[k].toNat < 4294967296 := UInt32.toNat_lt _
              have hsp : (p.kids.map (·.toNat)).take (k + 1) = (p.kids.map (·.toNat)).take k ++ [p.kids[k].toNat] := by
                rw [List.take_add_one, List.getElem?_map, List.getElem?_eq_getElem hkt]; rfl
              have hs2 : rdF b left ((p.kids.map (·.toNat)).take (k + 1)) = (rdF b lf [p.kids[k].toNat]).map fun s => (I2 ++ s.1, s.2) := by rw [hsp, rdF_app, hrf]; rfl
              have hdr : (p.kids.map (·.toNat)) = (p.kids.map (·.toNat)).take (k + 1) ++ (p.kids.map (·.toNat)).drop (k + 1) := (List.take_append_drop _ _).symm
              generalize p.kids[k].toNat = kid at g7 hkd hs2
              have hlen : (its ++ itemsP p ++ I2).length + 8 * lf ≤ 65536 := by simp only [List.length_append]; omega
              have hih := fun w HO => ih lf (by omega) (by omega) kid hkd ai ci (its ++ itemsP p ++ I2) h7 w hT7 hr7 hlen HO
              repeat' (first | ((first | refine WL.p rfl ?_ | refine WL.u ?_ | refine WL.g rfl rfl ?_ | refine WL.gu rfl ?_); first | (refine opk 1 rfl ?_; (refine ost_H (A := rdH _ _ _ _ _ _ _ _) H rfl (by (exact ixQ)) (fun HO => hih _ HO) rfl ?_; clear H; rintro vk wk hfk Lk ⟨a2, c2, i2, l2, rfl, hz, hcase⟩ hle H; simp only [List.cons_append, List.nil_append, List.eraseIdx_cons_zero, List.eraseIdx_cons_succ] at H)) | refine pvQ ?_ | (refine opk 3 rfl ?_; (refine ost_cmp rfl rfl rfl rfl (fun hc => ?_) (fun hc => ?_) <;> (simp only [cmpP] at hc; try exact prIQ))) | (refine opk 4 rfl ?_; (refine ost_cmp rfl rfl rfl rfl (fun hc => ?_) (fun hc => ?_) <;> (simp only [cmpP] at hc; try exact prIQ))) | (refine opk 8 rfl ?_; first | (refine ost_store1 H rfl rfl vlQ gvQ ixQ (by first | decide | (simp; omega) | (simp; done) | omega) ?_; clear H; intro wk H; simp only [List.set_cons_zero, List.set_cons_succ, Nat.reduceAdd] at H) | (refine ost_storeW H rfl rfl rfl rfl lQ ixQ lQ okQ ?_; clear H; intro wk H; simp only [List.set_cons_zero, List.set_cons_succ, Nat.reduceAdd] at H)) | (refine opk 9 rfl ?_; first | (refine ost_allocA H rfl ?_; clear H; intro bk wk H) | (refine ost_build1 H rfl rfl rfl evQ lsQ rfl ?_; clear H; intro bk wk H))) | refine Wc.seq ?_ | refine then_n ?_ | refine WL.nil ?_ | refine Wc.region ?_ | refine Wc.block ?_ | refine then_r ?_ | refine then_e ?_ | refine inb_e rfl ?_ | refine inb_o rfl ?_ | refine inb_n ?_ | refine inb_r ?_ | refine Wc.skip ?_ | refine Wc.exit ?_ | refine Wc.ret ?_ | refine Wc.cond_true rfl ?_ | refine Wc.cond_false rfl ?_ | (refine Wc.drawn (id := 13) 14 (by kernel_rfl) ?_) | refine WL.skp rfl rfl ?_ | refine WL.sku rfl ?_ | (refine rgs_nil ?_; intro vs wk hE; replace H := H.ext hE; clear hE) | refine RGs.skp (fun _ => rfl) rfl ?_ | (refine RGs.bq (fun _ => rfl) rfl (by intro vs w hE hP; have H := H.ext hE; first | exact dbQ | fail) (fun hc => ?_) (fun hc => ?_) <;> ((try simp only [cmpP, decide_eq_true_eq, decide_eq_false_iff_not, dcd_iff, dcd_no] at hc); try exact prDQ)) | refine RGs.pq (fun _ => rfl) rfl (by intro vs w hE hP; have H := H.ext hE; first | exact dvQ | fail) ?_)
              rcases hcase with ⟨r, hr9, rfl, rfl, rfl⟩ | ⟨rfl, hno⟩
              · repeat' (first | ((first | refine WL.p rfl ?_ | refine WL.u ?_ | refine WL.g rfl rfl ?_ | refine WL.gu rfl ?_); first | refine pvQ ?_ | (refine opk 3 rfl ?_; (refine ost_cmp rfl rfl rfl rfl (fun hc => ?_) (fun hc => ?_) <;> (simp only [cmpP] at hc; try exact prIQ))) | (refine opk 4 rfl ?_; (refine ost_cmp rfl rfl rfl rfl (fun hc => ?_) (fun hc => ?_) <;> (simp only [cmpP] at hc; try exact prIQ))) | (refine opk 8 rfl ?_; first | (refine ost_store1 H rfl rfl vlQ gvQ ixQ (by first | decide | (simp; omega) | (simp; done) | omega) ?_; clear H; intro wk H; simp only [List.set_cons_zero, List.set_cons_succ, Nat.reduceAdd] at H) | (refine ost_storeW H rfl rfl rfl rfl lQ ixQ lQ okQ ?_; clear H; intro wk H; simp only [List.set_cons_zero, List.set_cons_succ, Nat.reduceAdd] at H)) | (refine opk 9 rfl ?_; first | (refine ost_allocA H rfl ?_; clear H; intro bk wk H) | (refine ost_build1 H rfl rfl rfl evQ lsQ rfl ?_; clear H; intro bk wk H))) | refine Wc.seq ?_ | refine then_n ?_ | refine WL.nil ?_ | refine Wc.region ?_ | refine Wc.block ?_ | refine then_r ?_ | refine then_e ?_ | refine inb_e rfl ?_ | refine inb_o rfl ?_ | refine inb_n ?_ | refine inb_r ?_ | refine Wc.skip ?_ | refine Wc.exit ?_ | refine Wc.ret ?_ | refine Wc.cond_true rfl ?_ | refine Wc.cond_false rfl ?_ | (refine Wc.drawn (id := 13) 14 (by kernel_rfl) ?_) | refine WL.skp rfl rfl ?_ | refine WL.sku rfl ?_ | (refine rgs_nil ?_; intro vs wk hE; replace H := H.ext hE; clear hE) | refine RGs.skp (fun _ => rfl) rfl ?_ | (refine RGs.bq (fun _ => rfl) rfl (by intro vs w hE hP; have H := H.ext hE; first | exact dbQ | fail) (fun hc => ?_) (fun hc => ?_) <;> ((try simp only [cmpP, decide_eq_true_eq, decide_eq_false_iff_not, dcd_iff, dcd_no] at hc); try exact prDQ)) | refine RGs.pq (fun _ => rfl) rfl (by intro vs w hE hP; have H := H.ext hE; first | exact dvQ | fail) ?_)
                exact ⟨p.kids.length - (k + 1), by omega, k + 1, _, _, I2 ++ r.1, r.2, _, rfl, by omega, hle7.trans (by assumption), by (repeat' (first | exact Agree.refl _ _ | exact Agree.havoc | refine Agree.upd rfl ?_ | refine Agree.hav2 rfl ?_)), rfl, by rw [hs2, hr9]; rfl, by rw [← List.append_assoc]; exact H⟩
              · repeat' (first | ((first | refine WL.p rfl ?_ | refine WL.u ?_ | refine WL.g rfl rfl ?_ | refine WL.gu rfl ?_); first | refine pvQ ?_ | (refine opk 3 rfl ?_; (refine ost_cmp rfl rfl rfl rfl (fun hc => ?_) (fun hc => ?_) <;> (simp only [cmpP] at hc; try exact prIQ))) | (refine opk 4 rfl ?_; (refine ost_cmp rfl rfl rfl rfl (fun hc => ?_) (fun hc => ?_) <;> (simp only [cmpP] at hc; try exact prIQ))) | (refine opk 8 rfl ?_; first | (refine ost_store1 H rfl rfl vlQ gvQ ixQ (by first | decide | (simp; omega) | (simp; done) | omega) ?_; clear H; intro wk H; simp only [List.set_cons_zero, List.set_cons_succ, Nat.reduceAdd] at H) | (refine ost_storeW H rfl rfl rfl rfl lQ ixQ lQ okQ ?_; clear H; intro wk H; simp only [List.set_cons_zero, List.set_cons_succ, Nat.reduceAdd] at H)) | (refine opk 9 rfl ?_; first | (refine ost_allocA H rfl ?_; clear H; intro bk wk H) | (refine ost_build1 H rfl rfl rfl evQ lsQ rfl ?_; clear H; intro bk wk H))) | refine Wc.seq ?_ | refine then_n ?_ | refine WL.nil ?_ | refine Wc.region ?_ | refine Wc.block ?_ | refine then_r ?_ | refine then_e ?_ | refine inb_e rfl ?_ | refine inb_o rfl ?_ | refine inb_n ?_ | refine inb_r ?_ | refine Wc.skip ?_ | refine Wc.exit ?_ | refine Wc.ret ?_ | refine Wc.cond_true rfl ?_ | refine Wc.cond_false rfl ?_ | (refine Wc.drawn (id := 13) 14 (by kernel_rfl) ?_) | refine WL.skp rfl rfl ?_ | refine WL.sku rfl ?_ | (refine rgs_nil ?_; intro vs wk hE; replace H := H.ext hE; clear hE) | refine RGs.skp (fun _ => rfl) rfl ?_ | (refine RGs.bq (fun _ => rfl) rfl (by intro vs w hE hP; have H := H.ext hE; first | exact dbQ | fail) (fun hc => ?_) (fun hc => ?_) <;> ((try simp only [cmpP, decide_eq_true_eq, decide_eq_false_iff_not, dcd_iff, dcd_no] at hc); try exact prDQ)) | refine RGs.pq (fun _ => rfl) rfl (by intro vs w hE hP; have H := H.ext hE; first | exact dvQ | fail) ?_)
                refine fn_ret1 (v := .bool _) rfl rfl ⟨_, _, H, _, _, _, _, rfl, hz, .inr ⟨rfl, ?_⟩⟩
                rw [rdF_page hpp, List.append_nil, hdr, rdF_app, hs2, hno]; rfl
            · obtain rfl : k = p.kids.length := by omega
              repeat' (first | ((first | refine WL.p rfl ?_ | refine WL.u ?_ | refine WL.g rfl rfl ?_ | refine WL.gu rfl ?_); first | refine pvQ ?_ | (refine opk 3 rfl ?_; (refine ost_cmp rfl rfl rfl rfl (fun hc => ?_) (fun hc => ?_) <;> (simp only [cmpP] at hc; try exact prIQ))) | (refine opk 4 rfl ?_; (refine ost_cmp rfl rfl rfl rfl (fun hc => ?_) (fun hc => ?_) <;> (simp only [cmpP] at hc; try exact prIQ))) | (refine opk 8 rfl ?_; first | (refine ost_store1 H rfl rfl vlQ gvQ ixQ (by first | decide | (simp; omega) | (simp; done) | omega) ?_; clear H; intro wk H; simp only [List.set_cons_zero, List.set_cons_succ, Nat.reduceAdd] at H) | (refine ost_storeW H rfl rfl rfl rfl lQ ixQ lQ okQ ?_; clear H; intro wk H; simp only [List.set_cons_zero, List.set_cons_succ, Nat.reduceAdd] at H)) | (refine opk 9 rfl ?_; first | (refine ost_allocA H rfl ?_; clear H; intro bk wk H) | (refine ost_build1 H rfl rfl rfl evQ lsQ rfl ?_; clear H; intro bk wk H))) | refine Wc.seq ?_ | refine then_n ?_ | refine WL.nil ?_ | refine Wc.region ?_ | refine Wc.block ?_ | refine then_r ?_ | refine then_e ?_ | refine inb_e rfl ?_ | refine inb_o rfl ?_ | refine inb_n ?_ | refine inb_r ?_ | refine Wc.skip ?_ | refine Wc.exit ?_ | refine Wc.ret ?_ | refine Wc.cond_true rfl ?_ | refine Wc.cond_false rfl ?_ | (refine Wc.drawn (id := 13) 14 (by kernel_rfl) ?_) | refine WL.skp rfl rfl ?_ | refine WL.sku rfl ?_ | (refine rgs_nil ?_; intro vs wk hE; replace H := H.ext hE; clear hE) | refine RGs.skp (fun _ => rfl) rfl ?_ | (refine RGs.bq (fun _ => rfl) rfl (by intro vs w hE hP; have H := H.ext hE; first | exact dbQ | fail) (fun hc => ?_) (fun hc => ?_) <;> ((try simp only [cmpP, decide_eq_true_eq, decide_eq_false_iff_not, dcd_iff, dcd_no] at hc); try exact prDQ)) | refine RGs.pq (fun _ => rfl) rfl (by intro vs w hE hP; have H := H.ext hE; first | exact dvQ | fail) ?_)
              refine fn_ret1 (v := .bool _) rfl rfl ⟨_, _, H, _, _, _, _, rfl, by simp only [List.length_append]; omega, .inl ⟨(itemsP p ++ I2, lf), ?_, rfl, by rw [List.append_assoc], rfl⟩⟩
              have htk2 : (p.kids.map (·.toNat)).take p.kids.length = p.kids.map (·.toNat) := List.take_of_length_le (by simp)
              rw [rdF_page hpp, List.append_nil, ← htk2, hrf]; rfl
      · repeat' (first | ((first | refine WL.p rfl ?_ | refine WL.u ?_ | refine WL.g rfl rfl ?_ | refine WL.gu rfl ?_); first | (refine opk 1 rfl ?_; (refine ost_C H rfl (hFF _ _ (sat_full _) (hT.full H) (by rw [List.length_drop]) ((hr.full H).drop (by omega))) rfl ?_; clear H; rintro vk wk hfk Lk ⟨a1, c1, rfl, -, rfl⟩ H; simp only [List.cons_append, List.nil_append] at H)) | refine pvQ ?_ | (refine opk 3 rfl ?_; (refine ost_cmp rfl rfl rfl rfl (fun hc => ?_) (fun hc => ?_) <;> (simp only [cmpP] at hc; try exact prIQ))) | (refine opk 4 rfl ?_; (refine ost_cmp rfl rfl rfl rfl (fun hc => ?_) (fun hc => ?_) <;> (simp only [cmpP] at hc; try exact prIQ))) | (refine opk 8 rfl ?_; first | (refine ost_store1 H rfl rfl vlQ gvQ ixQ (by first | decide | (simp; omega) | (simp; done) | omega) ?_; clear H; intro wk H; simp only [List.set_cons_zero, List.set_cons_succ, Nat.reduceAdd] at H) | (refine ost_storeW H rfl rfl rfl rfl lQ ixQ lQ okQ ?_; clear H; intro wk H; simp only [List.set_cons_zero, List.set_cons_succ, Nat.reduceAdd] at H)) | (refine opk 9 rfl ?_; first | (refine ost_allocA H rfl ?_; clear H; intro bk wk H) | (refine ost_build1 H rfl rfl rfl evQ lsQ rfl ?_; clear H; intro bk wk H))) | refine Wc.seq ?_ | refine then_n ?_ | refine WL.nil ?_ | refine Wc.region ?_ | refine Wc.block ?_ | refine then_r ?_ | refine then_e ?_ | refine inb_e rfl ?_ | refine inb_o rfl ?_ | refine inb_n ?_ | refine inb_r ?_ | refine Wc.skip ?_ | refine Wc.exit ?_ | refine Wc.ret ?_ | refine Wc.cond_true rfl ?_ | refine Wc.cond_false rfl ?_ | (refine Wc.drawn (id := 13) 14 (by kernel_rfl) ?_) | refine WL.skp rfl rfl ?_ | refine WL.sku rfl ?_ | (refine rgs_nil ?_; intro vs wk hE; replace H := H.ext hE; clear hE) | refine RGs.skp (fun _ => rfl) rfl ?_ | (refine RGs.bq (fun _ => rfl) rfl (by intro vs w hE hP; have H := H.ext hE; first | exact dbQ | fail) (fun hc => ?_) (fun hc => ?_) <;> ((try simp only [cmpP, decide_eq_true_eq, decide_eq_false_iff_not, dcd_iff, dcd_no] at hc); try exact prDQ)) | refine RGs.pq (fun _ => rfl) rfl (by intro vs w hE hP; have H := H.ext hE; first | exact dvQ | fail) ?_)
        all_goals first | (exfalso; omega) | (rw [hlf] at H; exact fn_ret1 (v := .bool _) rfl rfl ⟨_, _, (H.picks [1, 2] rfl (by decide)).join, _, _, _, _, rfl, by omega, .inr ⟨rfl, rdF_no (hpg1 he) _ _⟩⟩)
    · repeat' (first | ((first | refine WL.p rfl ?_ | refine WL.u ?_ | refine WL.g rfl rfl ?_ | refine WL.gu rfl ?_); first | refine pvQ ?_ | (refine opk 3 rfl ?_; (refine ost_cmp rfl rfl rfl rfl (fun hc => ?_) (fun hc => ?_) <;> (simp only [cmpP] at hc; try exact prIQ))) | (refine opk 4 rfl ?_; (refine ost_cmp rfl rfl rfl rfl (fun hc => ?_) (fun hc => ?_) <;> (simp only [cmpP] at hc; try exact prIQ))) | (refine opk 8 rfl ?_; first | (refine ost_store1 H rfl rfl vlQ gvQ ixQ (by first | decide | (simp; omega) | (simp; done) | omega) ?_; clear H; intro wk H; simp only [List.set_cons_zero, List.set_cons_succ, Nat.reduceAdd] at H) | (refine ost_storeW H rfl rfl rfl rfl lQ ixQ lQ okQ ?_; clear H; intro wk H; simp only [List.set_cons_zero, List.set_cons_succ, Nat.reduceAdd] at H)) | (refine opk 9 rfl ?_; first | (refine ost_allocA H rfl ?_; clear H; intro bk wk H) | (refine ost_build1 H rfl rfl rfl evQ lsQ rfl ?_; clear H; intro bk wk H))) | refine Wc.seq ?_ | refine then_n ?_ | refine WL.nil ?_ | refine Wc.region ?_ | refine Wc.block ?_ | refine then_r ?_ | refine then_e ?_ | refine inb_e rfl ?_ | refine inb_o rfl ?_ | refine inb_n ?_ | refine inb_r ?_ | refine Wc.skip ?_ | refine Wc.exit ?_ | refine Wc.ret ?_ | refine Wc.cond_true rfl ?_ | refine Wc.cond_false rfl ?_ | (refine Wc.drawn (id := 13) 14 (by kernel_rfl) ?_) | refine WL.skp rfl rfl ?_ | refine WL.sku rfl ?_ | (refine rgs_nil ?_; intro vs wk hE; replace H := H.ext hE; clear hE) | refine RGs.skp (fun _ => rfl) rfl ?_ | (refine RGs.bq (fun _ => rfl) rfl (by intro vs w hE hP; have H := H.ext hE; first | exact dbQ | fail) (fun hc => ?_) (fun hc => ?_) <;> ((try simp only [cmpP, decide_eq_true_eq, decide_eq_false_iff_not, dcd_iff, dcd_no] at hc); try exact prDQ)) | refine RGs.pq (fun _ => rfl) rfl (by intro vs w hE hP; have H := H.ext hE; first | exact dvQ | fail) ?_)
      all_goals first | (exfalso; omega) | exact fn_ret1 (v := .bool _) rfl rfl ⟨_, _, H.join, _, _, _, _, rfl, by omega, .inr ⟨rfl, rdF_no (pageAt_no1 hib) _ _⟩⟩
end Go.Tg

