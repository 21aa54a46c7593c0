/- Contracts of Go functions that the laws reach: what each call answers and leaves in memory, for all arguments within the bounds that each theorem names. -/
import Derived.Test.YtajfhoeejeadkaaDoorInst
import Derived.Test.YtajfhoeejeadkaaDoorAuto
import Derived.Test.YtajfhoeejeadkaaDoorO6
import Derived.Test.YtajfhoeejeadkaaDoorPick
set_option linter.unusedVariables false
set_option linter.unusedSimpArgs false
set_option maxRecDepth 100000
set_option maxHeartbeats 4000000
namespace Go.Tg
open Go Go.Proofs
theorem seg_wrapped (kind : Nat) (hk : kind < 1000) (fc bc : Nat) [Fun Tryd.prog fc] (F : List UInt8) (hF : F.length ≤ 4000) (h0 : FH) (w : World) (hs : Sat h0 w) (hT : Half h0)
    (hlay : ∀ (b : Nat) (v : Value) (xs : List UInt8) (g : FH) (w : World), FLe h0 g → xs.length ≤ 20 → St w (wr b true 0 v xs).fp g g [wr b true 0 v xs] w → Spec Tryd.prog fc #[pt b, pt bc] w (wr b true 0 v xs).fp g (fun v' h' L' => v' = .tuple #[] ∧ ∃ v2, L' = [wr b true 0 v2 (xs ++ F)])) :
    Spec Tryd.prog 76 #[.int .u64 kind, .func (.func fc) [].toArray [pt bc].toArray] w [] h0 (fun v h' L' => ∃ a' c', v = .slice a' (wrapB (putB kind ++ F)).length c' ∧ L' = [own8 v 5 (wrapB (putB kind ++ F))]) := by
  have H := St.start hs
  have hp := putB_len kind
  have hl : (putB kind ++ F).length ≤ 4011 := by rw [List.length_append]; omega
  unfold Spec
  refine calls_of Tryd.func76 rfl Tryd.ntmps76 (by simp) ?_
  repeat' (first | ((first | refine WL.p rfl ?_ | refine WL.u ?_); first | (refine opk 1 rfl ?_; first | (refine ost_C H rfl (pack_New _ _ (sat_full _)) rfl ?_; clear H; rintro vk wk hfk Lk ⟨b1, rfl, rfl⟩ H; simp only [List.cons_append, List.nil_append] at H) | (refine ost_O (A := wr _ _ _ _ _) H rfl (by (exact ixQ)) (fun HO => pack_NumK _ _ _ _ _ HO kind (by omega) (by decide)) rfl ?_; clear H; rintro vk wk hfk Lk ⟨rfl, v3, rfl⟩ H; simp only [List.cons_append, List.nil_append, List.eraseIdx_cons_zero, List.eraseIdx_cons_succ] at H) | (refine ost_OE (A := wr _ _ _ _ _) H (ent_v rfl rfl rfl) (by (exact ixQ)) (fun HO => hlay _ _ _ _ _ (H.less ixQ) (by (try simp only [List.nil_append]); omega) HO) ?_; clear H; rintro vk wk hfk Lk ⟨rfl, v4, rfl⟩ H; simp only [List.cons_append, List.nil_append, List.eraseIdx_cons_zero, List.eraseIdx_cons_succ] at H) | (refine ost_O (A := wr _ _ _ _ _) H rfl (by (exact ixQ)) (fun HO => pack_All0 _ _ _ _ _ _ HO (by (try simp only [List.nil_append]); omega) rfl) rfl ?_; clear H; rintro vk wk hfk Lk ⟨a4, c4, rfl, _, rfl⟩ H; simp only [List.cons_append, List.nil_append, List.eraseIdx_cons_zero, List.eraseIdx_cons_succ] at H) | (refine ost_C H rfl (frame_WrapK _ _ _ (putB kind ++ F) _ (sat_full _) (hT.full H) (H.own8rd (i := 0) rfl) (by omega)) rfl ?_; clear H; rintro vk wk hfk Lk ⟨a5, c5, rfl, _, rfl⟩ H; simp only [List.cons_append, List.nil_append] at H)) | refine pvQ ?_) | refine Wc.seq ?_ | refine then_n ?_ | refine WL.nil ?_ | refine Wc.region ?_ | refine Wc.block ?_ | refine then_r ?_ | refine then_e ?_ | refine inb_e rfl ?_ | refine inb_o rfl ?_ | refine inb_n ?_ | refine inb_r ?_ | refine Wc.skip ?_ | refine Wc.exit ?_ | refine Wc.ret ?_ | refine Wc.cond_true rfl ?_ | refine Wc.cond_false rfl ?_)
  exact fn_ret1 (v := .slice _ _ _) rfl rfl ⟨_, _, H.pick 0 rfl, _, _, rfl, rfl⟩
theorem seg_Head1 (id : UInt32) (b bc : Nat) (v : Value) (xs : List UInt8) (g : FH) (w : World) (HO : St w (wr b true 0 v xs).fp g g [wr b true 0 v xs] w) (hx : xs.length ≤ 20) {T : TypeId} {fr : Nat × Nat} (hb : g bc = some (.cells [.int .u32 id.toNat].toArray T fr)) :
    Spec Tryd.prog 83 #[pt b, pt bc] w (wr b true 0 v xs).fp g (fun v' h' L' => v' = .tuple #[] ∧ ∃ v2, L' = [wr b true 0 v2 (xs ++ putB id.toNat)]) := by
  have H := HO
  have hi := id.toNat_lt
  unfold Spec
  refine calls_of Tryd.func83 rfl Tryd.ntmps83 (by simp) ?_
  repeat' (first | ((first | refine WL.p rfl ?_ | refine WL.u ?_); first | (refine opk 1 rfl ?_; (refine ost_O (A := wr _ _ _ _ _) H rfl (by (exact ixQ)) (fun HO => pack_NumK _ _ _ _ _ HO id.toNat (by omega) (by omega)) rfl ?_; clear H; rintro vk wk hfk Lk ⟨rfl, v3, rfl⟩ H; simp only [List.cons_append, List.nil_append, List.eraseIdx_cons_zero, List.eraseIdx_cons_succ] at H)) | refine pvQ ?_) | refine Wc.seq ?_ | refine then_n ?_ | refine WL.nil ?_ | refine Wc.region ?_ | refine Wc.block ?_ | refine then_r ?_ | refine then_e ?_ | refine inb_e rfl ?_ | refine inb_o rfl ?_ | refine inb_n ?_ | refine inb_r ?_ | refine Wc.skip ?_ | refine Wc.exit ?_ | refine Wc.ret ?_ | refine Wc.cond_true rfl ?_ | refine Wc.cond_false rfl ?_)
  exact fn_end0 rfl ⟨_, _, H, rfl, _, rfl⟩
theorem seg_Foot1 (n : Nat) (hn : n ≤ 4096) (b bc : Nat) (v : Value) (xs : List UInt8) (g : FH) (w : World) (HO : St w (wr b true 0 v xs).fp g g [wr b true 0 v xs] w) (hx : xs.length ≤ 20) {T : TypeId} {fr : Nat × Nat} (hb : g bc = some (.cells [.int .i64 n].toArray T fr)) :
    Spec Tryd.prog 81 #[pt b, pt bc] w (wr b true 0 v xs).fp g (fun v' h' L' => v' = .tuple #[] ∧ ∃ v2, L' = [wr b true 0 v2 (xs ++ putB n)]) := by
  have H := HO
  unfold Spec
  refine calls_of Tryd.func81 rfl Tryd.ntmps81 (by simp) ?_
  repeat' (first | ((first | refine WL.p rfl ?_ | refine WL.u ?_); first | (refine opk 1 rfl ?_; (refine ost_O (A := wr _ _ _ _ _) H rfl (by (exact ixQ)) (fun HO => pack_NumK _ _ _ _ _ HO n (by omega) (by omega)) rfl ?_; clear H; rintro vk wk hfk Lk ⟨rfl, v3, rfl⟩ H; simp only [List.cons_append, List.nil_append, List.eraseIdx_cons_zero, List.eraseIdx_cons_succ] at H)) | refine pvQ ?_) | refine Wc.seq ?_ | refine then_n ?_ | refine WL.nil ?_ | refine Wc.region ?_ | refine Wc.block ?_ | refine then_r ?_ | refine then_e ?_ | refine inb_e rfl ?_ | refine inb_o rfl ?_ | refine inb_n ?_ | refine inb_r ?_ | refine Wc.skip ?_ | refine Wc.exit ?_ | refine Wc.ret ?_ | refine Wc.cond_true rfl ?_ | refine Wc.cond_false rfl ?_)
  exact fn_end0 rfl ⟨_, _, H, rfl, _, rfl⟩
theorem seg_Record1 (ys : List UInt8) (hy : ys.length ≤ 1000) (a : Option Addr) (c : Nat) (b bc : Nat) (v : Value) (xs : List UInt8) (g : FH) (w : World) (HO : St w (wr b true 0 v xs).fp g g [wr b true 0 v xs] w) (hx : xs.length ≤ 20) {T : TypeId} {fr : Nat × Nat} (hb : g bc = some (.cells [.slice a ys.length c].toArray T fr)) (hr : BS g a c ys) :
    Spec Tryd.prog 77 #[pt b, pt bc] w (wr b true 0 v xs).fp g (fun v' h' L' => v' = .tuple #[] ∧ ∃ v2, L' = [wr b true 0 v2 (xs ++ fieldB ys)]) := by
  have H := HO
  have hf := fieldB_len ys
  have hB : ∀ (b : Nat) (v : Value) (g : FH) (w : World) (HO : St w (wr b true 0 v xs).fp g g [wr b true 0 v xs] w) (hr : BS g a c ys), Spec Tryd.prog 78 #[pt b, .slice a ys.length c] w (wr b true 0 v xs).fp g (fun v' h' L' => v' = .int .i64 0 ∧ ∃ v2, L' = [wr b true 0 v2 (xs ++ fieldB ys)]) := fun b v g w HO hr => by
    have := pack_Bytes b true 0 v xs g w HO a c ys hr (by omega) (by omega)
    rw [layE_ok (by omega)] at this; exact this
  unfold Spec
  refine calls_of Tryd.func77 rfl Tryd.ntmps77 (by simp) ?_
  repeat' (first | ((first | refine WL.p rfl ?_ | refine WL.u ?_); first | (refine opk 1 rfl ?_; (refine ost_H (A := wr _ _ _ _ _) H rfl (by (exact ixQ)) (fun HO => hB _ _ _ _ HO hr) rfl ?_; clear H; rintro vk wk hfk Lk ⟨rfl, v3, rfl⟩ hle H; simp only [List.cons_append, List.nil_append, List.eraseIdx_cons_zero, List.eraseIdx_cons_succ] at H)) | refine pvQ ?_) | refine Wc.seq ?_ | refine then_n ?_ | refine WL.nil ?_ | refine Wc.region ?_ | refine Wc.block ?_ | refine then_r ?_ | refine then_e ?_ | refine inb_e rfl ?_ | refine inb_o rfl ?_ | refine inb_n ?_ | refine inb_r ?_ | refine Wc.skip ?_ | refine Wc.exit ?_ | refine Wc.ret ?_ | refine Wc.cond_true rfl ?_ | refine Wc.cond_false rfl ?_)
  exact fn_end0 rfl ⟨_, _, H, rfl, _, rfl⟩
theorem seg_Head (id : UInt32) (h0 : FH) (w : World) (hs : Sat h0 w) (hT : Half h0) :
    Spec Tryd.prog 38 #[.int .u32 id.toNat] w [] h0 (fun v h' L' => ∃ a' c', v = .slice a' (headB id).length c' ∧ L' = [own8 v 5 (headB id)]) := by
  have H := St.start hs
  have hl := putB_len id.toNat
  unfold Spec
  refine calls_of Tryd.func38 rfl Tryd.ntmps38 (by simp) ?_
  repeat' (first | ((first | refine WL.p rfl ?_ | refine WL.u ?_); first | refine pvQ ?_ | (refine opk 9 rfl ?_; (refine ost_boxq H rfl ?_; clear H; intro bk wk H))) | refine Wc.seq ?_ | refine then_n ?_ | refine WL.nil ?_ | refine Wc.region ?_ | refine Wc.block ?_ | refine then_r ?_ | refine then_e ?_ | refine inb_e rfl ?_ | refine inb_o rfl ?_ | refine inb_n ?_ | refine inb_r ?_ | refine Wc.skip ?_ | refine Wc.exit ?_ | refine Wc.ret ?_ | refine Wc.cond_true rfl ?_ | refine Wc.cond_false rfl ?_)
  obtain ⟨h1, hle1, hb1, H⟩ := H.freezeB
  repeat' (first | ((first | refine WL.p rfl ?_ | refine WL.u ?_); first | (refine opk 1 rfl ?_; (refine ost_Sk H rfl (seg_wrapped 1 (by decide) _ _ (putB id.toNat) (by omega) _ _ H.sat (hT.mono hle1) (fun b v xs g w hl hx HO => seg_Head1 id b _ v xs g w HO hx (hl _ _ hb1))) rfl ?_; clear H; rintro vk wk hfk Lk ⟨a5, c5, rfl, rfl⟩ hle H; simp only [List.cons_append, List.nil_append] at H)) | refine pvQ ?_ | (refine opk 9 rfl ?_; (refine ost_boxq H rfl ?_; clear H; intro bk wk H))) | refine Wc.seq ?_ | refine then_n ?_ | refine WL.nil ?_ | refine Wc.region ?_ | refine Wc.block ?_ | refine then_r ?_ | refine then_e ?_ | refine inb_e rfl ?_ | refine inb_o rfl ?_ | refine inb_n ?_ | refine inb_r ?_ | refine Wc.skip ?_ | refine Wc.exit ?_ | refine Wc.ret ?_ | refine Wc.cond_true rfl ?_ | refine Wc.cond_false rfl ?_)
  exact fn_ret1 (v := .slice _ _ _) rfl rfl ⟨_, _, H.pick 0 rfl, _, _, rfl, rfl⟩
noncomputable def outK (n : Int) : List UInt8 × Int := if 0 ≤ n ∧ n ≤ 4096 then (footB n.toNat, 0) else ([], 2)
theorem seg_Foot (n : Int) (n1 : -9223372036854775808 ≤ n) (n2 : n ≤ 9223372036854775807) (h0 : FH) (w : World) (hs : Sat h0 w) (hT : Half h0) :
    Spec Tryd.prog 36 #[.int .i64 n] w [] h0 (fun v h' L' => ∃ a' c', v = .tuple #[.slice a' (outK n).1.length c', .int .i64 (outK n).2] ∧ L' = [own8 (.slice a' (outK n).1.length c') 5 (outK n).1]) := by
  have H := St.start hs
  unfold Spec
  refine calls_of Tryd.func36 rfl Tryd.ntmps36 (by simp) ?_
  by_cases hn : 0 ≤ n ∧ n ≤ 4096
  · rw [show outK n = (footB n.toNat, 0) from if_pos hn]
    obtain ⟨m, rfl⟩ := Int.eq_ofNat_of_zero_le hn.1
    have hm : m ≤ 4096 := by omega
    have hl := putB_len m
    rw [show ((m : Int)).toNat = m from rfl]
    repeat' (first | ((first | refine WL.p rfl ?_ | refine WL.u ?_ | refine WL.g rfl rfl ?_ | refine WL.gu rfl ?_); first | refine pvQ ?_ | (refine opk 3 rfl ?_; (refine ost_cmp rfl rfl rfl rfl (fun hc => ?_) (fun hc => ?_) <;> (simp only [cmpP] at hc; try exact prIQ))) | (refine opk 4 rfl ?_; (refine ost_cmp rfl rfl rfl rfl (fun hc => ?_) (fun hc => ?_) <;> (simp only [cmpP] at hc; try exact prIQ))) | (refine opk 9 rfl ?_; (refine ost_boxq H rfl ?_; clear H; intro bk wk H))) | refine Wc.seq ?_ | refine then_n ?_ | refine WL.nil ?_ | refine Wc.region ?_ | refine Wc.block ?_ | refine then_r ?_ | refine then_e ?_ | refine inb_e rfl ?_ | refine inb_o rfl ?_ | refine inb_n ?_ | refine inb_r ?_ | refine Wc.skip ?_ | refine Wc.exit ?_ | refine Wc.ret ?_ | refine Wc.cond_true rfl ?_ | refine Wc.cond_false rfl ?_ | refine WL.skp rfl rfl ?_ | refine WL.sku rfl ?_)
    obtain ⟨h1, hle1, hb1, H⟩ := H.freezeB
    repeat' (first | ((first | refine WL.p rfl ?_ | refine WL.u ?_ | refine WL.g rfl rfl ?_ | refine WL.gu rfl ?_); first | (refine opk 1 rfl ?_; (refine ost_Sk H rfl (seg_wrapped 3 (by decide) _ _ (putB m) (by omega) _ _ H.sat (hT.mono hle1) (fun b v xs g w hl hx HO => seg_Foot1 m hm b _ v xs g w HO hx (hl _ _ hb1))) rfl ?_; clear H; rintro vk wk hfk Lk ⟨a5, c5, rfl, rfl⟩ hle H; simp only [List.cons_append, List.nil_append] at H)) | refine pvQ ?_ | (refine opk 3 rfl ?_; (refine ost_cmp rfl rfl rfl rfl (fun hc => ?_) (fun hc => ?_) <;> (simp only [cmpP] at hc; try exact prIQ))) | (refine opk 4 rfl ?_; (refine ost_cmp rfl rfl rfl rfl (fun hc => ?_) (fun hc => ?_) <;> (simp only [cmpP] at hc; try exact prIQ))) | (refine opk 9 rfl ?_; (refine ost_boxq H rfl ?_; clear H; intro bk wk H))) | refine Wc.seq ?_ | refine then_n ?_ | refine WL.nil ?_ | refine Wc.region ?_ | refine Wc.block ?_ | refine then_r ?_ | refine then_e ?_ | refine inb_e rfl ?_ | refine inb_o rfl ?_ | refine inb_n ?_ | refine inb_r ?_ | refine Wc.skip ?_ | refine Wc.exit ?_ | refine Wc.ret ?_ | refine Wc.cond_true rfl ?_ | refine Wc.cond_false rfl ?_ | refine WL.skp rfl rfl ?_ | refine WL.sku rfl ?_)
    exact fn_ret2 (v1 := .slice _ _ _) (v2 := .int _ _) rfl rfl rfl ⟨_, _, H.pick 0 rfl, _, _, rfl, rfl⟩
  · rw [show outK n = ([], 2) from if_neg hn]
    repeat' (first | ((first | refine WL.p rfl ?_ | refine WL.u ?_ | refine WL.g rfl rfl ?_ | refine WL.gu rfl ?_); first | refine pvQ ?_ | (refine opk 3 rfl ?_; (refine ost_cmp rfl rfl rfl rfl (fun hc => ?_) (fun hc => ?_) <;> (simp only [cmpP] at hc; try exact prIQ))) | (refine opk 4 rfl ?_; (refine ost_cmp rfl rfl rfl rfl (fun hc => ?_) (fun hc => ?_) <;> (simp only [cmpP] at hc; try exact prIQ))) | (refine opk 9 rfl ?_; (refine ost_boxq H rfl ?_; clear H; intro bk wk H))) | refine Wc.seq ?_ | refine then_n ?_ | refine WL.nil ?_ | refine Wc.region ?_ | refine Wc.block ?_ | refine then_r ?_ | refine then_e ?_ | refine inb_e rfl ?_ | refine inb_o rfl ?_ | refine inb_n ?_ | refine inb_r ?_ | refine Wc.skip ?_ | refine Wc.exit ?_ | refine Wc.ret ?_ | refine Wc.cond_true rfl ?_ | refine Wc.cond_false rfl ?_ | refine WL.skp rfl rfl ?_ | refine WL.sku rfl ?_)
    all_goals exact fn_ret2 (v1 := .slice _ _ _) (v2 := .int _ _) rfl rfl rfl ⟨_, _, (H.nil8 5).pick 0 rfl, _, _, rfl, rfl⟩
noncomputable def outC (o : OpT) : List UInt8 × Int := if rightO o 16 = true then (recB o, 0) else ([], 2)
theorem seg_Record (o : OpT) (h0 : FH) (w : World) (hs : Sat h0 w) (hT : Half h0) :
    Spec Tryd.prog 34 #[.agg (cOp o).toArray] w [] h0 (fun v h' L' => ∃ a' c', v = .tuple #[.slice a' (outC o).1.length c', .int .i64 (outC o).2] ∧ L' = [own8 (.slice a' (outC o).1.length c') 5 (outC o).1]) := by
  have H := St.start hs
  have lo := cOp_len o
  unfold Spec
  refine calls_of Tryd.func34 rfl Tryd.ntmps34 (by simp) ?_
  cases hr : rightO o 16 with
  | true =>
    have hl := encO_len o
    have hf := fieldB_len (encO o)
    have hE : ∀ w, Sat h0 w → Spec Tryd.prog 75 #[.agg (cOp o).toArray] w [] h0 (fun v h' L' => ∃ a' c', v = .tuple #[.slice a' (encO o).length c', .int .i64 0] ∧ h' = h0 ∧ L' = [own8 (.slice a' (encO o).length c') 5 (encO o)]) := fun w hs => by
      have := op_Encode h0 o w hs
      rw [show outO o = (encO o, 0) by unfold outO; rw [if_pos hr]] at this; exact this
    rw [show outC o = (recB o, 0) by unfold outC; rw [if_pos hr]]
    repeat' (first | ((first | refine WL.p rfl ?_ | refine WL.u ?_); first | (refine opk 1 rfl ?_; (refine ost_Sk H rfl (hE _ H.sat) rfl ?_; clear H; rintro vk wk hfk Lk ⟨a1, c1, rfl, e9, rfl⟩ hle H; simp only [List.cons_append, List.nil_append] at H)) | refine pvQ ?_ | (refine opk 3 rfl ?_; (refine ost_cmp rfl rfl rfl rfl (fun hc => ?_) (fun hc => ?_) <;> (simp only [cmpP] at hc; try exact prIQ))) | (refine opk 4 rfl ?_; (refine ost_cmp rfl rfl rfl rfl (fun hc => ?_) (fun hc => ?_) <;> (simp only [cmpP] at hc; try exact prIQ))) | (refine opk 8 rfl ?_; (refine ost_store1 H rfl rfl vlQ gvQ ixQ (by first | decide | (simp; omega) | (simp; done) | omega) ?_; clear H; intro wk H; simp only [List.set_cons_zero, List.set_cons_succ, Nat.reduceAdd] at H)) | (refine opk 9 rfl ?_; first | (refine ost_boxq H rfl ?_; clear H; intro bk wk H) | (refine ost_alloc1 H rfl rfl ?_; clear H; intro bk wk H))) | refine Wc.seq ?_ | refine then_n ?_ | refine WL.nil ?_ | refine Wc.region ?_ | refine Wc.block ?_ | refine then_r ?_ | refine then_e ?_ | refine inb_e rfl ?_ | refine inb_o rfl ?_ | refine inb_n ?_ | refine inb_r ?_ | refine Wc.skip ?_ | refine Wc.exit ?_ | refine Wc.ret ?_ | refine Wc.cond_true rfl ?_ | refine Wc.cond_false rfl ?_)
    replace e9 := e9.symm
    subst e9
    obtain ⟨h1, hle1, hb1, H⟩ := H.freezeB
    obtain ⟨a6, c6, h4, e6, hle4, hr6, H⟩ := H.freeze8
    cases e6
    repeat' (first | ((first | refine WL.p rfl ?_ | refine WL.u ?_); first | (refine opk 1 rfl ?_; (refine ost_Sk H rfl (seg_wrapped 2 (by decide) _ _ (fieldB (encO o)) (by omega) _ _ H.sat ((hT.mono hle1).mono hle4) (fun b v xs g w hl hx HO => seg_Record1 (encO o) (by omega) _ _ b _ v xs g w HO hx (hl _ _ (hle4 _ _ hb1)) (hr6.mono hl))) rfl ?_; clear H; rintro vk wk hfk Lk ⟨a5, c5, rfl, rfl⟩ hle H; simp only [List.cons_append, List.nil_append] at H)) | refine pvQ ?_ | (refine opk 3 rfl ?_; (refine ost_cmp rfl rfl rfl rfl (fun hc => ?_) (fun hc => ?_) <;> (simp only [cmpP] at hc; try exact prIQ))) | (refine opk 4 rfl ?_; (refine ost_cmp rfl rfl rfl rfl (fun hc => ?_) (fun hc => ?_) <;> (simp only [cmpP] at hc; try exact prIQ))) | (refine opk 8 rfl ?_; (refine ost_store1 H rfl rfl vlQ gvQ ixQ (by first | decide | (simp; omega) | (simp; done) | omega) ?_; clear H; intro wk H; simp only [List.set_cons_zero, List.set_cons_succ, Nat.reduceAdd] at H)) | (refine opk 9 rfl ?_; first | (refine ost_boxq H rfl ?_; clear H; intro bk wk H) | (refine ost_alloc1 H rfl rfl ?_; clear H; intro bk wk H))) | refine Wc.seq ?_ | refine then_n ?_ | refine WL.nil ?_ | refine Wc.region ?_ | refine Wc.block ?_ | refine then_r ?_ | refine then_e ?_ | refine inb_e rfl ?_ | refine inb_o rfl ?_ | refine inb_n ?_ | refine inb_r ?_ | refine Wc.skip ?_ | refine Wc.exit ?_ | refine Wc.ret ?_ | refine Wc.cond_true rfl ?_ | refine Wc.cond_false rfl ?_)
    exact fn_ret2 (v1 := .slice _ _ _) (v2 := .int _ _) rfl rfl rfl ⟨_, _, H.pick 0 rfl, _, _, rfl, rfl⟩
  | false =>
    have hE : ∀ w, Sat h0 w → Spec Tryd.prog 75 #[.agg (cOp o).toArray] w [] h0 (fun v h' L' => ∃ a' c', v = .tuple #[.slice a' ([] : List UInt8).length c', .int .i64 2] ∧ h' = h0 ∧ L' = [own8 (.slice a' ([] : List UInt8).length c') 5 []]) := fun w hs => by
      have := op_Encode h0 o w hs
      rw [show outO o = ([], 2) by unfold outO; rw [hr]; rfl] at this; exact this
    rw [show outC o = ([], 2) by unfold outC; rw [hr]; rfl]
    repeat' (first | ((first | refine WL.p rfl ?_ | refine WL.u ?_); first | (refine opk 1 rfl ?_; (refine ost_Sk H rfl (hE _ H.sat) rfl ?_; clear H; rintro vk wk hfk Lk ⟨a1, c1, rfl, e9, rfl⟩ hle H; simp only [List.cons_append, List.nil_append] at H)) | refine pvQ ?_ | (refine opk 3 rfl ?_; (refine ost_cmp rfl rfl rfl rfl (fun hc => ?_) (fun hc => ?_) <;> (simp only [cmpP] at hc; try exact prIQ))) | (refine opk 4 rfl ?_; (refine ost_cmp rfl rfl rfl rfl (fun hc => ?_) (fun hc => ?_) <;> (simp only [cmpP] at hc; try exact prIQ))) | (refine opk 8 rfl ?_; (refine ost_store1 H rfl rfl vlQ gvQ ixQ (by first | decide | (simp; omega) | (simp; done) | omega) ?_; clear H; intro wk H; simp only [List.set_cons_zero, List.set_cons_succ, Nat.reduceAdd] at H)) | (refine opk 9 rfl ?_; first | (refine ost_boxq H rfl ?_; clear H; intro bk wk H) | (refine ost_alloc1 H rfl rfl ?_; clear H; intro bk wk H))) | refine Wc.seq ?_ | refine then_n ?_ | refine WL.nil ?_ | refine Wc.region ?_ | refine Wc.block ?_ | refine then_r ?_ | refine then_e ?_ | refine inb_e rfl ?_ | refine inb_o rfl ?_ | refine inb_n ?_ | refine inb_r ?_ | refine Wc.skip ?_ | refine Wc.exit ?_ | refine Wc.ret ?_ | refine Wc.cond_true rfl ?_ | refine Wc.cond_false rfl ?_)
    exact fn_ret2 (v1 := .slice _ _ _) (v2 := .int _ _) rfl rfl rfl ⟨_, _, (H.nil8 5).pick 0 rfl, _, _, rfl, rfl⟩
end Go.Tg

set_option linter.unusedVariables false
set_option linter.unusedSimpArgs false
set_option maxRecDepth 100000
set_option maxHeartbeats 4000000
namespace Go.Tg
open Go Go.Proofs
def nm2 (f : List UInt8) : Nat := (numE (numE 0 f).2.2.1 (numE 0 f).2.2.2).1
def ok2 (f : List UInt8) (kind : Nat) : Bool := decide ((numE 0 f).1 = kind) && (decide ((numE (numE 0 f).2.2.1 (numE 0 f).2.2.2).2.2.1 = 0) && decide ((numE (numE 0 f).2.2.1 (numE 0 f).2.2.2).2.2.2.length = 0))
theorem nm2_lt (f : List UInt8) : nm2 f < 18446744073709551616 := numE_lt _ _
theorem numE_e0 {e : Int} {xs : List UInt8} (h : (numE e xs).2.2.1 = 0) : e = 0 ∧ (numE 0 xs).2.1 = 0 := by
  by_cases he : e = 0
  · subst he
    refine ⟨rfl, ?_⟩
    by_cases h2 : (numE 0 xs).2.1 = 0
    · exact h2
    · exact absurd h (numE_err2 h2).1
  · rw [numE_err he] at h; exact absurd h he
theorem ok2_iff {f : List UInt8} {kind : Nat} (hk : kind < 18446744073709551616) : ok2 f kind = true ↔ f = numF kind (nm2 f) := by
  unfold ok2
  simp only [Bool.and_eq_true, decide_eq_true_eq, List.length_eq_zero_iff]
  constructor
  · rintro ⟨h1, h2, h3⟩
    obtain ⟨h4, h5⟩ := numE_e0 h2
    rw [h4] at h2 h3
    obtain ⟨-, h6⟩ := numE_e0 (e := 0) h4
    have h7 := numE_inv h6
    have h8 := numE_inv (numE_e0 h2).2
    rw [h3, List.append_nil] at h8
    unfold numF nm2
    rw [h4]
    rw [h8, h1] at h7
    exact h7
  · intro h
    have hn := nm2_lt f
    generalize nm2 f = n at h hn
    subst h
    unfold numF
    rw [numE_putB kind hk]
    dsimp only
    have h2 := numE_putB n hn []
    rw [List.append_nil] at h2
    rw [h2]
    exact ⟨rfl, rfl, rfl⟩
theorem nm2_of {kind n : Nat} (hk : kind < 18446744073709551616) (hn : n < 18446744073709551616) : nm2 (numF kind n) = n := by
  unfold nm2 numF
  rw [numE_putB kind hk]
  dsimp only
  have h2 := numE_putB n hn []
  rw [List.append_nil] at h2
  rw [h2]
theorem ok2_of {kind n : Nat} (hk : kind < 18446744073709551616) (hn : n < 18446744073709551616) : ok2 (numF kind n) kind = true := (ok2_iff hk).2 (by rw [nm2_of hk hn])
theorem num_fin {f : List UInt8} {kind : Nat} {q : Bool} (h : ok2 f kind = q) : Value.tuple #[.int .u64 ((numE (numE 0 f).2.2.1 (numE 0 f).2.2.2).1 : Nat), .bool q] = .tuple #[.int .u64 (nm2 f), .bool (ok2 f kind)] := by rw [h]; rfl
theorem seg_number (h0 : FH) (a : Option Addr) (c : Nat) (f : List UInt8) (kind : Nat) (w : World) (hs : Sat h0 w) (hr : BS h0 a c f) (hb : f.length ≤ 1000000) :
    SpecV Tryd.prog 84 #[.slice a f.length c, .int .u64 kind] w (.tuple #[.int .u64 (nm2 f), .bool (ok2 f kind)]) := by
  have H := St.start hs
  have hl := numE_len 0 f
  unfold SpecV
  refine calls_of Tryd.func84 rfl Tryd.ntmps84 (by simp) ?_
  repeat' (first | ((first | refine WL.p rfl ?_ | refine WL.u ?_ | refine WL.g rfl rfl ?_ | refine WL.gu rfl ?_); first | (refine opk 1 rfl ?_; (refine ost_Sk H rfl (pack_Read _ _ _ _ _ H.sat hr (by omega)) rfl ?_; clear H; rintro vk wk hfk Lk ⟨b1, a1, c1, rfl, hr1, rfl⟩ hle H; simp only [List.cons_append, List.nil_append] at H)) | refine pvQ ?_ | (refine opk 3 rfl ?_; (refine ost_cmp rfl rfl rfl rfl (fun hc => ?_) (fun hc => ?_) <;> (simp only [cmpP] at hc; try exact prIQ))) | (refine opk 4 rfl ?_; (refine ost_cmp rfl rfl rfl rfl (fun hc => ?_) (fun hc => ?_) <;> (simp only [cmpP] at hc; try exact prIQ)))) | refine Wc.seq ?_ | refine then_n ?_ | refine WL.nil ?_ | refine Wc.region ?_ | refine Wc.block ?_ | refine then_r ?_ | refine then_e ?_ | refine inb_e rfl ?_ | refine inb_o rfl ?_ | refine inb_n ?_ | refine inb_r ?_ | refine Wc.skip ?_ | refine Wc.exit ?_ | refine Wc.ret ?_ | refine Wc.cond_true rfl ?_ | refine Wc.cond_false rfl ?_ | refine WL.skp rfl rfl ?_ | refine WL.sku rfl ?_)
  repeat' (first | ((first | refine WL.p rfl ?_ | refine WL.u ?_ | refine WL.g rfl rfl ?_ | refine WL.gu rfl ?_); first | (refine opk 1 rfl ?_; first | (refine ost_H (A := rdr _ _ _ _ _ _) H rfl (by (exact ixQ)) (fun HO => rd_Num _ _ _ _ _ _ _ HO (by assumption)) rfl ?_; clear H; rintro vk wk hfk Lk ⟨rfl, rfl, a2, c2, hr2, rfl⟩ hle H; simp only [List.cons_append, List.nil_append, List.eraseIdx_cons_zero, List.eraseIdx_cons_succ] at H) | (refine ost_VB H rfl (rd_Done _ _ _ _ _ _ H.bI) rfl ?_ ?_ <;> (intro hc; (try (first | exact (bcon hc ‹_›).elim | exact (bcon ‹_› hc).elim)); try (clear H; intro wk H)))) | refine pvQ ?_ | (refine opk 3 rfl ?_; (refine ost_cmp rfl rfl rfl rfl (fun hc => ?_) (fun hc => ?_) <;> (simp only [cmpP] at hc; try exact prIQ))) | (refine opk 4 rfl ?_; (refine ost_cmp rfl rfl rfl rfl (fun hc => ?_) (fun hc => ?_) <;> (simp only [cmpP] at hc; try exact prIQ)))) | refine Wc.seq ?_ | refine then_n ?_ | refine WL.nil ?_ | refine Wc.region ?_ | refine Wc.block ?_ | refine then_r ?_ | refine then_e ?_ | refine inb_e rfl ?_ | refine inb_o rfl ?_ | refine inb_n ?_ | refine inb_r ?_ | refine Wc.skip ?_ | refine Wc.exit ?_ | refine Wc.ret ?_ | refine Wc.cond_true rfl ?_ | refine Wc.cond_false rfl ?_ | refine WL.skp rfl rfl ?_ | refine WL.sku rfl ?_)
  · exact fn_ret2 (v1 := .int _ _) (v2 := .bool _) rfl rfl rfl ⟨num_fin (by unfold ok2; rw [hc, Bool.and_true]; exact decide_eq_true (by omega)), H.fr⟩
  · exact fn_ret2 (v1 := .int _ _) (v2 := .bool _) rfl rfl rfl ⟨num_fin (by unfold ok2; rw [hc, Bool.and_false]), H.fr⟩
  · exact fn_ret2 (v1 := .int _ _) (v2 := .bool _) rfl rfl rfl ⟨num_fin (by unfold ok2; rw [decide_eq_false (by omega), Bool.false_and]), H.fr⟩
noncomputable def opS (f : List UInt8) : OpT × Bool := match isOp f with
  | some o => (o, true)
  | none => (zeroO, false)
def bt2 (f : List UInt8) : List UInt8 × Int × Int × List UInt8 := bytesE (numE 0 f).2.2.1 (numE 0 f).2.2.2
def ok3 (f : List UInt8) : Bool := decide ((numE 0 f).1 = 2) && (decide ((bt2 f).2.2.1 = 0) && decide ((bt2 f).2.2.2.length = 0))
theorem bytesE_e0 {e : Int} {xs : List UInt8} (h : (bytesE e xs).2.2.1 = 0) : e = 0 ∧ (bytesE e xs).2.1 = 0 := by
  unfold bytesE at h ⊢
  by_cases h1 : (numE e xs).2.1 = 0
  · rw [if_neg (by simpa using h1)] at h ⊢
    have he : e = 0 := Classical.byContradiction fun he => by rw [numE_err he] at h1; exact he h1
    refine ⟨he, ?_⟩
    by_cases h2 : (numE e xs).2.2.2.length < (numE e xs).1
    · rw [if_pos h2] at h; cases h
    · rw [if_neg h2]
  · rw [if_pos h1] at h
    obtain ⟨h2, h3⟩ := numE_e0 h
    rw [h2] at h1; exact absurd h3 h1
theorem bt2_yes {f : List UInt8} (h : ok3 f = true) : f = putB 2 ++ fieldB (bt2 f).1 := by
  unfold ok3 at h
  simp only [Bool.and_eq_true, decide_eq_true_eq, List.length_eq_zero_iff] at h
  obtain ⟨h1, h2, h3⟩ := h
  obtain ⟨h4, h5⟩ := bytesE_e0 h2
  obtain ⟨-, h6⟩ := numE_e0 (e := 0) h4
  have h7 := numE_inv h6
  have h8 : (numE 0 f).2.2.2 = fieldB (bt2 f).1 ++ (bt2 f).2.2.2 := by
    unfold bt2 at h2 h3 ⊢
    rw [h4] at h2 h3 h5 ⊢
    exact bytesE_inv h5
  rw [h3, List.append_nil] at h8
  rw [h8, h1] at h7
  exact h7
theorem bt2_of (c : List UInt8) (hc : c.length < 18446744073709551616) : bt2 (putB 2 ++ fieldB c) = (c, 0, 0, []) ∧ ok3 (putB 2 ++ fieldB c) = true := by
  have e1 := numE_putB 2 (by decide) (fieldB c)
  have e2 : bt2 (putB 2 ++ fieldB c) = (c, 0, 0, []) := by
    unfold bt2
    rw [e1]
    have := bytesE_fieldB c [] hc
    rw [List.append_nil] at this; exact this
  refine ⟨e2, ?_⟩
  unfold ok3
  rw [e2, e1]; rfl
theorem opS_no {f : List UInt8} (h : ok3 f = false) : opS f = (zeroO, false) := by
  have : isOp f = none := isOp_none.2 fun u hu e => by
    have := (bt2_of (encO u) (by have := encO_len u; omega)).2
    rw [show putB 2 ++ fieldB (encO u) = f from e, h] at this; cases this
  unfold opS; rw [this]
theorem opS_yes {f : List UInt8} (h : ok3 f = true) : opS f = ((decO (bt2 f).1).1, decide ((decO (bt2 f).1).2 = 0)) := by
  have hf := bt2_yes h
  rcases decO_spec (bt2 f).1 with ⟨h1, h2, h3⟩ | ⟨h1, h2, h3⟩
  · have : isOp f = some (decO (bt2 f).1).1 := by
      rw [← isOp_rec h2, show recF (decO (bt2 f).1).1 = f by unfold recF; rw [h3]; exact hf.symm]
    unfold opS; rw [this, h1]; rfl
  · have : isOp f = none := isOp_none.2 fun u hu e => by
      have h4 := (bt2_of (encO u) (by have := encO_len u; omega)).1
      rw [show putB 2 ++ fieldB (encO u) = f from e] at h4
      exact h3 u hu (by rw [h4])
    unfold opS; rw [this, h1, h2]; rfl
theorem seg_operation (h0 : FH) (a : Option Addr) (c : Nat) (f : List UInt8) (w : World) (hs : Sat h0 w) (hr : BS h0 a c f) (hb : f.length ≤ 1000000) :
    SpecV Tryd.prog 85 #[.slice a f.length c] w (.tuple #[.agg (cOp (opS f).1).toArray, .bool (opS f).2]) := by
  have H := St.start hs
  have hl := numE_len 0 f
  have hK := bytesE_len (numE 0 f).2.2.1 (numE 0 f).2.2.2
  have hy := @opS_yes f
  have hn := @opS_no f
  have h3 : ok3 f = (decide ((numE 0 f).1 = 2) && (decide ((bt2 f).2.2.1 = 0) && decide ((bt2 f).2.2.2.length = 0))) := rfl
  have ob : bytesE (numE 0 f).2.2.1 (numE 0 f).2.2.2 = bt2 f := rfl
  unfold SpecV
  refine calls_of Tryd.func85 rfl Tryd.ntmps85 (by simp) ?_
  repeat' (first | ((first | refine WL.p rfl ?_ | refine WL.u ?_ | refine WL.g rfl rfl ?_ | refine WL.gu rfl ?_); first | (refine opk 1 rfl ?_; (refine ost_Sk H rfl (pack_Read _ _ _ _ _ H.sat hr (by omega)) rfl ?_; clear H; rintro vk wk hfk Lk ⟨b1, a1, c1, rfl, hr1, rfl⟩ hle H; simp only [List.cons_append, List.nil_append] at H)) | refine pvQ ?_ | (refine opk 3 rfl ?_; (refine ost_cmp rfl rfl rfl rfl (fun hc => ?_) (fun hc => ?_) <;> (simp only [cmpP] at hc; try exact prIQ))) | (refine opk 4 rfl ?_; (refine ost_cmp rfl rfl rfl rfl (fun hc => ?_) (fun hc => ?_) <;> (simp only [cmpP] at hc; try exact prIQ))) | (refine opk 8 rfl ?_; (refine ost_storeW H rfl rfl rfl rfl lQ ixQ lQ okQ ?_; clear H; intro wk H; simp only [List.set_cons_zero, List.set_cons_succ, Nat.reduceAdd] at H)) | (refine opk 9 rfl ?_; (refine ost_allocA H rfl ?_; clear H; intro bk wk H))) | refine Wc.seq ?_ | refine then_n ?_ | refine WL.nil ?_ | refine Wc.region ?_ | refine Wc.block ?_ | refine then_r ?_ | refine then_e ?_ | refine inb_e rfl ?_ | refine inb_o rfl ?_ | refine inb_n ?_ | refine inb_r ?_ | refine Wc.skip ?_ | refine Wc.exit ?_ | refine Wc.ret ?_ | refine Wc.cond_true rfl ?_ | refine Wc.cond_false rfl ?_ | refine WL.skp rfl rfl ?_ | refine WL.sku rfl ?_)
  have z23 := cOp_len zeroO
  repeat' (first | ((first | refine WL.p rfl ?_ | refine WL.u ?_ | refine WL.g rfl rfl ?_ | refine WL.gu rfl ?_); first | (refine opk 1 rfl ?_; first | (refine ost_H (A := rdr _ _ _ _ _ _) H rfl (by (exact ixQ)) (fun HO => rd_Num _ _ _ _ _ _ _ HO (by assumption)) rfl ?_; clear H; rintro vk wk hfk Lk ⟨rfl, rfl, a2, c2, hr2, rfl⟩ hle H; simp only [List.cons_append, List.nil_append, List.eraseIdx_cons_zero, List.eraseIdx_cons_succ] at H) | (refine ost_H (A := rdr _ _ _ _ _ _) H rfl (by (exact ixQ)) (fun HO => rd_Bytes _ _ _ _ _ _ _ HO hr2 (by omega)) rfl ?_; clear H; rintro vk wk hfk Lk ⟨a3, c3, a4, c4, rfl, rfl, hr5, rfl⟩ hle H; simp only [List.cons_append, List.nil_append, List.eraseIdx_cons_zero, List.eraseIdx_cons_succ] at H) | (refine ost_VB H rfl (rd_Done _ _ _ _ _ _ H.bI) rfl ?_ ?_ <;> (intro hc; (try (first | exact (bcon hc ‹_›).elim | exact (bcon ‹_› hc).elim)); try (clear H; intro wk H)))) | refine pvQ ?_ | (refine opk 3 rfl ?_; (refine ost_cmp rfl rfl rfl rfl (fun hc => ?_) (fun hc => ?_) <;> (simp only [cmpP] at hc; try exact prIQ))) | (refine opk 4 rfl ?_; (refine ost_cmp rfl rfl rfl rfl (fun hc => ?_) (fun hc => ?_) <;> (simp only [cmpP] at hc; try exact prIQ))) | (refine opk 8 rfl ?_; (refine ost_storeW H rfl rfl rfl rfl lQ ixQ lQ okQ ?_; clear H; intro wk H; simp only [List.set_cons_zero, List.set_cons_succ, Nat.reduceAdd] at H)) | (refine opk 9 rfl ?_; (refine ost_allocA H rfl ?_; clear H; intro bk wk H))) | refine Wc.seq ?_ | refine then_n ?_ | refine WL.nil ?_ | refine Wc.region ?_ | refine Wc.block ?_ | refine then_r ?_ | refine then_e ?_ | refine inb_e rfl ?_ | refine inb_o rfl ?_ | refine inb_n ?_ | refine inb_r ?_ | refine Wc.skip ?_ | refine Wc.exit ?_ | refine Wc.ret ?_ | refine Wc.cond_true rfl ?_ | refine Wc.cond_false rfl ?_ | refine WL.skp rfl rfl ?_ | refine WL.sku rfl ?_)
  · refine fn_ret2 (v2 := .bool _) rfl (rv_cellA rfl rfl H.bI lQ) rfl ⟨?_, H.fr⟩
    rw [hn (by rw [h3, decide_eq_false (by omega), Bool.false_and])]; rfl
  · rw [ob] at H hK hc
    have hyy := hy (by rw [h3, hc, Bool.and_true]; exact decide_eq_true (by omega))
    obtain ⟨a6, c6, h6, e6, hle6, hr6, H⟩ := H.freeze8
    injection e6 with e61 e62 e63
    rw [← e61, ← e63] at hr6
    rw [hyy]
    have hD := op_Decode h6 a3 c3 (bt2 f).1
    have lx := cOp_len (decO (bt2 f).1).1
    generalize decO (bt2 f).1 = D at hD lx ⊢
    repeat' (first | ((first | refine WL.p rfl ?_ | refine WL.u ?_ | refine WL.g rfl rfl ?_ | refine WL.gu rfl ?_); first | (refine opk 1 rfl ?_; (refine ost_V H rfl (hD _ H.sat hr6 (by omega)) rfl ?_; clear H; intro wk H)) | refine pvQ ?_ | (refine opk 3 rfl ?_; (refine ost_cmp rfl rfl rfl rfl (fun hc => ?_) (fun hc => ?_) <;> (simp only [cmpP] at hc; try exact prIQ))) | (refine opk 4 rfl ?_; (refine ost_cmp rfl rfl rfl rfl (fun hc => ?_) (fun hc => ?_) <;> (simp only [cmpP] at hc; try exact prIQ))) | (refine opk 8 rfl ?_; (refine ost_storeW H rfl rfl rfl rfl lQ ixQ lQ okQ ?_; clear H; intro wk H; simp only [List.set_cons_zero, List.set_cons_succ, Nat.reduceAdd] at H)) | (refine opk 9 rfl ?_; (refine ost_allocA H rfl ?_; clear H; intro bk wk H))) | refine Wc.seq ?_ | refine then_n ?_ | refine WL.nil ?_ | refine Wc.region ?_ | refine Wc.block ?_ | refine then_r ?_ | refine then_e ?_ | refine inb_e rfl ?_ | refine inb_o rfl ?_ | refine inb_n ?_ | refine inb_r ?_ | refine Wc.skip ?_ | refine Wc.exit ?_ | refine Wc.ret ?_ | refine Wc.cond_true rfl ?_ | refine Wc.cond_false rfl ?_ | refine WL.skp rfl rfl ?_ | refine WL.sku rfl ?_)
    · refine fn_ret2 (v2 := .bool _) rfl (rv_cellA rfl rfl H.bI lQ) rfl ⟨?_, H.fr⟩
      rw [decide_eq_true (by assumption)]
    · refine fn_ret2 (v2 := .bool _) rfl (rv_cellA rfl rfl H.bI lQ) rfl ⟨?_, H.fr⟩
      rw [decide_eq_false (by assumption)]
  · rw [ob] at hc
    refine fn_ret2 (v2 := .bool _) rfl (rv_cellA rfl rfl H.bI lQ) rfl ⟨?_, H.fr⟩
    rw [hn (by rw [h3, hc, Bool.and_false])]; rfl
end Go.Tg

set_option linter.unusedVariables false
set_option linter.unusedSimpArgs false
set_option maxRecDepth 100000
set_option maxHeartbeats 4000000
namespace Go.Tg
open Go Go.Proofs
def cI (n : Nat) : List Value := [.int .i64 (n : Int)]
theorem rows_cI (l : List Nat) : ∀ r, r ∈ l.map cI → r.length = 1 := by simp [cI]
theorem rows_cOp (l : List OpT) : ∀ r, r ∈ l.map cOp → r.length = 23 := by
  intro r hr
  obtain ⟨o, -, rfl⟩ := List.mem_map.1 hr
  exact cOp_len o
structure IAd where
  ao : Option Addr
  co : Nat
  at_ : Option Addr
  ct : Nat
def ifL (id : UInt32) (no nt : Nat) (sld : Bool) (used : Nat) (ao : Option Addr) (co : Nat) (at_ : Option Addr) (ct : Nat) : List Value := [.int .u32 id.toNat, .slice ao no co, .slice at_ nt ct, .bool sld, .int .i64 (used : Int)]
def ifV (x : InfT) (A : IAd) : List Value := ifL x.id x.ops.length x.ats.length x.sld x.used A.ao A.co A.at_ A.ct
structure IfR (h : FH) (x : InfT) (A : IAd) : Prop where
  o : Sl h 23 A.ao A.co (x.ops.map cOp)
  t : Sl h 1 A.at_ A.ct (x.ats.map cI)
theorem IfR.mono {h h' : FH} {x : InfT} {A : IAd} (r : IfR h x A) (hl : FLe h h') : IfR h' x A := ⟨r.o.mono hl, r.t.mono hl⟩
def zeroIA : IAd := ⟨none, 0, none, 0⟩
theorem zeroI_R (h : FH) : IfR h zeroI zeroIA := ⟨Sl.nil _ _, Sl.nil _ _⟩
theorem frame_Firstn (n : Nat) (h0 : FH) (a : Option Addr) (c : Nat) (b : List UInt8) (w : World) (hs : Sat h0 w) (hT : Half h0) (hn : n = b.length) (hr : BS h0 a c b) (hb : b.length ≤ 1000000000) :
    Spec Tryd.prog 69 #[.slice a n c] w [] h0 (fun v h' L' => ∃ a' c', v = .tuple #[.slice a' (firstF b).1.length c', .int .i64 (firstF b).2.1, .int .i64 (firstF b).2.2] ∧ h' = h0 ∧ L' = [own8 (.slice a' (firstF b).1.length c') 5 (firstF b).1]) := by
  subst hn; exact frame_First h0 a c b w hs hT hr hb
noncomputable def segQ (b : List UInt8) (ops : List OpT) (ats : List Nat) (sld : Bool) (used : Nat) : List OpT × List Nat × Bool × Nat :=
  if sld = true then (ops, ats, true, used) else (ops ++ (segR (frames (b.drop used)) ops.length used).1, ats ++ (segR (frames (b.drop used)) ops.length used).2.1, (segR (frames (b.drop used)) ops.length used).2.2)
theorem segQ_sld (b : List UInt8) (ops : List OpT) (ats : List Nat) (used : Nat) : segQ b ops ats true used = (ops, ats, true, used) := rfl
theorem segQ_no {b : List UInt8} {ops : List OpT} {ats : List Nat} {used : Nat} (h : (firstF (b.drop used)).2.2 ≠ 0) : segQ b ops ats false used = (ops, ats, false, used) := by
  unfold segQ
  rw [if_neg (by simp), frames_no h]
  simp [segR]
theorem segQ_op {b : List UInt8} {ops : List OpT} {ats : List Nat} {used : Nat} {o : OpT} (h : (firstF (b.drop used)).2.2 = 0) (ho : isOp (firstF (b.drop used)).1 = some o) : segQ b ops ats false used = segQ b (ops ++ [o]) (ats ++ [used]) false (used + (firstF (b.drop used)).2.1) := by
  have hw : (wrapB (firstF (b.drop used)).1).length = (firstF (b.drop used)).2.1 := by
    obtain ⟨h1, h2, h3⟩ := firstF_ok h
    rw [← h1, List.length_take]; omega
  unfold segQ
  rw [if_neg (by simp), if_neg (by simp), frames_ok h, segR_op ho, hw, List.drop_drop, List.length_append]
  simp
theorem segQ_foot {b : List UInt8} {ops : List OpT} {ats : List Nat} {used : Nat} (h : (firstF (b.drop used)).2.2 = 0) (ho : isOp (firstF (b.drop used)).1 = none) (hf : (firstF (b.drop used)).1 = numF 3 ops.length) : segQ b ops ats false used = segQ b ops ats true (used + (firstF (b.drop used)).2.1) := by
  have hw : (wrapB (firstF (b.drop used)).1).length = (firstF (b.drop used)).2.1 := by
    obtain ⟨h1, h2, h3⟩ := firstF_ok h
    rw [← h1, List.length_take]; omega
  unfold segQ
  rw [if_neg (by simp), if_pos rfl, frames_ok h, segR_foot ho hf, hw]
  simp
theorem segQ_end {b : List UInt8} {ops : List OpT} {ats : List Nat} {used : Nat} (h : (firstF (b.drop used)).2.2 = 0) (ho : isOp (firstF (b.drop used)).1 = none) (hf : (firstF (b.drop used)).1 ≠ numF 3 ops.length) : segQ b ops ats false used = (ops, ats, false, used) := by
  unfold segQ
  rw [if_neg (by simp), frames_ok h, segR_no ho hf]
  simp
theorem Agree.env0 {M : List Nat} {s s0 : Env} (h : Agree M s s0) : ∃ j, s = Go.Tg.havoc M j s0 := ⟨s, h.eq⟩
theorem seg_Scan (h0 : FH) (a : Option Addr) (c : Nat) (b : List UInt8) (w : World) (hs : Sat h0 w) (hT : Half h0) (hr : BS h0 a c b) (hb : b.length ≤ 1000000) :
    Spec Tryd.prog 40 #[.slice a b.length c] w [] h0 (fun v h' L' => ∃ A, v = .tuple #[.agg (ifV (scanS b).1 A).toArray, .int .i64 (scanS b).2] ∧ L' = [] ∧ IfR h' (scanS b).1 A) := by
  have H := St.start hs
  have hF := frame_First h0 a c b
  have hno := fun h => scanS_nil (frames_no (b := b) h)
  have hyes := fun h => frames_ok (b := b) h
  have hok := @firstF_ok b
  have hfl := firstF_len b
  generalize firstF b = F at hF hno hyes hok hfl
  obtain ⟨f, k, e⟩ := F
  dsimp only at hF hno hyes hok hfl
  unfold Spec
  refine calls_of Tryd.func40 rfl Tryd.ntmps40 (by simp) ?_
  repeat' (first | ((first | refine WL.p rfl ?_ | refine WL.u ?_ | refine WL.g rfl rfl ?_ | refine WL.gu rfl ?_); first | (refine opk 1 rfl ?_; (refine ost_Sk H rfl (hF _ H.sat hT hr (by omega)) rfl ?_; clear H; rintro vk wk hfk Lk ⟨a1, c1, rfl, e9, rfl⟩ hle H; simp only [List.cons_append, List.nil_append] at H)) | refine pvQ ?_ | (refine opk 3 rfl ?_; (refine ost_cmp rfl rfl rfl rfl (fun hc => ?_) (fun hc => ?_) <;> (simp only [cmpP] at hc; try exact prIQ))) | (refine opk 4 rfl ?_; (refine ost_cmp rfl rfl rfl rfl (fun hc => ?_) (fun hc => ?_) <;> (simp only [cmpP] at hc; try exact prIQ))) | (refine opk 8 rfl ?_; first | (refine ost_store1 H rfl rfl vlQ gvQ ixQ (by first | decide | (simp; omega) | (simp; done) | omega) ?_; clear H; intro wk H; simp only [List.set_cons_zero, List.set_cons_succ, Nat.reduceAdd] at H) | (refine ost_storeW H rfl rfl rfl rfl lQ ixQ lQ okQ ?_; clear H; intro wk H; simp only [List.set_cons_zero, List.set_cons_succ, Nat.reduceAdd] at H)) | (refine opk 9 rfl ?_; first | (refine ost_allocA H rfl ?_; clear H; intro bk wk H) | (refine ost_build1 H rfl rfl rfl evQ lsQ rfl ?_; clear H; intro bk wk H))) | refine Wc.seq ?_ | refine then_n ?_ | refine WL.nil ?_ | refine Wc.region ?_ | refine Wc.block ?_ | refine then_r ?_ | refine then_e ?_ | refine inb_e rfl ?_ | refine inb_o rfl ?_ | refine inb_n ?_ | refine inb_r ?_ | refine Wc.skip ?_ | refine Wc.exit ?_ | refine Wc.ret ?_ | refine Wc.cond_true rfl ?_ | refine Wc.cond_false rfl ?_ | refine WL.skp rfl rfl ?_ | refine WL.sku rfl ?_)
  replace e9 := e9.symm
  subst e9
  obtain ⟨a6, c6, h6, e6, hle6, hr6, H9⟩ := H.freeze8
  clear H; have H := H9; clear H9
  injection e6 with e61 e62 e63
  rw [← e61, ← e63] at hr6
  have hT6 := hT.mono hle6
  have hrb := hr.mono hle6
  clear hle hF
  have hnum := seg_number h6 a1 c1 f 1
  by_cases he : e = 0
  · subst he
    have hyes := hyes rfl
    obtain ⟨hk1, hk2, hk3⟩ := hok rfl
    have hno1 := fun hn => scanS_no hyes hn
    have hnl := nm2_lt f
    have hiff := ok2_iff (f := f) (kind := 1) (by decide)
    cases hq : ok2 f 1 with
    | false =>
      rw [hq] at hnum
      have hD := hno1 fun id e => by
        have := ok2_of (kind := 1) (n := id.toNat) (by decide) (by have := id.toNat_lt; omega)
        rw [← e, hq] at this; cases this
      rw [hD]
      repeat' (first | ((first | refine WL.p rfl ?_ | refine WL.u ?_ | refine WL.g rfl rfl ?_ | refine WL.gu rfl ?_); first | (refine opk 1 rfl ?_; (refine ost_V H rfl (hnum _ H.sat hr6 (by omega)) rfl ?_; clear H; intro wk H)) | refine pvQ ?_ | (refine opk 3 rfl ?_; (refine ost_cmp rfl rfl rfl rfl (fun hc => ?_) (fun hc => ?_) <;> (simp only [cmpP] at hc; try exact prIQ))) | (refine opk 4 rfl ?_; (refine ost_cmp rfl rfl rfl rfl (fun hc => ?_) (fun hc => ?_) <;> (simp only [cmpP] at hc; try exact prIQ))) | (refine opk 8 rfl ?_; first | (refine ost_store1 H rfl rfl vlQ gvQ ixQ (by first | decide | (simp; omega) | (simp; done) | omega) ?_; clear H; intro wk H; simp only [List.set_cons_zero, List.set_cons_succ, Nat.reduceAdd] at H) | (refine ost_storeW H rfl rfl rfl rfl lQ ixQ lQ okQ ?_; clear H; intro wk H; simp only [List.set_cons_zero, List.set_cons_succ, Nat.reduceAdd] at H)) | (refine opk 9 rfl ?_; first | (refine ost_allocA H rfl ?_; clear H; intro bk wk H) | (refine ost_build1 H rfl rfl rfl evQ lsQ rfl ?_; clear H; intro bk wk H))) | refine Wc.seq ?_ | refine then_n ?_ | refine WL.nil ?_ | refine Wc.region ?_ | refine Wc.block ?_ | refine then_r ?_ | refine then_e ?_ | refine inb_e rfl ?_ | refine inb_o rfl ?_ | refine inb_n ?_ | refine inb_r ?_ | refine Wc.skip ?_ | refine Wc.exit ?_ | refine Wc.ret ?_ | refine Wc.cond_true rfl ?_ | refine Wc.cond_false rfl ?_ | refine WL.skp rfl rfl ?_ | refine WL.sku rfl ?_)
      exact fn_ret2 (v2 := .int _ _) rfl (rv_cellA rfl rfl H.bI lQ) rfl ⟨_, _, H.pick0, zeroIA, rfl, rfl, zeroI_R _⟩
    | true =>
      rw [hq] at hnum
      have hf := hiff.1 hq
      by_cases hid : 4294967295 < nm2 f
      · have hD := hno1 fun id e => by
          have := nm2_of (kind := 1) (n := id.toNat) (by decide) (by have := id.toNat_lt; omega)
          rw [← e] at this
          have := id.toNat_lt
          omega
        rw [hD]
        repeat' (first | ((first | refine WL.p rfl ?_ | refine WL.u ?_ | refine WL.g rfl rfl ?_ | refine WL.gu rfl ?_); first | (refine opk 1 rfl ?_; (refine ost_V H rfl (hnum _ H.sat hr6 (by omega)) rfl ?_; clear H; intro wk H)) | refine pvQ ?_ | (refine opk 3 rfl ?_; (refine ost_cmp rfl rfl rfl rfl (fun hc => ?_) (fun hc => ?_) <;> (simp only [cmpP] at hc; try exact prIQ))) | (refine opk 4 rfl ?_; (refine ost_cmp rfl rfl rfl rfl (fun hc => ?_) (fun hc => ?_) <;> (simp only [cmpP] at hc; try exact prIQ))) | (refine opk 8 rfl ?_; first | (refine ost_store1 H rfl rfl vlQ gvQ ixQ (by first | decide | (simp; omega) | (simp; done) | omega) ?_; clear H; intro wk H; simp only [List.set_cons_zero, List.set_cons_succ, Nat.reduceAdd] at H) | (refine ost_storeW H rfl rfl rfl rfl lQ ixQ lQ okQ ?_; clear H; intro wk H; simp only [List.set_cons_zero, List.set_cons_succ, Nat.reduceAdd] at H)) | (refine opk 9 rfl ?_; first | (refine ost_allocA H rfl ?_; clear H; intro bk wk H) | (refine ost_build1 H rfl rfl rfl evQ lsQ rfl ?_; clear H; intro bk wk H))) | refine Wc.seq ?_ | refine then_n ?_ | refine WL.nil ?_ | refine Wc.region ?_ | refine Wc.block ?_ | refine then_r ?_ | refine then_e ?_ | refine inb_e rfl ?_ | refine inb_o rfl ?_ | refine inb_n ?_ | refine inb_r ?_ | refine Wc.skip ?_ | refine Wc.exit ?_ | refine Wc.ret ?_ | refine Wc.cond_true rfl ?_ | refine Wc.cond_false rfl ?_ | refine WL.skp rfl rfl ?_ | refine WL.sku rfl ?_)
        exact fn_ret2 (v2 := .int _ _) rfl (rv_cellA rfl rfl H.bI lQ) rfl ⟨_, _, H.pick0, zeroIA, rfl, rfl, zeroI_R _⟩
      · obtain ⟨id, hid2⟩ : ∃ id : UInt32, nm2 f = id.toNat := ⟨UInt32.ofNat (nm2 f), by simp; omega⟩
        rw [hid2] at hf hnum
        have hS := scanS_ok (b := b) (id := id) (by rw [← hf]; exact hyes)
        rw [hS]
        have hw : (wrapB (numF 1 id.toNat)).length = k := by rw [← hf, ← hk1, List.length_take]; omega
        rw [hw]
        have hidl := id.toNat_lt
        repeat' (first | ((first | refine WL.p rfl ?_ | refine WL.u ?_ | refine WL.g rfl rfl ?_ | refine WL.gu rfl ?_); first | (refine opk 1 rfl ?_; (refine ost_V H rfl (hnum _ H.sat hr6 (by omega)) rfl ?_; clear H; intro wk H)) | refine pvQ ?_ | (refine opk 3 rfl ?_; (refine ost_cmp rfl rfl rfl rfl (fun hc => ?_) (fun hc => ?_) <;> (simp only [cmpP] at hc; try exact prIQ))) | (refine opk 4 rfl ?_; (refine ost_cmp rfl rfl rfl rfl (fun hc => ?_) (fun hc => ?_) <;> (simp only [cmpP] at hc; try exact prIQ))) | (refine opk 8 rfl ?_; first | (refine ost_store1 H rfl rfl vlQ gvQ ixQ (by first | decide | (simp; omega) | (simp; done) | omega) ?_; clear H; intro wk H; simp only [List.set_cons_zero, List.set_cons_succ, Nat.reduceAdd] at H) | (refine ost_storeW H rfl rfl rfl rfl lQ ixQ lQ okQ ?_; clear H; intro wk H; simp only [List.set_cons_zero, List.set_cons_succ, Nat.reduceAdd] at H)) | (refine opk 9 rfl ?_; first | (refine ost_allocA H rfl ?_; clear H; intro bk wk H) | (refine ost_build1 H rfl rfl rfl evQ lsQ rfl ?_; clear H; intro bk wk H))) | refine Wc.seq ?_ | refine then_n ?_ | refine WL.nil ?_ | refine Wc.region ?_ | refine Wc.block ?_ | refine then_r ?_ | refine then_e ?_ | refine inb_e rfl ?_ | refine inb_o rfl ?_ | refine inb_n ?_ | refine inb_r ?_ | refine Wc.skip ?_ | refine Wc.exit ?_ | refine Wc.ret ?_ | refine Wc.cond_true rfl ?_ | refine Wc.cond_false rfl ?_ | refine WL.skp rfl rfl ?_ | refine WL.sku rfl ?_)
        obtain ⟨bi, ebi⟩ := H.nameB idx0
        subst ebi
        obtain ⟨b2, eb2⟩ := H.nameB idx1
        subst eb2
        generalize hR : segR (frames (b.drop k)) 0 k = R0
        have hQ0 : segQ b [] [] false k = R0 := by
          unfold segQ; rw [if_neg (by simp)]
          show ([] ++ (segR (frames (b.drop k)) 0 k).1, [] ++ (segR (frames (b.drop k)) 0 k).2.1, (segR (frames (b.drop k)) 0 k).2.2) = R0
          rw [hR]; rfl
        clear hno hyes hok hno1 hiff hS hR hk1 hr6 hnum
        replace H : St w [] h0 h6 [ownR (.slice none (([] : List OpT).map cOp).length 0) 67 23 (([] : List OpT).map cOp), ownR (.slice none (([] : List Nat).map cI).length 0) 3 1 (([] : List Nat).map cI), .blk bi (.cells (ifL id (([] : List OpT).map cOp).length (([] : List Nat).map cI).length false k none 0 none 0).toArray 77 (0, 0)), .blk b2 (.cells (ifL 0 0 0 false 0 none 0 none 0).toArray 77 (0, 0))] wk := (H.nilOwn 3 1).nilOwn 67 23
        refine Wc.loopE (fun s0 m s w' => ∃ (ops : List OpT) (ats : List Nat) (sld : Bool) (used : Nat) (ao : Option Addr) (co : Nat) (at_ : Option Addr) (ct : Nat), m = (if sld = true then 0 else b.length + 1 - used) ∧ used ≤ b.length ∧ ops.length ≤ used ∧ ats.length = ops.length ∧ segQ b ops ats sld used = R0 ∧ Agree [10, 11, 12, 13, 14, 15, 16, 43, 44, 45, 46, 47, 48, 49, 50, 51, 52, 53, 54, 55, 56, 57, 58, 59, 60, 61, 62, 63, 64, 65, 66, 67, 68, 69, 70, 71, 72, 73, 74, 75, 76, 77, 78, 79, 80, 81, 82, 83, 84, 85, 86, 87, 88, 89, 90, 91, 92, 93, 94, 95] s s0 ∧
          St w [] h0 h6 [ownR (.slice ao (ops.map cOp).length co) 67 23 (ops.map cOp), ownR (.slice at_ (ats.map cI).length ct) 3 1 (ats.map cI), .blk bi (.cells [Value.int .u32 id.toNat, .slice ao (ops.map cOp).length co, .slice at_ (ats.map cI).length ct, .bool sld, .int .i64 (used : Nat)].toArray 77 (0, 0)), .blk b2 (.cells (ifL 0 0 0 false 0 none 0 none 0).toArray 77 (0, 0))] w') (b.length + 1 - k) ⟨[], [], false, k, none, 0, none, 0, rfl, hk3, Nat.zero_le _, rfl, hQ0, Agree.refl _ _, H⟩ ?_
        clear H hQ0
        rintro m s w' ⟨ops, ats, sld, used, ao, co, at_, ct, rfl, hu, hol, hal, hQ, hA, H⟩
        obtain ⟨j, rfl⟩ := hA.env0
        clear hA
        have hol2 : (ops.map cOp).length ≤ 1000000 := by rw [List.length_map]; omega
        have hal2 : (ats.map cI).length ≤ 1000000 := by rw [List.length_map]; omega
        cases sld with
        | true =>
          rw [segQ_sld] at hQ
          obtain ⟨ao7, co7, h7, e7, hle7, hO7, H9⟩ := H.freezeR (rows_cOp ops)
          injection e7 with e71 e72 e73
          subst e71; subst e73
          obtain ⟨at8, ct8, h8, e8, hle8, hA8, H7⟩ := H9.freezeR (rows_cI ats)
          injection e8 with e81 e82 e83
          subst e81; subst e83
          clear H H9
          have H := H7
          clear H7
          have hT8 := (hT6.mono hle7).mono hle8
          have hr8 := (hrb.mono hle7).mono hle8
          repeat' (first | ((first | refine WL.p rfl ?_ | refine WL.u ?_ | refine WL.g rfl rfl ?_ | refine WL.gu rfl ?_); first | refine pvQ ?_ | (refine opk 3 rfl ?_; (refine ost_cmp rfl rfl rfl rfl (fun hc => ?_) (fun hc => ?_) <;> (simp only [cmpP] at hc; try exact prIQ))) | (refine opk 4 rfl ?_; (refine ost_cmp rfl rfl rfl rfl (fun hc => ?_) (fun hc => ?_) <;> (simp only [cmpP] at hc; try exact prIQ))) | (refine opk 8 rfl ?_; first | (refine ost_store1 H rfl rfl vlQ gvQ ixQ (by first | decide | (simp; omega) | (simp; done) | omega) ?_; clear H; intro wk H; simp only [List.set_cons_zero, List.set_cons_succ, Nat.reduceAdd] at H) | (refine ost_storeW H rfl rfl rfl rfl lQ ixQ lQ okQ ?_; clear H; intro wk H; simp only [List.set_cons_zero, List.set_cons_succ, Nat.reduceAdd] at H)) | (refine opk 9 rfl ?_; first | (refine ost_allocA H rfl ?_; clear H; intro bk wk H) | (refine ost_build1 H rfl rfl rfl evQ lsQ rfl ?_; clear H; intro bk wk H))) | refine Wc.seq ?_ | refine then_n ?_ | refine WL.nil ?_ | refine Wc.region ?_ | refine Wc.block ?_ | refine then_r ?_ | refine then_e ?_ | refine inb_e rfl ?_ | refine inb_o rfl ?_ | refine inb_n ?_ | refine inb_r ?_ | refine Wc.skip ?_ | refine Wc.exit ?_ | refine Wc.ret ?_ | refine Wc.cond_true rfl ?_ | refine Wc.cond_false rfl ?_ | refine WL.skp rfl rfl ?_ | refine WL.sku rfl ?_)
          exact fn_ret2 (v2 := .int _ _) rfl (rv_cellA rfl rfl H.bI lQ) rfl ⟨_, _, H.pick0, ⟨ao, co, at_, ct⟩, by rw [← hQ, List.length_map, List.length_map]; rfl, rfl, by rw [← hQ]; exact ⟨hO7.mono hle8, hA8⟩⟩
        | false =>
          have hF := frame_Firstn (b.length - used)
          have hF := fun h a c w hs hT hr => hF h a c (b.drop used) w hs hT (by rw [List.length_drop]) hr (by rw [List.length_drop]; omega)
          have q1 := @segQ_no b ops ats used
          have q2 := @segQ_op b ops ats used
          have q3 := @segQ_foot b ops ats used
          have q4 := @segQ_end b ops ats used
          have hok := @firstF_ok (b.drop used)
          have hps := @firstF_pos (b.drop used)
          generalize firstF (b.drop used) = F at hF q1 q2 q3 q4 hok hps
          obtain ⟨f, k', e⟩ := F
          dsimp only at hF q1 q2 q3 q4 hok hps
          by_cases he : e = 0
          · subst he
            obtain ⟨hk1, hk2, hk3⟩ := hok rfl
            rw [List.length_drop] at hk3
            have hps := hps rfl
            have hop := fun h a c => seg_operation h a c f
            cases hio : isOp f with
            | some o =>
              rw [show opS f = (o, true) by unfold opS; rw [hio]] at hop
              have q2 := q2 rfl hio
              rw [q2] at hQ
              clear q1 q2 q3 q4 hok
              have lo := cOp_len o
              repeat' (first | ((first | refine WL.p rfl ?_ | refine WL.u ?_ | refine WL.g rfl rfl ?_ | refine WL.gu rfl ?_); first | (refine opk 1 rfl ?_; first | (refine ost_Sk H rfl (hF _ _ _ _ H.sat hT6 (hrb.drop (n := used) hu)) rfl ?_; clear H; rintro vk wk hfk Lk ⟨a7, c7, rfl, e9, rfl⟩ hle H; simp only [List.cons_append, List.nil_append] at H) | (refine ost_V H rfl (hop _ _ _ _ (sat_full _) (H.own8rd (by (exact ixQ))) (by omega)) rfl ?_; clear H; intro wk H) | (refine ost_appR (rows := ops.map cOp) (row := cOp o) H rfl rfl rfl (by (exact ixQ)) (by (exact ixQ)) (by rfl) (by first | simp; done | exact Nat.succ_pos _) lo (cOp_one o) rfl (by omega) ?_; clear H; intro aa1 ca1 wk H; simp only [List.set_cons_zero, List.set_cons_succ] at H) | (refine ost_appR (rows := ats.map cI) (row := [.int .i64 (used : Nat)]) H rfl rfl rfl (by (exact ixQ)) (by (exact ixQ)) (by rfl) (by first | simp; done | exact Nat.succ_pos _) rfl (allOne_of rfl) rfl (by omega) ?_; clear H; intro aa ca wk H; simp only [List.set_cons_zero, List.set_cons_succ] at H)) | (refine opk 9 rfl ?_; first | (refine ost_buildR (rows := [cOp o]) H rfl (by decide) rfl (by rfl) (evP1 vxQ) (.cons rfl .nil) rfl (fun r hr => by rw [List.mem_singleton.1 hr]; rfl) ?_; clear H; intro bk wk H) | (refine ost_buildR (rows := [[.int .i64 (used : Nat)]]) H rfl (by decide) rfl (by rfl) (evP1 vxQ) (.cons rfl .nil) rfl (fun r hr => by rw [List.mem_singleton.1 hr]; rfl) ?_; clear H; intro bk wk H)) | refine pvQ ?_ | (refine opk 3 rfl ?_; (refine ost_cmp rfl rfl rfl rfl (fun hc => ?_) (fun hc => ?_) <;> (simp only [cmpP] at hc; try exact prIQ))) | (refine opk 4 rfl ?_; (refine ost_cmp rfl rfl rfl rfl (fun hc => ?_) (fun hc => ?_) <;> (simp only [cmpP] at hc; try exact prIQ))) | (refine opk 8 rfl ?_; first | (refine ost_store1 H rfl rfl vlQ gvQ ixQ (by first | decide | (simp; omega) | (simp; done) | omega) ?_; clear H; intro wk H; simp only [List.set_cons_zero, List.set_cons_succ, Nat.reduceAdd] at H) | (refine ost_storeW H rfl rfl rfl rfl lQ ixQ lQ okQ ?_; clear H; intro wk H; simp only [List.set_cons_zero, List.set_cons_succ, Nat.reduceAdd] at H)) | (refine opk 9 rfl ?_; first | (refine ost_allocA H rfl ?_; clear H; intro bk wk H) | (refine ost_build1 H rfl rfl rfl evQ lsQ rfl ?_; clear H; intro bk wk H))) | refine Wc.seq ?_ | refine then_n ?_ | refine WL.nil ?_ | refine Wc.region ?_ | refine Wc.block ?_ | refine then_r ?_ | refine then_e ?_ | refine inb_e rfl ?_ | refine inb_o rfl ?_ | refine inb_n ?_ | refine inb_r ?_ | refine Wc.skip ?_ | refine Wc.exit ?_ | refine Wc.ret ?_ | refine Wc.cond_true rfl ?_ | refine Wc.cond_false rfl ?_ | refine WL.skp rfl rfl ?_ | refine WL.sku rfl ?_)
              subst e9
              exact ⟨b.length + 1 - (used + k'), by rw [if_neg (by simp)]; omega, ops ++ [o], ats ++ [used], false, used + k', aa1, ca1, aa, ca, by rw [if_neg (by simp)], by omega, by rw [List.length_append]; simp; omega, by simp [hal], hQ, by (repeat' (first | exact Agree.refl _ _ | exact Agree.havoc | refine Agree.upd rfl ?_ | refine Agree.hav2 rfl ?_)), by rw [List.map_append, List.map_append]; exact H.picks [4, 5, 6, 7] rfl (by decide)⟩
            | none =>
              rw [show opS f = (zeroO, false) by unfold opS; rw [hio]] at hop
              clear q1 q2 hok
              have lo := cOp_len zeroO
              have hnum := fun h a c => seg_number h a c f 3
              by_cases hft : f = numF 3 ops.length
              · have q3 := q3 rfl hio hft
                rw [q3] at hQ
                have o2 : ok2 f 3 = true := by rw [hft]; exact ok2_of (by decide) (by omega)
                have n2 : nm2 f = ops.length := by rw [hft]; exact nm2_of (by decide) (by omega)
                rw [o2, n2] at hnum
                have hll : (ops.map cOp).length = ops.length := List.length_map ..
                repeat' (first | ((first | refine WL.p rfl ?_ | refine WL.u ?_ | refine WL.g rfl rfl ?_ | refine WL.gu rfl ?_); first | (refine opk 1 rfl ?_; first | (refine ost_Sk H rfl (hF _ _ _ _ H.sat hT6 (hrb.drop (n := used) hu)) rfl ?_; clear H; rintro vk wk hfk Lk ⟨a7, c7, rfl, e9, rfl⟩ hle H; simp only [List.cons_append, List.nil_append] at H) | (refine ost_V H rfl (hop _ _ _ _ (sat_full _) (H.own8rd (by (exact ixQ))) (by omega)) rfl ?_; clear H; intro wk H) | (refine ost_V H rfl (hnum _ _ _ _ (sat_full _) (H.own8rd (by (exact ixQ))) (by omega)) rfl ?_; clear H; intro wk H)) | refine pvQ ?_ | (refine opk 3 rfl ?_; (refine ost_cmp rfl rfl rfl rfl (fun hc => ?_) (fun hc => ?_) <;> (simp only [cmpP] at hc; try exact prIQ))) | (refine opk 4 rfl ?_; (refine ost_cmp rfl rfl rfl rfl (fun hc => ?_) (fun hc => ?_) <;> (simp only [cmpP] at hc; try exact prIQ))) | (refine opk 8 rfl ?_; first | (refine ost_store1 H rfl rfl vlQ gvQ ixQ (by first | decide | (simp; omega) | (simp; done) | omega) ?_; clear H; intro wk H; simp only [List.set_cons_zero, List.set_cons_succ, Nat.reduceAdd] at H) | (refine ost_storeW H rfl rfl rfl rfl lQ ixQ lQ okQ ?_; clear H; intro wk H; simp only [List.set_cons_zero, List.set_cons_succ, Nat.reduceAdd] at H)) | (refine opk 9 rfl ?_; first | (refine ost_allocA H rfl ?_; clear H; intro bk wk H) | (refine ost_build1 H rfl rfl rfl evQ lsQ rfl ?_; clear H; intro bk wk H))) | refine Wc.seq ?_ | refine then_n ?_ | refine WL.nil ?_ | refine Wc.region ?_ | refine Wc.block ?_ | refine then_r ?_ | refine then_e ?_ | refine inb_e rfl ?_ | refine inb_o rfl ?_ | refine inb_n ?_ | refine inb_r ?_ | refine Wc.skip ?_ | refine Wc.exit ?_ | refine Wc.ret ?_ | refine Wc.cond_true rfl ?_ | refine Wc.cond_false rfl ?_ | refine WL.skp rfl rfl ?_ | refine WL.sku rfl ?_)
                subst e9
                exact ⟨0, by rw [if_neg (by simp)]; omega, ops, ats, true, used + k', ao, co, at_, ct, rfl, by omega, by omega, hal, hQ, by (repeat' (first | exact Agree.refl _ _ | exact Agree.havoc | refine Agree.upd rfl ?_ | refine Agree.hav2 rfl ?_)), H.picks [2, 3, 4, 5] rfl (by decide)⟩
              · have q4 := q4 rfl hio hft
                rw [q4] at hQ
                have hll : (ops.map cOp).length = ops.length := List.length_map ..
                obtain ⟨ao7, co7, h7, e7, hle7, hO7, H9⟩ := H.freezeR (rows_cOp ops)
                injection e7 with e71 e72 e73
                subst e71; subst e73
                obtain ⟨at8, ct8, h8, e8, hle8, hA8, H7⟩ := H9.freezeR (rows_cI ats)
                injection e8 with e81 e82 e83
                subst e81; subst e83
                clear H H9
                have H := H7
                clear H7
                have hT8 := (hT6.mono hle7).mono hle8
                have hr8 := (hrb.mono hle7).mono hle8
                cases o2 : ok2 f 3 with
                | true =>
                  have hne : nm2 f ≠ ops.length := fun e => hft (by rw [← e]; exact (ok2_iff (by decide)).1 o2)
                  rw [o2] at hnum
                  repeat' (first | ((first | refine WL.p rfl ?_ | refine WL.u ?_ | refine WL.g rfl rfl ?_ | refine WL.gu rfl ?_); first | (refine opk 1 rfl ?_; first | (refine ost_Sk H rfl (hF _ _ _ _ H.sat hT8 (hr8.drop (n := used) hu)) rfl ?_; clear H; rintro vk wk hfk Lk ⟨a7, c7, rfl, e9, rfl⟩ hle H; simp only [List.cons_append, List.nil_append] at H) | (refine ost_V H rfl (hop _ _ _ _ (sat_full _) (H.own8rd (by (exact ixQ))) (by omega)) rfl ?_; clear H; intro wk H) | (refine ost_V H rfl (hnum _ _ _ _ (sat_full _) (H.own8rd (by (exact ixQ))) (by omega)) rfl ?_; clear H; intro wk H)) | refine pvQ ?_ | (refine opk 3 rfl ?_; (refine ost_cmp rfl rfl rfl rfl (fun hc => ?_) (fun hc => ?_) <;> (simp only [cmpP] at hc; try exact prIQ))) | (refine opk 4 rfl ?_; (refine ost_cmp rfl rfl rfl rfl (fun hc => ?_) (fun hc => ?_) <;> (simp only [cmpP] at hc; try exact prIQ))) | (refine opk 8 rfl ?_; first | (refine ost_store1 H rfl rfl vlQ gvQ ixQ (by first | decide | (simp; omega) | (simp; done) | omega) ?_; clear H; intro wk H; simp only [List.set_cons_zero, List.set_cons_succ, Nat.reduceAdd] at H) | (refine ost_storeW H rfl rfl rfl rfl lQ ixQ lQ okQ ?_; clear H; intro wk H; simp only [List.set_cons_zero, List.set_cons_succ, Nat.reduceAdd] at H)) | (refine opk 9 rfl ?_; first | (refine ost_allocA H rfl ?_; clear H; intro bk wk H) | (refine ost_build1 H rfl rfl rfl evQ lsQ rfl ?_; clear H; intro bk wk H))) | refine Wc.seq ?_ | refine then_n ?_ | refine WL.nil ?_ | refine Wc.region ?_ | refine Wc.block ?_ | refine then_r ?_ | refine then_e ?_ | refine inb_e rfl ?_ | refine inb_o rfl ?_ | refine inb_n ?_ | refine inb_r ?_ | refine Wc.skip ?_ | refine Wc.exit ?_ | refine Wc.ret ?_ | refine Wc.cond_true rfl ?_ | refine Wc.cond_false rfl ?_ | refine WL.skp rfl rfl ?_ | refine WL.sku rfl ?_)
                  subst e9
                  exact fn_ret2 (v2 := .int _ _) rfl (rv_cellA rfl rfl H.bI lQ) rfl ⟨_, _, H.pick0, ⟨ao, co, at_, ct⟩, by rw [← hQ, List.length_map, List.length_map]; rfl, rfl, by rw [← hQ]; exact ⟨hO7.mono hle8, hA8⟩⟩
                | false =>
                  rw [o2] at hnum
                  repeat' (first | ((first | refine WL.p rfl ?_ | refine WL.u ?_ | refine WL.g rfl rfl ?_ | refine WL.gu rfl ?_); first | (refine opk 1 rfl ?_; first | (refine ost_Sk H rfl (hF _ _ _ _ H.sat hT8 (hr8.drop (n := used) hu)) rfl ?_; clear H; rintro vk wk hfk Lk ⟨a7, c7, rfl, e9, rfl⟩ hle H; simp only [List.cons_append, List.nil_append] at H) | (refine ost_V H rfl (hop _ _ _ _ (sat_full _) (H.own8rd (by (exact ixQ))) (by omega)) rfl ?_; clear H; intro wk H) | (refine ost_V H rfl (hnum _ _ _ _ (sat_full _) (H.own8rd (by (exact ixQ))) (by omega)) rfl ?_; clear H; intro wk H)) | refine pvQ ?_ | (refine opk 3 rfl ?_; (refine ost_cmp rfl rfl rfl rfl (fun hc => ?_) (fun hc => ?_) <;> (simp only [cmpP] at hc; try exact prIQ))) | (refine opk 4 rfl ?_; (refine ost_cmp rfl rfl rfl rfl (fun hc => ?_) (fun hc => ?_) <;> (simp only [cmpP] at hc; try exact prIQ))) | (refine opk 8 rfl ?_; first | (refine ost_store1 H rfl rfl vlQ gvQ ixQ (by first | decide | (simp; omega) | (simp; done) | omega) ?_; clear H; intro wk H; simp only [List.set_cons_zero, List.set_cons_succ, Nat.reduceAdd] at H) | (refine ost_storeW H rfl rfl rfl rfl lQ ixQ lQ okQ ?_; clear H; intro wk H; simp only [List.set_cons_zero, List.set_cons_succ, Nat.reduceAdd] at H)) | (refine opk 9 rfl ?_; first | (refine ost_allocA H rfl ?_; clear H; intro bk wk H) | (refine ost_build1 H rfl rfl rfl evQ lsQ rfl ?_; clear H; intro bk wk H))) | refine Wc.seq ?_ | refine then_n ?_ | refine WL.nil ?_ | refine Wc.region ?_ | refine Wc.block ?_ | refine then_r ?_ | refine then_e ?_ | refine inb_e rfl ?_ | refine inb_o rfl ?_ | refine inb_n ?_ | refine inb_r ?_ | refine Wc.skip ?_ | refine Wc.exit ?_ | refine Wc.ret ?_ | refine Wc.cond_true rfl ?_ | refine Wc.cond_false rfl ?_ | refine WL.skp rfl rfl ?_ | refine WL.sku rfl ?_)
                  subst e9
                  exact fn_ret2 (v2 := .int _ _) rfl (rv_cellA rfl rfl H.bI lQ) rfl ⟨_, _, H.pick0, ⟨ao, co, at_, ct⟩, by rw [← hQ, List.length_map, List.length_map]; rfl, rfl, by rw [← hQ]; exact ⟨hO7.mono hle8, hA8⟩⟩
          · have q1 := q1 (by omega)
            rw [q1] at hQ
            obtain ⟨ao7, co7, h7, e7, hle7, hO7, H9⟩ := H.freezeR (rows_cOp ops)
            injection e7 with e71 e72 e73
            subst e71; subst e73
            obtain ⟨at8, ct8, h8, e8, hle8, hA8, H7⟩ := H9.freezeR (rows_cI ats)
            injection e8 with e81 e82 e83
            subst e81; subst e83
            clear H H9
            have H := H7
            clear H7
            have hT8 := (hT6.mono hle7).mono hle8
            have hr8 := (hrb.mono hle7).mono hle8
            repeat' (first | ((first | refine WL.p rfl ?_ | refine WL.u ?_ | refine WL.g rfl rfl ?_ | refine WL.gu rfl ?_); first | (refine opk 1 rfl ?_; (refine ost_Sk H rfl (hF _ _ _ _ H.sat hT8 (hr8.drop (n := used) hu)) rfl ?_; clear H; rintro vk wk hfk Lk ⟨a7, c7, rfl, e9, rfl⟩ hle H; simp only [List.cons_append, List.nil_append] at H)) | refine pvQ ?_ | (refine opk 3 rfl ?_; (refine ost_cmp rfl rfl rfl rfl (fun hc => ?_) (fun hc => ?_) <;> (simp only [cmpP] at hc; try exact prIQ))) | (refine opk 4 rfl ?_; (refine ost_cmp rfl rfl rfl rfl (fun hc => ?_) (fun hc => ?_) <;> (simp only [cmpP] at hc; try exact prIQ))) | (refine opk 8 rfl ?_; first | (refine ost_store1 H rfl rfl vlQ gvQ ixQ (by first | decide | (simp; omega) | (simp; done) | omega) ?_; clear H; intro wk H; simp only [List.set_cons_zero, List.set_cons_succ, Nat.reduceAdd] at H) | (refine ost_storeW H rfl rfl rfl rfl lQ ixQ lQ okQ ?_; clear H; intro wk H; simp only [List.set_cons_zero, List.set_cons_succ, Nat.reduceAdd] at H)) | (refine opk 9 rfl ?_; first | (refine ost_allocA H rfl ?_; clear H; intro bk wk H) | (refine ost_build1 H rfl rfl rfl evQ lsQ rfl ?_; clear H; intro bk wk H))) | refine Wc.seq ?_ | refine then_n ?_ | refine WL.nil ?_ | refine Wc.region ?_ | refine Wc.block ?_ | refine then_r ?_ | refine then_e ?_ | refine inb_e rfl ?_ | refine inb_o rfl ?_ | refine inb_n ?_ | refine inb_r ?_ | refine Wc.skip ?_ | refine Wc.exit ?_ | refine Wc.ret ?_ | refine Wc.cond_true rfl ?_ | refine Wc.cond_false rfl ?_ | refine WL.skp rfl rfl ?_ | refine WL.sku rfl ?_)
            subst e9
            exact fn_ret2 (v2 := .int _ _) rfl (rv_cellA rfl rfl H.bI lQ) rfl ⟨_, _, H.pick0, ⟨ao, co, at_, ct⟩, by rw [← hQ, List.length_map, List.length_map]; rfl, rfl, by rw [← hQ]; exact ⟨hO7.mono hle8, hA8⟩⟩
  · have hD := hno he
    rw [hD]
    repeat' (first | ((first | refine WL.p rfl ?_ | refine WL.u ?_ | refine WL.g rfl rfl ?_ | refine WL.gu rfl ?_); first | (refine opk 1 rfl ?_; (refine ost_V H rfl (hnum _ H.sat hr6 (by omega)) rfl ?_; clear H; intro wk H)) | refine pvQ ?_ | (refine opk 3 rfl ?_; (refine ost_cmp rfl rfl rfl rfl (fun hc => ?_) (fun hc => ?_) <;> (simp only [cmpP] at hc; try exact prIQ))) | (refine opk 4 rfl ?_; (refine ost_cmp rfl rfl rfl rfl (fun hc => ?_) (fun hc => ?_) <;> (simp only [cmpP] at hc; try exact prIQ))) | (refine opk 8 rfl ?_; first | (refine ost_store1 H rfl rfl vlQ gvQ ixQ (by first | decide | (simp; omega) | (simp; done) | omega) ?_; clear H; intro wk H; simp only [List.set_cons_zero, List.set_cons_succ, Nat.reduceAdd] at H) | (refine ost_storeW H rfl rfl rfl rfl lQ ixQ lQ okQ ?_; clear H; intro wk H; simp only [List.set_cons_zero, List.set_cons_succ, Nat.reduceAdd] at H)) | (refine opk 9 rfl ?_; first | (refine ost_allocA H rfl ?_; clear H; intro bk wk H) | (refine ost_build1 H rfl rfl rfl evQ lsQ rfl ?_; clear H; intro bk wk H))) | refine Wc.seq ?_ | refine then_n ?_ | refine WL.nil ?_ | refine Wc.region ?_ | refine Wc.block ?_ | refine then_r ?_ | refine then_e ?_ | refine inb_e rfl ?_ | refine inb_o rfl ?_ | refine inb_n ?_ | refine inb_r ?_ | refine Wc.skip ?_ | refine Wc.exit ?_ | refine Wc.ret ?_ | refine Wc.cond_true rfl ?_ | refine Wc.cond_false rfl ?_ | refine WL.skp rfl rfl ?_ | refine WL.sku rfl ?_)
    all_goals exact fn_ret2 (v2 := .int _ _) rfl (rv_cellA rfl rfl H.bI lQ) rfl ⟨_, _, H.pick0, zeroIA, rfl, rfl, zeroI_R _⟩
end Go.Tg

