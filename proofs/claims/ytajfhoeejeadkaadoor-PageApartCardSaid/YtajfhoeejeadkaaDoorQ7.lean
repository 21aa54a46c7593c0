/- Contracts of Go functions that the laws reach: what each call answers and leaves in memory, for all arguments within the bounds that each theorem names. -/
import Derived.Test.YtajfhoeejeadkaaDoorInst
import Derived.Test.YtajfhoeejeadkaaDoorAuto
import Derived.Test.YtajfhoeejeadkaaDoorQ5
import Derived.Test.YtajfhoeejeadkaaDoorO5
set_option linter.unusedVariables false
set_option linter.unusedSimpArgs false
set_option maxRecDepth 100000
set_option maxHeartbeats 4000000
namespace Go.Tg
open Go Go.Proofs
abbrev tkp (bt b : Nat) (t : TkT) (a : Option Addr) (c : Nat) : HA := .both (.blk bt (.cells [pt b, .bool t.bad].toArray 130 (0, 0))) (rdr b true t.e a t.xs.length c)
theorem tkp_num (bits : Nat) (bt b : Nat) (t : TkT) (a : Option Addr) (c : Nat) (g : FH) (w : World) (HO : St w (tkp bt b t a c).fp g g [tkp bt b t a c] w) (hr : BS g a c t.xs) (hb : bits < 64) :
    Spec Tryd.prog 71 #[pt bt, .int .i64 bits] w (tkp bt b t a c).fp g (fun v' h' L' => v' = .int .u32 (UInt32.ofNat (tkN t)).toNat ∧ h' = g ∧ ∃ a' c', BS g a' c' (tkS t bits).xs ∧ L' = [tkp bt b (tkS t bits) a' c']) := by
  have H := HO.split
  have hn := numE_lt t.e t.xs
  have hu := u32_wrap2 (numE t.e t.xs).1
  unfold Spec
  refine calls_of Tryd.func71 rfl Tryd.ntmps71 (by simp) ?_
  repeat' (first | ((first | refine WL.p rfl ?_ | refine WL.u ?_ | refine WL.g rfl rfl ?_ | refine WL.gu rfl ?_); first | (refine opk 1 rfl ?_; (refine ost_H (A := rdr _ _ _ _ _ _) H rfl (by (exact ixQ)) (fun HO => rd_Num _ _ _ _ _ _ _ HO hr) rfl ?_; clear H; rintro vk wk hfk Lk ⟨rfl, rfl, a2, c2, hr2, rfl⟩ hle H; simp only [List.cons_append, List.nil_append, List.eraseIdx_cons_zero, List.eraseIdx_cons_succ] at H)) | (refine opk 6 rfl ?_; (refine ost_conv rfl rfl ?_)) | refine pvQ ?_ | (refine opk 3 rfl ?_; (refine ost_cmp rfl rfl rfl rfl (fun hc => ?_) (fun hc => ?_) <;> (simp only [cmpP] at hc; try exact prIQ))) | (refine opk 4 rfl ?_; (refine ost_cmp rfl rfl rfl rfl (fun hc => ?_) (fun hc => ?_) <;> (simp only [cmpP] at hc; try exact prIQ))) | (refine opk 8 rfl ?_; (refine ost_store1 H rfl rfl vlQ gvQ ixQ (by first | decide | (simp; omega) | (simp; done) | omega) ?_; clear H; intro wk H; simp only [List.set_cons_zero, List.set_cons_succ, Nat.reduceAdd] at H))) | refine Wc.seq ?_ | refine then_n ?_ | refine WL.nil ?_ | refine Wc.region ?_ | refine Wc.block ?_ | refine then_r ?_ | refine then_e ?_ | refine inb_e rfl ?_ | refine inb_o rfl ?_ | refine inb_n ?_ | refine inb_r ?_ | refine Wc.skip ?_ | refine Wc.exit ?_ | refine Wc.ret ?_ | refine Wc.cond_true rfl ?_ | refine Wc.cond_false rfl ?_ | refine WL.skp rfl rfl ?_ | refine WL.sku rfl ?_)
  all_goals
    have hd : ((numE t.e t.xs).1 : Int).fdiv (2 ^ min (bits : Int).toNat IntKind.u64.bits) = ((tkN t / 2 ^ bits : Nat) : Int) := by
      rw [show min (bits : Int).toNat IntKind.u64.bits = bits by (have : IntKind.u64.bits = 64 := rfl); omega, Int.fdiv_eq_ediv_of_nonneg _ (Int.le_of_lt (Int.pow_pos (by decide)))]
      unfold tkN; simp
    simp only [hd] at *
  · have e : (tkS t bits).bad = true := by simp_all [tkS]
    exact fn_ret1 (v := .int _ _) rfl rfl ⟨_, _, (H.pick2 1 0 rfl rfl (by decide)).join, hu, rfl, a2, c2, hr2, by simp only [tkp]; rw [e]; rfl⟩
  · have e : (tkS t bits).bad = true := by
      have : tkN t / 2 ^ bits ≠ 0 := by omega
      simp [tkS, this]
    exact fn_ret1 (v := .int _ _) rfl rfl ⟨_, _, (H.pick2 1 0 rfl rfl (by decide)).join, hu, rfl, a2, c2, hr2, by simp only [tkp]; rw [e]; rfl⟩
  · have e : (tkS t bits).bad = t.bad := by
      have h1 : tkN t / 2 ^ bits = 0 := by omega
      have h2 : (numE t.e t.xs).2.1 = 0 := by omega
      simp [tkS, h1, h2]
    exact fn_ret1 (v := .int _ _) rfl rfl ⟨_, _, (H.pick2 1 0 rfl rfl (by decide)).join, hu, rfl, a2, c2, hr2, by simp only [tkp]; rw [e]; rfl⟩
end Go.Tg

