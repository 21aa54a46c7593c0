/- Contracts of Go functions that the laws reach: what each call answers and leaves in memory, for all arguments within the bounds that each theorem names. -/
import Derived.Test.YtajfhoeejeadkaaDoorInst
import Derived.Test.YtajfhoeejeadkaaDoorAuto
import Derived.Test.YtajfhoeejeadkaaDoorSl
set_option linter.unusedVariables false
set_option linter.unusedSimpArgs false
set_option maxRecDepth 100000
set_option maxHeartbeats 4000000
namespace Go.Tg
open Go Go.Proofs
abbrev V16 := Fin 16 → UInt32
def u32 (x : UInt32) : Value := .int .u32 x.toNat
def cV (a : V16) : List Value := List.ofFn fun i => u32 (a i)
theorem cV_len (a : V16) : (cV a).length = 16 := by simp [cV]
theorem cV_get (a : V16) (k : Nat) (h : k < 16) : (cV a)[k]? = some (u32 (a ⟨k, h⟩)) := by rw [cV, List.getElem?_ofFn, dif_pos h]
theorem cV_getI (a : V16) (k : Nat) (h : k < 16) : (cV a)[(k : Int).toNat]? = some (u32 (a ⟨k, h⟩)) := cV_get a k h
theorem cV_getO (a : V16) (k : Nat) (h : k < 16) : (cV a)[0 + (k : Int).toNat * 1]? = some (u32 (a ⟨k, h⟩)) := by simpa using cV_get a k h
theorem cV_set (a : V16) (k : Nat) (h : k < 16) (x : UInt32) : (cV a).set k (u32 x) = cV (fun i => if i.val = k then x else a i) := by
  apply List.ext_getElem?
  intro i
  rw [List.getElem?_set]
  by_cases hi : i < 16
  · rw [cV_get _ i hi, cV_get _ i hi, cV_len]
    by_cases e : k = i
    · subst e; simp [h]
    · simp [e, Ne.symm e]
  · rw [List.getElem?_eq_none (by rw [cV_len]; omega), List.getElem?_eq_none (by rw [cV_len]; omega)]
    split
    · rename_i e; subst e; simp [cV_len, hi]
    · rfl
theorem cV_one (a : V16) : ∀ v ∈ cV a, v.oneCell' = true := by
  intro v hv
  rw [cV, List.mem_ofFn] at hv
  obtain ⟨i, rfl⟩ := hv; rfl
theorem u32_inj {a b : UInt32} (h : u32 a = u32 b) : a = b := by
  unfold u32 at h; injection h with _ h; exact UInt32.toNat_inj.1 (by omega)
theorem cV_inj {a b : V16} : cV a = cV b ↔ a = b := by
  constructor
  · intro h; funext i
    have h1 := cV_get a i.val i.isLt
    rw [h, cV_get b i.val i.isLt] at h1
    exact (u32_inj (Option.some.inj h1)).symm
  · intro h; rw [h]
theorem typed_cV (a : V16) : Typed [.i .u32, .i .u32, .i .u32, .i .u32, .i .u32, .i .u32, .i .u32, .i .u32, .i .u32, .i .u32, .i .u32, .i .u32, .i .u32, .i .u32, .i .u32, .i .u32] (cV a) := by
  simp [Typed, cV, shp, u32]
def atV (a : V16) (i : Nat) : UInt32 := if h : i < 16 then a ⟨i, h⟩ else 0
structure DotT where
  rep : UInt8
  seq : UInt32
def dotB (d : DotT) : Bool := decide (d.rep.toNat < 16) && decide (1 ≤ d.seq.toNat) && decide (d.seq.toNat ≤ 1048576)
theorem atV_lt (a : V16) {i : Nat} (h : i < 16) : atV a i = a ⟨i, h⟩ := by simp [atV, h]
theorem cV_at (a : V16) {i : Nat} (h : i < 16) : (cV a)[0 + (i : Int).toNat * 1]? = some (u32 (atV a i)) := by rw [atV_lt a h]; exact cV_getO a i h
theorem cV_zero : cV (fun _ => 0) = List.replicate 16 (.int .u32 0) := rfl
end Go.Tg

set_option linter.unusedVariables false
set_option linter.unusedSimpArgs false
set_option maxRecDepth 100000
set_option maxHeartbeats 4000000
namespace Go.Tg
open Go Go.Proofs
def rightV (a : V16) (n : Int) : Bool := decide (1 ≤ n) && decide (n ≤ 16) && (List.range 16).all fun i => decide ((atV a i).toNat ≤ 1048576) && (decide ((i : Int) < n) || decide ((atV a i).toNat = 0))
theorem rightV_iff {a : V16} {n : Int} : rightV a n = true ↔ (1 ≤ n ∧ n ≤ 16) ∧ ∀ i, i < 16 → (atV a i).toNat ≤ 1048576 ∧ ((i : Int) < n ∨ (atV a i).toNat = 0) := by
  simp [rightV]
theorem ref4_Right (a : V16) (n : Int) (w : World) : SpecV Tryd.prog 102 #[.agg (cV a).toArray, .int .i64 n] w (.bool (rightV a n)) := by
  refine specV_of fun h0 hs H => ?_
  refine calls_of Tryd.func102 rfl Tryd.ntmps102 (by simp) ?_
  repeat' (first | ((first | refine WL.p rfl ?_ | refine WL.u ?_ | refine WL.g rfl rfl ?_ | refine WL.gu rfl ?_); first | refine pvQ ?_ | (refine opk 3 rfl ?_; (refine ost_cmp rfl rfl rfl rfl (fun hc => ?_) (fun hc => ?_) <;> (simp only [cmpP] at hc; try exact prIQ))) | (refine opk 4 rfl ?_; (refine ost_cmp rfl rfl rfl rfl (fun hc => ?_) (fun hc => ?_) <;> (simp only [cmpP] at hc; try exact prIQ))) | (refine opk 9 rfl ?_; (refine ost_boxq H rfl ?_; clear H; intro bk wk H))) | refine Wc.seq ?_ | refine then_n ?_ | refine WL.nil ?_ | refine Wc.region ?_ | refine Wc.block ?_ | refine then_r ?_ | refine then_e ?_ | refine inb_e rfl ?_ | refine inb_o rfl ?_ | refine inb_n ?_ | refine inb_r ?_ | refine Wc.skip ?_ | refine Wc.exit ?_ | refine Wc.ret ?_ | refine Wc.cond_true rfl ?_ | refine Wc.cond_false rfl ?_ | refine WL.skp rfl rfl ?_ | refine WL.sku rfl ?_)
  refine Wc.loopE (fun s0 m s w' => ∃ k : Nat, m = 16 - k ∧ k ≤ 16 ∧ Agree [4, 5, 6, 7, 8, 9, 10, 11, 12, 13, 14, 15, 16, 17, 18, 19, 20, 21, 22, 23, 24] s s0 ∧ s 5 = .int .i64 k ∧ (∀ i, i < k → (atV a i).toNat ≤ 1048576 ∧ ((i : Int) < n ∨ (atV a i).toNat = 0)) ∧
    St w [] h0 h0 [.blk bk (.cells (cV a).toArray 65 (0, 0))] w') 16 ⟨0, rfl, by omega, Agree.refl _ _, rfl, by omega, H⟩ ?_
  clear H
  rintro m s w' ⟨k, rfl, hk, hA, h5, hle, H⟩
  obtain ⟨j, rfl⟩ := hA.env1 h5
  clear hA h5
  by_cases hlt : k < 16
  · have g1 := cV_at a hlt
    have no : ¬ ((atV a k).toNat ≤ 1048576 ∧ ((k : Int) < n ∨ (atV a k).toNat = 0)) → rightV a n = false := fun h => by
      cases hr : rightV a n with
      | false => rfl
      | true => exact absurd ((rightV_iff.1 hr).2 k hlt) h
    repeat' (first | ((first | refine WL.p rfl ?_ | refine WL.u ?_ | refine WL.g rfl rfl ?_ | refine WL.gu rfl ?_); first | refine pvQ ?_ | (refine opk 3 rfl ?_; (refine ost_cmp rfl rfl rfl rfl (fun hc => ?_) (fun hc => ?_) <;> (simp only [cmpP] at hc; try exact prIQ))) | (refine opk 4 rfl ?_; (refine ost_cmp rfl rfl rfl rfl (fun hc => ?_) (fun hc => ?_) <;> (simp only [cmpP] at hc; try exact prIQ))) | (refine opk 9 rfl ?_; (refine ost_boxq H rfl ?_; clear H; intro bk wk H))) | refine Wc.seq ?_ | refine then_n ?_ | refine WL.nil ?_ | refine Wc.region ?_ | refine Wc.block ?_ | refine then_r ?_ | refine then_e ?_ | refine inb_e rfl ?_ | refine inb_o rfl ?_ | refine inb_n ?_ | refine inb_r ?_ | refine Wc.skip ?_ | refine Wc.exit ?_ | refine Wc.ret ?_ | refine Wc.cond_true rfl ?_ | refine Wc.cond_false rfl ?_ | refine WL.skp rfl rfl ?_ | refine WL.sku rfl ?_)
    all_goals first
      | ((first | refine fn_ret1 (v := .bool _) rfl rfl ⟨?_, H.fr⟩ | refine fn_ret1 (v := .int _ _) rfl rfl ⟨?_, H.fr⟩ | refine fn_ret1 (v := .string _) rfl rfl ⟨?_, H.fr⟩); rw [no (by omega)])
      | exact ⟨16 - (k + 1), by omega, k + 1, rfl, by omega, by (repeat' (first | exact Agree.refl _ _ | exact Agree.havoc | refine Agree.upd rfl ?_ | refine Agree.hav2 rfl ?_)), rfl, fun i hi => by
          by_cases h : i < k
          · exact hle i h
          · obtain rfl : i = k := by omega
            omega, H⟩
  · obtain rfl : k = 16 := by omega
    repeat' (first | ((first | refine WL.p rfl ?_ | refine WL.u ?_ | refine WL.g rfl rfl ?_ | refine WL.gu rfl ?_); first | refine pvQ ?_ | (refine opk 3 rfl ?_; (refine ost_cmp rfl rfl rfl rfl (fun hc => ?_) (fun hc => ?_) <;> (simp only [cmpP] at hc; try exact prIQ))) | (refine opk 4 rfl ?_; (refine ost_cmp rfl rfl rfl rfl (fun hc => ?_) (fun hc => ?_) <;> (simp only [cmpP] at hc; try exact prIQ))) | (refine opk 9 rfl ?_; (refine ost_boxq H rfl ?_; clear H; intro bk wk H))) | refine Wc.seq ?_ | refine then_n ?_ | refine WL.nil ?_ | refine Wc.region ?_ | refine Wc.block ?_ | refine then_r ?_ | refine then_e ?_ | refine inb_e rfl ?_ | refine inb_o rfl ?_ | refine inb_n ?_ | refine inb_r ?_ | refine Wc.skip ?_ | refine Wc.exit ?_ | refine Wc.ret ?_ | refine Wc.cond_true rfl ?_ | refine Wc.cond_false rfl ?_ | refine WL.skp rfl rfl ?_ | refine WL.sku rfl ?_)
    all_goals (first | refine fn_ret1 (v := .bool _) rfl rfl ⟨?_, H.fr⟩ | refine fn_ret1 (v := .int _ _) rfl rfl ⟨?_, H.fr⟩ | refine fn_ret1 (v := .string _) rfl rfl ⟨?_, H.fr⟩)
    · rw [rightV_iff.2 ⟨⟨by omega, by omega⟩, hle⟩]
    · cases hr : rightV a n with
      | false => rfl
      | true => have := (rightV_iff.1 hr).1; omega
    · cases hr : rightV a n with
      | false => rfl
      | true => have := (rightV_iff.1 hr).1; omega
theorem vec_Right (a : V16) (n : Int) (w : World) : SpecV Tryd.prog 101 #[.agg (cV a).toArray, .int .i64 n] w (.bool (rightV a n)) := by
  refine specV_of fun h0 hs H => ?_
  refine calls_of Tryd.func101 rfl Tryd.ntmps101 (by simp) ?_
  have la := cV_len a
  by_cases hn : 1 ≤ n ∧ n ≤ 16
  · repeat' (first | ((first | refine WL.p rfl ?_ | refine WL.u ?_ | refine WL.g rfl rfl ?_ | refine WL.gu rfl ?_); first | refine pvQ ?_ | (refine opk 3 rfl ?_; (refine ost_cmp rfl rfl rfl rfl (fun hc => ?_) (fun hc => ?_) <;> (simp only [cmpP] at hc; try exact prIQ))) | (refine opk 4 rfl ?_; (refine ost_cmp rfl rfl rfl rfl (fun hc => ?_) (fun hc => ?_) <;> (simp only [cmpP] at hc; try exact prIQ))) | (refine opk 9 rfl ?_; (refine ost_boxq H rfl ?_; clear H; intro bk wk H))) | refine Wc.seq ?_ | refine then_n ?_ | refine WL.nil ?_ | refine Wc.region ?_ | refine Wc.block ?_ | refine then_r ?_ | refine then_e ?_ | refine inb_e rfl ?_ | refine inb_o rfl ?_ | refine inb_n ?_ | refine inb_r ?_ | refine Wc.skip ?_ | refine Wc.exit ?_ | refine Wc.ret ?_ | refine Wc.cond_true rfl ?_ | refine Wc.cond_false rfl ?_ | refine WL.skp rfl rfl ?_ | refine WL.sku rfl ?_)
    refine Wc.loopE (fun s0 m s w' => ∃ k : Nat, m = 16 - k ∧ k ≤ 16 ∧ Agree [4, 5, 6, 14, 15, 16, 17, 18, 19, 20, 21, 22, 23, 24, 25, 26, 27, 28, 29] s s0 ∧ s 14 = .int .i64 k ∧ (∀ i, i < k → (atV a i).toNat ≤ 1048576 ∧ ((i : Int) < n ∨ (atV a i).toNat = 0)) ∧
      St w [] h0 h0 [.blk bk (.cells (cV a).toArray 65 (0, 0))] w') 16 ⟨0, rfl, by omega, Agree.refl _ _, rfl, by omega, H⟩ ?_
    clear H
    rintro m s w' ⟨k, rfl, hk, hA, h5, hle, H⟩
    obtain ⟨j, rfl⟩ := hA.env1 h5
    clear hA h5
    by_cases hlt : k < 16
    · have g1 : (cV a)[(k : Int).toNat]? = some (u32 (atV a k)) := by rw [atV_lt a hlt]; exact cV_getI a k hlt
      have no : ¬ ((atV a k).toNat ≤ 1048576 ∧ ((k : Int) < n ∨ (atV a k).toNat = 0)) → rightV a n = false := fun h => by
        cases hr : rightV a n with
        | false => rfl
        | true => exact absurd ((rightV_iff.1 hr).2 k hlt) h
      repeat' (first | ((first | refine WL.p rfl ?_ | refine WL.u ?_ | refine WL.g rfl rfl ?_ | refine WL.gu rfl ?_); first | refine pvQ ?_ | (refine opk 3 rfl ?_; (refine ost_cmp rfl rfl rfl rfl (fun hc => ?_) (fun hc => ?_) <;> (simp only [cmpP] at hc; try exact prIQ))) | (refine opk 4 rfl ?_; (refine ost_cmp rfl rfl rfl rfl (fun hc => ?_) (fun hc => ?_) <;> (simp only [cmpP] at hc; try exact prIQ))) | (refine opk 9 rfl ?_; (refine ost_boxq H rfl ?_; clear H; intro bk wk H))) | refine Wc.seq ?_ | refine then_n ?_ | refine WL.nil ?_ | refine Wc.region ?_ | refine Wc.block ?_ | refine then_r ?_ | refine then_e ?_ | refine inb_e rfl ?_ | refine inb_o rfl ?_ | refine inb_n ?_ | refine inb_r ?_ | refine Wc.skip ?_ | refine Wc.exit ?_ | refine Wc.ret ?_ | refine Wc.cond_true rfl ?_ | refine Wc.cond_false rfl ?_ | refine WL.skp rfl rfl ?_ | refine WL.sku rfl ?_)
      all_goals first
        | ((first | refine fn_ret1 (v := .bool _) rfl rfl ⟨?_, H.fr⟩ | refine fn_ret1 (v := .int _ _) rfl rfl ⟨?_, H.fr⟩ | refine fn_ret1 (v := .string _) rfl rfl ⟨?_, H.fr⟩); rw [no (by omega)])
        | exact ⟨16 - (k + 1), by omega, k + 1, rfl, by omega, by (repeat' (first | exact Agree.refl _ _ | exact Agree.havoc | refine Agree.upd rfl ?_ | refine Agree.hav2 rfl ?_)), rfl, fun i hi => by
            by_cases h : i < k
            · exact hle i h
            · obtain rfl : i = k := by omega
              omega, H⟩
    · obtain rfl : k = 16 := by omega
      repeat' (first | ((first | refine WL.p rfl ?_ | refine WL.u ?_ | refine WL.g rfl rfl ?_ | refine WL.gu rfl ?_); first | refine pvQ ?_ | (refine opk 3 rfl ?_; (refine ost_cmp rfl rfl rfl rfl (fun hc => ?_) (fun hc => ?_) <;> (simp only [cmpP] at hc; try exact prIQ))) | (refine opk 4 rfl ?_; (refine ost_cmp rfl rfl rfl rfl (fun hc => ?_) (fun hc => ?_) <;> (simp only [cmpP] at hc; try exact prIQ))) | (refine opk 9 rfl ?_; (refine ost_boxq H rfl ?_; clear H; intro bk wk H))) | refine Wc.seq ?_ | refine then_n ?_ | refine WL.nil ?_ | refine Wc.region ?_ | refine Wc.block ?_ | refine then_r ?_ | refine then_e ?_ | refine inb_e rfl ?_ | refine inb_o rfl ?_ | refine inb_n ?_ | refine inb_r ?_ | refine Wc.skip ?_ | refine Wc.exit ?_ | refine Wc.ret ?_ | refine Wc.cond_true rfl ?_ | refine Wc.cond_false rfl ?_ | refine WL.skp rfl rfl ?_ | refine WL.sku rfl ?_)
      (first | refine fn_ret1 (v := .bool _) rfl rfl ⟨?_, H.fr⟩ | refine fn_ret1 (v := .int _ _) rfl rfl ⟨?_, H.fr⟩ | refine fn_ret1 (v := .string _) rfl rfl ⟨?_, H.fr⟩)
      rw [rightV_iff.2 ⟨hn, hle⟩]
  · have no : rightV a n = false := by
      cases hr : rightV a n with
      | false => rfl
      | true => exact absurd (rightV_iff.1 hr).1 hn
    repeat' (first | ((first | refine WL.p rfl ?_ | refine WL.u ?_ | refine WL.g rfl rfl ?_ | refine WL.gu rfl ?_); first | refine pvQ ?_ | (refine opk 3 rfl ?_; (refine ost_cmp rfl rfl rfl rfl (fun hc => ?_) (fun hc => ?_) <;> (simp only [cmpP] at hc; try exact prIQ))) | (refine opk 4 rfl ?_; (refine ost_cmp rfl rfl rfl rfl (fun hc => ?_) (fun hc => ?_) <;> (simp only [cmpP] at hc; try exact prIQ))) | (refine opk 9 rfl ?_; (refine ost_boxq H rfl ?_; clear H; intro bk wk H))) | refine Wc.seq ?_ | refine then_n ?_ | refine WL.nil ?_ | refine Wc.region ?_ | refine Wc.block ?_ | refine then_r ?_ | refine then_e ?_ | refine inb_e rfl ?_ | refine inb_o rfl ?_ | refine inb_n ?_ | refine inb_r ?_ | refine Wc.skip ?_ | refine Wc.exit ?_ | refine Wc.ret ?_ | refine Wc.cond_true rfl ?_ | refine Wc.cond_false rfl ?_ | refine WL.skp rfl rfl ?_ | refine WL.sku rfl ?_)
    all_goals ((first | refine fn_ret1 (v := .bool _) rfl rfl ⟨?_, H.fr⟩ | refine fn_ret1 (v := .int _ _) rfl rfl ⟨?_, H.fr⟩ | refine fn_ret1 (v := .string _) rfl rfl ⟨?_, H.fr⟩); rw [no])
end Go.Tg

set_option linter.unusedVariables false
set_option linter.unusedSimpArgs false
set_option maxRecDepth 100000
set_option maxHeartbeats 4000000
namespace Go.Tg
open Go Go.Proofs
structure OpT where
  dot : DotT
  kind : UInt8
  cart : UInt16
  item : UInt16
  qty : UInt16
  tick : UInt32
  ctx : V16
def shapedO (o : OpT) : Bool :=
  if o.kind.toNat = 1 then decide (0 < o.qty.toNat) else if o.kind.toNat = 2 then true else if o.kind.toNat = 3 then decide (o.qty.toNat = 0) else if o.kind.toNat = 4 ∨ o.kind.toNat = 5 then decide (o.item.toNat = 0) && decide (o.qty.toNat = 0) else false
end Go.Tg

