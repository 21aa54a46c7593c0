/- Contracts of Go functions that the laws reach: what each call answers and leaves in memory, for all arguments within the bounds that each theorem names. -/
import Derived.Test.YthpeejcmkhglmaaInst
import Derived.Test.YthpeejcmkhglmaaAuto
set_option linter.unusedVariables false
set_option linter.unusedSimpArgs false
set_option maxRecDepth 100000
set_option maxHeartbeats 4000000
namespace Go.Tg
open Go Go.Proofs
abbrev V16 := Fin 16 → UInt32
def u32 (x : UInt32) : Value := .int .u32 x.toNat
def cV (a : V16) : List Value := List.ofFn fun i => u32 (a i)
theorem cV_len (a : V16) : (cV a).length = 16 := by simp [cV]
theorem cV_get (a : V16) (k : Nat) (h : k < 16) : (cV a)[k]? = some (u32 (a ⟨k, h⟩)) := by rw [cV, List.getElem?_ofFn, dif_pos h]
theorem cV_getI (a : V16) (k : Nat) (h : k < 16) : (cV a)[(k : Int).toNat]? = some (u32 (a ⟨k, h⟩)) := cV_get a k h
theorem cV_getO (a : V16) (k : Nat) (h : k < 16) : (cV a)[0 + (k : Int).toNat * 1]? = some (u32 (a ⟨k, h⟩)) := by simpa using cV_get a k h
theorem cV_set (a : V16) (k : Nat) (h : k < 16) (x : UInt32) : (cV a).set k (u32 x) = cV (fun i => if i.val = k then x else a i) := by
  apply List.ext_getElem?
  intro i
  rw [List.getElem?_set]
  by_cases hi : i < 16
  · rw [cV_get _ i hi, cV_get _ i hi, cV_len]
    by_cases e : k = i
    · subst e; simp [h]
    · simp [e, Ne.symm e]
  · rw [List.getElem?_eq_none (by rw [cV_len]; omega), List.getElem?_eq_none (by rw [cV_len]; omega)]
    split
    · rename_i e; subst e; simp [cV_len, hi]
    · rfl
theorem cV_one (a : V16) : ∀ v ∈ cV a, v.oneCell' = true := by
  intro v hv
  rw [cV, List.mem_ofFn] at hv
  obtain ⟨i, rfl⟩ := hv; rfl
theorem u32_max (a b : UInt32) : (max (a.toNat : Int) (b.toNat : Int)) = ((max a b).toNat : Int) := by
  rw [show max a b = if a ≤ b then b else a from rfl]
  split <;> rename_i h <;> rw [UInt32.le_iff_toNat_le] at h <;> omega
theorem u32_min (a b : UInt32) : (min (a.toNat : Int) (b.toNat : Int)) = ((min a b).toNat : Int) := by
  rw [show min a b = if a ≤ b then a else b from rfl]
  split <;> rename_i h <;> rw [UInt32.le_iff_toNat_le] at h <;> omega

theorem u32_inj {a b : UInt32} (h : u32 a = u32 b) : a = b := by
  unfold u32 at h; injection h with _ h; exact UInt32.toNat_inj.1 (by omega)
theorem cV_inj {a b : V16} : cV a = cV b ↔ a = b := by
  constructor
  · intro h; funext i
    have h1 := cV_get a i.val i.isLt
    rw [h, cV_get b i.val i.isLt] at h1
    exact (u32_inj (Option.some.inj h1)).symm
  · intro h; rw [h]
theorem typed_cV (a : V16) : Typed [.i .u32, .i .u32, .i .u32, .i .u32, .i .u32, .i .u32, .i .u32, .i .u32, .i .u32, .i .u32, .i .u32, .i .u32, .i .u32, .i .u32, .i .u32, .i .u32] (cV a) := by
  simp [Typed, cV, shp, u32]
def leV (a b : V16) : Bool := (List.finRange 16).all fun i => decide (a i ≤ b i)
theorem leV_iff {a b : V16} : leV a b = true ↔ ∀ i, a i ≤ b i := by simp [leV]
def eqV (a b : V16) : Bool := (List.finRange 16).all fun i => a i == b i
theorem eqV_iff {a b : V16} : eqV a b = true ↔ a = b := by
  simp only [eqV, List.all_eq_true, beq_iff_eq]
  exact ⟨fun h => funext fun i => h i (List.mem_finRange i), fun h i _ => by rw [h]⟩
def joinV (a b : V16) : V16 := fun i => max (a i) (b i)
def meetV (a b : V16) : V16 := fun i => min (a i) (b i)
theorem le_max32 {a b : UInt32} : max a b = b ↔ a ≤ b := by
  rw [show max a b = if a ≤ b then b else a from rfl]
  by_cases h : a ≤ b
  · simp [h]
  · simp only [h, if_false, iff_false]; intro e; subst e; exact h (UInt32.le_refl _)
theorem join_eq {a b : V16} : joinV a b = b ↔ leV a b = true := by
  rw [leV_iff]
  exact ⟨fun h i => le_max32.1 (congrFun h i), fun h => funext fun i => le_max32.2 (h i)⟩
theorem max_comm32 (a b : UInt32) : max a b = max b a := by
  apply UInt32.toNat_inj.1
  have h1 := u32_max a b; have h2 := u32_max b a
  omega
theorem joinV_comm (a b : V16) : joinV a b = joinV b a := funext fun i => max_comm32 _ _
def orderV (a b : V16) : Int := if eqV a b then 0 else if leV a b then -1 else if leV b a then 1 else 2
/-- A place of a vector, whatever the number. -/
def atV (a : V16) (i : Nat) : UInt32 := if h : i < 16 then a ⟨i, h⟩ else 0
structure DotT where
  rep : UInt8
  seq : UInt32
def cDot (d : DotT) : List Value := [.int .u8 d.rep.toNat, .int .u32 d.seq.toNat]
def dotB (d : DotT) : Bool := decide (d.rep.toNat < 16) && decide (1 ≤ d.seq.toNat) && decide (d.seq.toNat ≤ 1048576)
def hasV (a : V16) (d : DotT) : Bool := dotB d && decide (d.seq ≤ atV a d.rep.toNat)
set_option maxHeartbeats 1000000 in
theorem vec_Join (a b : V16) (w : World) : SpecV Try.prog 49 #[.agg (cV a).toArray, .agg (cV b).toArray] w (.agg (cV (joinV a b)).toArray) := by
  refine specV_of fun h0 hs H => ?_
  refine calls_of Try.func49 rfl Try.ntmps49 (by simp) ?_
  have la := cV_len a
  have lb := cV_len b
  repeat' (first | ((first | refine WL.p rfl ?_ | refine WL.u ?_); first | refine pvQ ?_ | (refine opk 3 rfl ?_; (refine ost_cmp rfl rfl rfl rfl (fun hc => ?_) (fun hc => ?_) <;> (simp only [cmpP] at hc; try exact prIQ))) | (refine opk 4 rfl ?_; (refine ost_cmp rfl rfl rfl rfl (fun hc => ?_) (fun hc => ?_) <;> (simp only [cmpP] at hc; try exact prIQ))) | (refine opk 8 rfl ?_; first | (refine ost_store1 H rfl rfl vlQ gvQ ixQ (by first | decide | (simp; omega) | (simp; done) | omega) ?_; clear H; intro wk H; simp only [List.set_cons_zero, List.set_cons_succ, Nat.reduceAdd] at H) | (refine ost_storeW H rfl rfl rfl rfl lQ ixQ lQ okQ ?_; clear H; intro wk H; simp only [List.set_cons_zero, List.set_cons_succ, Nat.reduceAdd] at H)) | (refine opk 9 rfl ?_; first | (refine ost_boxq H rfl ?_; clear H; intro bk wk H) | (refine ost_allocA H rfl ?_; clear H; intro bk wk H))) | refine Wc.seq ?_ | refine then_n ?_ | refine WL.nil ?_ | refine Wc.region ?_ | refine Wc.block ?_ | refine then_r ?_ | refine then_e ?_ | refine inb_e rfl ?_ | refine inb_o rfl ?_ | refine inb_n ?_ | refine inb_r ?_ | refine Wc.skip ?_ | refine Wc.exit ?_ | refine Wc.ret ?_ | refine Wc.cond_true rfl ?_ | refine Wc.cond_false rfl ?_)
  rename_i b1 w1 b2 w2
  refine Wc.loopE (fun s0 m s w' => ∃ k : Nat, m = 16 - k ∧ k ≤ 16 ∧ Agree [5, 6, 8, 9, 10, 11, 12, 13, 14, 15, 16, 17, 18, 19] s s0 ∧ s 8 = .int .i64 k ∧
    St w [] h0 h0 [.blk bk (.cells (List.replicate 16 (.int .u32 0)).toArray 64 (0, 0)), .blk b2 (.cells (cV b).toArray 64 (0, 0)), .blk b1 (.cells (cV fun i => if i.val < k then max (a i) (b i) else a i).toArray 64 (0, 0))] w') 16 ⟨0, rfl, by omega, Agree.refl _ _, rfl, by simpa using H⟩ ?_
  clear H
  rintro m s w' ⟨k, rfl, hk, hA, h8, H⟩
  obtain ⟨j, rfl⟩ := hA.env1 h8
  clear hA h8
  by_cases hlt : k < 16
  · have g1 := cV_getI b k hlt
    have g2 := cV_getO (fun i => if i.val < k then max (a i) (b i) else a i) k hlt
    have g3 := cV_len (fun i => if i.val < k then max (a i) (b i) else a i)
    repeat' (first | ((first | refine WL.p rfl ?_ | refine WL.u ?_); first | refine pvQ ?_ | (refine opk 3 rfl ?_; (refine ost_cmp rfl rfl rfl rfl (fun hc => ?_) (fun hc => ?_) <;> (simp only [cmpP] at hc; try exact prIQ))) | (refine opk 4 rfl ?_; (refine ost_cmp rfl rfl rfl rfl (fun hc => ?_) (fun hc => ?_) <;> (simp only [cmpP] at hc; try exact prIQ))) | (refine opk 8 rfl ?_; first | (refine ost_store1 H rfl rfl vlQ gvQ ixQ (by first | decide | (simp; omega) | (simp; done) | omega) ?_; clear H; intro wk H; simp only [List.set_cons_zero, List.set_cons_succ, Nat.reduceAdd] at H) | (refine ost_storeW H rfl rfl rfl rfl lQ ixQ lQ okQ ?_; clear H; intro wk H; simp only [List.set_cons_zero, List.set_cons_succ, Nat.reduceAdd] at H)) | (refine opk 9 rfl ?_; first | (refine ost_boxq H rfl ?_; clear H; intro bk wk H) | (refine ost_allocA H rfl ?_; clear H; intro bk wk H))) | refine Wc.seq ?_ | refine then_n ?_ | refine WL.nil ?_ | refine Wc.region ?_ | refine Wc.block ?_ | refine then_r ?_ | refine then_e ?_ | refine inb_e rfl ?_ | refine inb_o rfl ?_ | refine inb_n ?_ | refine inb_r ?_ | refine Wc.skip ?_ | refine Wc.exit ?_ | refine Wc.ret ?_ | refine Wc.cond_true rfl ?_ | refine Wc.cond_false rfl ?_)
    simp only [u32_max] at H
    refine ⟨16 - (k + 1), by omega, k + 1, rfl, by omega, ?_, rfl, ?_⟩
    · (repeat' (first | exact Agree.refl _ _ | exact Agree.havoc | refine Agree.upd rfl ?_ | refine Agree.hav2 rfl ?_))
    · have e := cV_set (fun i => if i.val < k then max (a i) (b i) else a i) k hlt (max (a ⟨k, hlt⟩) (b ⟨k, hlt⟩))
      have e2 : (fun i : Fin 16 => if i.val < k + 1 then max (a i) (b i) else a i) = fun i => if i.val = k then max (a ⟨k, hlt⟩) (b ⟨k, hlt⟩) else if i.val < k then max (a i) (b i) else a i := by
        funext i
        by_cases h1 : i.val = k
        · rw [if_pos (by omega), if_pos h1]
          have : i = ⟨k, hlt⟩ := Fin.ext h1
          rw [this]
        · rw [if_neg h1]
          by_cases h2 : i.val < k
          · rw [if_pos h2, if_pos (by omega)]
          · rw [if_neg h2, if_neg (by omega)]
      rw [e2, ← e]
      simp only [Nat.lt_irrefl, if_false, Int.toNat_natCast, Nat.zero_add, Nat.mul_one] at H
      exact H
  · obtain rfl : k = 16 := by omega
    have g3 := cV_len (fun i => if i.val < 16 then max (a i) (b i) else a i)
    have g4 : (List.replicate 16 (Value.int .u32 0)).length = 16 := by simp
    have g5 := cV_one (fun i => if i.val < 16 then max (a i) (b i) else a i)
    repeat' (first | ((first | refine WL.p rfl ?_ | refine WL.u ?_); first | refine pvQ ?_ | (refine opk 3 rfl ?_; (refine ost_cmp rfl rfl rfl rfl (fun hc => ?_) (fun hc => ?_) <;> (simp only [cmpP] at hc; try exact prIQ))) | (refine opk 4 rfl ?_; (refine ost_cmp rfl rfl rfl rfl (fun hc => ?_) (fun hc => ?_) <;> (simp only [cmpP] at hc; try exact prIQ))) | (refine opk 8 rfl ?_; first | (refine ost_store1 H rfl rfl vlQ gvQ ixQ (by first | decide | (simp; omega) | (simp; done) | omega) ?_; clear H; intro wk H; simp only [List.set_cons_zero, List.set_cons_succ, Nat.reduceAdd] at H) | (refine ost_storeW H rfl rfl rfl rfl lQ ixQ lQ okQ ?_; clear H; intro wk H; simp only [List.set_cons_zero, List.set_cons_succ, Nat.reduceAdd] at H)) | (refine opk 9 rfl ?_; first | (refine ost_boxq H rfl ?_; clear H; intro bk wk H) | (refine ost_allocA H rfl ?_; clear H; intro bk wk H))) | refine Wc.seq ?_ | refine then_n ?_ | refine WL.nil ?_ | refine Wc.region ?_ | refine Wc.block ?_ | refine then_r ?_ | refine then_e ?_ | refine inb_e rfl ?_ | refine inb_o rfl ?_ | refine inb_n ?_ | refine inb_r ?_ | refine Wc.skip ?_ | refine Wc.exit ?_ | refine Wc.ret ?_ | refine Wc.cond_true rfl ?_ | refine Wc.cond_false rfl ?_)
    refine fn_ret1 rfl (rv_cellA rfl rfl (H.blk idx0) g3) ⟨?_, H.fr⟩
    have : (fun i : Fin 16 => if i.val < 16 then max (a i) (b i) else a i) = joinV a b := by funext i; rw [if_pos i.isLt]; rfl
    rw [this]
set_option maxHeartbeats 1000000 in
theorem vec_Meet (a b : V16) (w : World) : SpecV Try.prog 51 #[.agg (cV a).toArray, .agg (cV b).toArray] w (.agg (cV (meetV a b)).toArray) := by
  refine specV_of fun h0 hs H => ?_
  refine calls_of Try.func51 rfl Try.ntmps51 (by simp) ?_
  have la := cV_len a
  have lb := cV_len b
  repeat' (first | ((first | refine WL.p rfl ?_ | refine WL.u ?_); first | refine pvQ ?_ | (refine opk 3 rfl ?_; (refine ost_cmp rfl rfl rfl rfl (fun hc => ?_) (fun hc => ?_) <;> (simp only [cmpP] at hc; try exact prIQ))) | (refine opk 4 rfl ?_; (refine ost_cmp rfl rfl rfl rfl (fun hc => ?_) (fun hc => ?_) <;> (simp only [cmpP] at hc; try exact prIQ))) | (refine opk 8 rfl ?_; first | (refine ost_store1 H rfl rfl vlQ gvQ ixQ (by first | decide | (simp; omega) | (simp; done) | omega) ?_; clear H; intro wk H; simp only [List.set_cons_zero, List.set_cons_succ, Nat.reduceAdd] at H) | (refine ost_storeW H rfl rfl rfl rfl lQ ixQ lQ okQ ?_; clear H; intro wk H; simp only [List.set_cons_zero, List.set_cons_succ, Nat.reduceAdd] at H)) | (refine opk 9 rfl ?_; first | (refine ost_boxq H rfl ?_; clear H; intro bk wk H) | (refine ost_allocA H rfl ?_; clear H; intro bk wk H))) | refine Wc.seq ?_ | refine then_n ?_ | refine WL.nil ?_ | refine Wc.region ?_ | refine Wc.block ?_ | refine then_r ?_ | refine then_e ?_ | refine inb_e rfl ?_ | refine inb_o rfl ?_ | refine inb_n ?_ | refine inb_r ?_ | refine Wc.skip ?_ | refine Wc.exit ?_ | refine Wc.ret ?_ | refine Wc.cond_true rfl ?_ | refine Wc.cond_false rfl ?_)
  rename_i b1 w1 b2 w2
  refine Wc.loopE (fun s0 m s w' => ∃ k : Nat, m = 16 - k ∧ k ≤ 16 ∧ Agree [5, 6, 8, 9, 10, 11, 12, 13, 14, 15, 16, 17, 18, 19] s s0 ∧ s 8 = .int .i64 k ∧
    St w [] h0 h0 [.blk bk (.cells (List.replicate 16 (.int .u32 0)).toArray 64 (0, 0)), .blk b2 (.cells (cV b).toArray 64 (0, 0)), .blk b1 (.cells (cV fun i => if i.val < k then min (a i) (b i) else a i).toArray 64 (0, 0))] w') 16 ⟨0, rfl, by omega, Agree.refl _ _, rfl, by simpa using H⟩ ?_
  clear H
  rintro m s w' ⟨k, rfl, hk, hA, h8, H⟩
  obtain ⟨j, rfl⟩ := hA.env1 h8
  clear hA h8
  by_cases hlt : k < 16
  · have g1 := cV_getI b k hlt
    have g2 := cV_getO (fun i => if i.val < k then min (a i) (b i) else a i) k hlt
    have g3 := cV_len (fun i => if i.val < k then min (a i) (b i) else a i)
    repeat' (first | ((first | refine WL.p rfl ?_ | refine WL.u ?_); first | refine pvQ ?_ | (refine opk 3 rfl ?_; (refine ost_cmp rfl rfl rfl rfl (fun hc => ?_) (fun hc => ?_) <;> (simp only [cmpP] at hc; try exact prIQ))) | (refine opk 4 rfl ?_; (refine ost_cmp rfl rfl rfl rfl (fun hc => ?_) (fun hc => ?_) <;> (simp only [cmpP] at hc; try exact prIQ))) | (refine opk 8 rfl ?_; first | (refine ost_store1 H rfl rfl vlQ gvQ ixQ (by first | decide | (simp; omega) | (simp; done) | omega) ?_; clear H; intro wk H; simp only [List.set_cons_zero, List.set_cons_succ, Nat.reduceAdd] at H) | (refine ost_storeW H rfl rfl rfl rfl lQ ixQ lQ okQ ?_; clear H; intro wk H; simp only [List.set_cons_zero, List.set_cons_succ, Nat.reduceAdd] at H)) | (refine opk 9 rfl ?_; first | (refine ost_boxq H rfl ?_; clear H; intro bk wk H) | (refine ost_allocA H rfl ?_; clear H; intro bk wk H))) | refine Wc.seq ?_ | refine then_n ?_ | refine WL.nil ?_ | refine Wc.region ?_ | refine Wc.block ?_ | refine then_r ?_ | refine then_e ?_ | refine inb_e rfl ?_ | refine inb_o rfl ?_ | refine inb_n ?_ | refine inb_r ?_ | refine Wc.skip ?_ | refine Wc.exit ?_ | refine Wc.ret ?_ | refine Wc.cond_true rfl ?_ | refine Wc.cond_false rfl ?_)
    simp only [u32_min] at H
    refine ⟨16 - (k + 1), by omega, k + 1, rfl, by omega, ?_, rfl, ?_⟩
    · (repeat' (first | exact Agree.refl _ _ | exact Agree.havoc | refine Agree.upd rfl ?_ | refine Agree.hav2 rfl ?_))
    · have e := cV_set (fun i => if i.val < k then min (a i) (b i) else a i) k hlt (min (a ⟨k, hlt⟩) (b ⟨k, hlt⟩))
      have e2 : (fun i : Fin 16 => if i.val < k + 1 then min (a i) (b i) else a i) = fun i => if i.val = k then min (a ⟨k, hlt⟩) (b ⟨k, hlt⟩) else if i.val < k then min (a i) (b i) else a i := by
        funext i
        by_cases h1 : i.val = k
        · rw [if_pos (by omega), if_pos h1]
          have : i = ⟨k, hlt⟩ := Fin.ext h1
          rw [this]
        · rw [if_neg h1]
          by_cases h2 : i.val < k
          · rw [if_pos h2, if_pos (by omega)]
          · rw [if_neg h2, if_neg (by omega)]
      rw [e2, ← e]
      simp only [Nat.lt_irrefl, if_false, Int.toNat_natCast, Nat.zero_add, Nat.mul_one] at H
      exact H
  · obtain rfl : k = 16 := by omega
    have g3 := cV_len (fun i => if i.val < 16 then min (a i) (b i) else a i)
    have g4 : (List.replicate 16 (Value.int .u32 0)).length = 16 := by simp
    have g5 := cV_one (fun i => if i.val < 16 then min (a i) (b i) else a i)
    repeat' (first | ((first | refine WL.p rfl ?_ | refine WL.u ?_); first | refine pvQ ?_ | (refine opk 3 rfl ?_; (refine ost_cmp rfl rfl rfl rfl (fun hc => ?_) (fun hc => ?_) <;> (simp only [cmpP] at hc; try exact prIQ))) | (refine opk 4 rfl ?_; (refine ost_cmp rfl rfl rfl rfl (fun hc => ?_) (fun hc => ?_) <;> (simp only [cmpP] at hc; try exact prIQ))) | (refine opk 8 rfl ?_; first | (refine ost_store1 H rfl rfl vlQ gvQ ixQ (by first | decide | (simp; omega) | (simp; done) | omega) ?_; clear H; intro wk H; simp only [List.set_cons_zero, List.set_cons_succ, Nat.reduceAdd] at H) | (refine ost_storeW H rfl rfl rfl rfl lQ ixQ lQ okQ ?_; clear H; intro wk H; simp only [List.set_cons_zero, List.set_cons_succ, Nat.reduceAdd] at H)) | (refine opk 9 rfl ?_; first | (refine ost_boxq H rfl ?_; clear H; intro bk wk H) | (refine ost_allocA H rfl ?_; clear H; intro bk wk H))) | refine Wc.seq ?_ | refine then_n ?_ | refine WL.nil ?_ | refine Wc.region ?_ | refine Wc.block ?_ | refine then_r ?_ | refine then_e ?_ | refine inb_e rfl ?_ | refine inb_o rfl ?_ | refine inb_n ?_ | refine inb_r ?_ | refine Wc.skip ?_ | refine Wc.exit ?_ | refine Wc.ret ?_ | refine Wc.cond_true rfl ?_ | refine Wc.cond_false rfl ?_)
    refine fn_ret1 rfl (rv_cellA rfl rfl (H.blk idx0) g3) ⟨?_, H.fr⟩
    have : (fun i : Fin 16 => if i.val < 16 then min (a i) (b i) else a i) = meetV a b := by funext i; rw [if_pos i.isLt]; rfl
    rw [this]


theorem vec_Below (a b : V16) (w : World) : SpecV Try.prog 41 #[.agg (cV a).toArray, .agg (cV b).toArray] w (.bool (leV a b)) := by
  refine specV_of fun h0 hs H => ?_
  refine calls_of Try.func41 rfl Try.ntmps41 (by simp) ?_
  have la := cV_len a
  have lb := cV_len b
  repeat' (first | ((first | refine WL.p rfl ?_ | refine WL.u ?_); first | refine pvQ ?_ | (refine opk 3 rfl ?_; first | (refine ost_eqA rfl (by decide) rfl rfl tyQ tyQ (fun hc => ?_) (fun hc => ?_) <;> try exact prEQ) | (refine ost_neA rfl (by decide) rfl rfl tyQ tyQ (fun hc => ?_) (fun hc => ?_) <;> try exact prEQ)) | (refine opk 9 rfl ?_; (refine ost_boxq H rfl ?_; clear H; intro bk wk H))) | refine Wc.seq ?_ | refine then_n ?_ | refine WL.nil ?_ | refine Wc.region ?_ | refine Wc.block ?_ | refine then_r ?_ | refine then_e ?_ | refine inb_e rfl ?_ | refine inb_o rfl ?_ | refine inb_n ?_ | refine inb_r ?_ | refine Wc.skip ?_ | refine Wc.exit ?_ | refine Wc.ret ?_ | refine Wc.cond_true rfl ?_ | refine Wc.cond_false rfl ?_ | (refine Wc.drawn (id := 1) 4 (by kernel_rfl) ?_) | (refine rgs_nil ?_; intro vs wk hE; replace H := H.ext hE; clear hE) | (refine RGs.bq (fun _ => rfl) rfl (by intro vs w hE hP; have H := H.ext hE; first | exact dbQ | fail) (fun hc => ?_) (fun hc => ?_) <;> ((try simp only [cmpP, decide_eq_true_eq, decide_eq_false_iff_not, dcd_iff, dcd_no] at hc); try exact prDQ)) | refine RGs.pq (fun _ => rfl) rfl (by intro vs w hE hP; have H := H.ext hE; first | (refine opk 1 rfl ?_; (refine ost_V0 rfl (vec_Join _ _ _) rfl ?_; intro wk hX; exact ⟨hX, rfl⟩)) | exact dvQ | fail) ?_)
  all_goals (first | refine fn_ret1 (v := .bool _) rfl rfl ⟨?_, H.fr⟩ | refine fn_ret1 (v := .int _ _) rfl rfl ⟨?_, H.fr⟩ | refine fn_ret1 (v := .string _) rfl rfl ⟨?_, H.fr⟩)
  · rw [cV_inj, join_eq] at hc; rw [hc]
  · cases h : leV a b with
    | false => rfl
    | true => exact absurd (cV_inj.2 (join_eq.2 h)) hc
theorem vec_Order (a b : V16) (w : World) : SpecV Try.prog 43 #[.agg (cV a).toArray, .agg (cV b).toArray] w (.int .i64 (orderV a b)) := by
  refine specV_of fun h0 hs H => ?_
  refine calls_of Try.func43 rfl Try.ntmps43 (by simp) ?_
  have la := cV_len a
  have lb := cV_len b
  have lj := cV_len (joinV a b)
  have oj := cV_one (joinV a b)
  have e1 : (cV a = cV b) = (eqV a b = true) := propext (cV_inj.trans eqV_iff.symm)
  have e2 : (cV (joinV a b) = cV b) = (leV a b = true) := propext (cV_inj.trans join_eq)
  have e3 : (cV (joinV a b) = cV a) = (leV b a = true) := propext (by rw [joinV_comm]; exact cV_inj.trans join_eq)
  repeat' (first | ((first | refine WL.p rfl ?_ | refine WL.u ?_); first | (refine opk 1 rfl ?_; (refine ost_V H rfl (vec_Join _ _ _) rfl ?_; clear H; intro wk H)) | refine pvQ ?_ | (refine opk 3 rfl ?_; first | (refine ost_eqA rfl (by decide) rfl rfl tyQ tyQ (fun hc => ?_) (fun hc => ?_) <;> try exact prEQ) | (refine ost_neA rfl (by decide) rfl rfl tyQ tyQ (fun hc => ?_) (fun hc => ?_) <;> try exact prEQ)) | (refine opk 8 rfl ?_; (refine ost_storeW H rfl rfl rfl rfl lQ ixQ lQ okQ ?_; clear H; intro wk H; simp only [List.set_cons_zero, List.set_cons_succ, Nat.reduceAdd] at H)) | (refine opk 9 rfl ?_; first | (refine ost_boxq H rfl ?_; clear H; intro bk wk H) | (refine ost_allocA H rfl ?_; clear H; intro bk wk H))) | refine Wc.seq ?_ | refine then_n ?_ | refine WL.nil ?_ | refine Wc.region ?_ | refine Wc.block ?_ | refine then_r ?_ | refine then_e ?_ | refine inb_e rfl ?_ | refine inb_o rfl ?_ | refine inb_n ?_ | refine inb_r ?_ | refine Wc.skip ?_ | refine Wc.exit ?_ | refine Wc.ret ?_ | refine Wc.cond_true rfl ?_ | refine Wc.cond_false rfl ?_)
  all_goals ((first | refine fn_ret1 (v := .bool _) rfl rfl ⟨?_, H.fr⟩ | refine fn_ret1 (v := .int _ _) rfl rfl ⟨?_, H.fr⟩ | refine fn_ret1 (v := .string _) rfl rfl ⟨?_, H.fr⟩); simp only [e1, e2, e3, ne_eq, Bool.not_eq_true] at *; simp [orderV, *])
theorem vec_dot (d : DotT) (w : World) : SpecV Try.prog 86 #[.agg (cDot d).toArray] w (.bool (dotB d)) := by
  refine specV_of fun h0 hs H => ?_
  refine calls_of Try.func86 rfl Try.ntmps86 (by simp) ?_
  repeat' (first | ((first | refine WL.p rfl ?_ | refine WL.u ?_ | refine WL.g rfl rfl ?_ | refine WL.gu rfl ?_); first | refine pvQ ?_ | (refine opk 3 rfl ?_; (refine ost_cmp rfl rfl rfl rfl (fun hc => ?_) (fun hc => ?_) <;> (simp only [cmpP] at hc; try exact prIQ))) | (refine opk 4 rfl ?_; (refine ost_cmp rfl rfl rfl rfl (fun hc => ?_) (fun hc => ?_) <;> (simp only [cmpP] at hc; try exact prIQ))) | (refine opk 9 rfl ?_; (refine ost_boxq H rfl ?_; clear H; intro bk wk H))) | refine Wc.seq ?_ | refine then_n ?_ | refine WL.nil ?_ | refine Wc.region ?_ | refine Wc.block ?_ | refine then_r ?_ | refine then_e ?_ | refine inb_e rfl ?_ | refine inb_o rfl ?_ | refine inb_n ?_ | refine inb_r ?_ | refine Wc.skip ?_ | refine Wc.exit ?_ | refine Wc.ret ?_ | refine Wc.cond_true rfl ?_ | refine Wc.cond_false rfl ?_ | refine WL.skp rfl rfl ?_ | refine WL.sku rfl ?_)
  all_goals ((first | refine fn_ret1 (v := .bool _) rfl rfl ⟨?_, H.fr⟩ | refine fn_ret1 (v := .int _ _) rfl rfl ⟨?_, H.fr⟩ | refine fn_ret1 (v := .string _) rfl rfl ⟨?_, H.fr⟩); congr 1; simp [dotB]; omega)
theorem atV_lt (a : V16) {i : Nat} (h : i < 16) : atV a i = a ⟨i, h⟩ := by simp [atV, h]
theorem cV_at (a : V16) {i : Nat} (h : i < 16) : (cV a)[0 + (i : Int).toNat * 1]? = some (u32 (atV a i)) := by rw [atV_lt a h]; exact cV_getO a i h
theorem u32le {a b : UInt32} : a ≤ b ↔ (a.toNat : Int) ≤ b.toNat := by rw [UInt32.le_iff_toNat_le]; omega
theorem vec_Has (a : V16) (d : DotT) (w : World) : SpecV Try.prog 47 #[.agg (cV a).toArray, .agg (cDot d).toArray] w (.bool (hasV a d)) := by
  refine specV_of fun h0 hs H => ?_
  refine calls_of Try.func47 rfl Try.ntmps47 (by simp) ?_
  by_cases hr : d.rep.toNat < 16
  · have ga := cV_at a hr
    repeat' (first | ((first | refine WL.p rfl ?_ | refine WL.u ?_ | refine WL.g rfl rfl ?_ | refine WL.gu rfl ?_); first | refine pvQ ?_ | (refine opk 3 rfl ?_; (refine ost_cmp rfl rfl rfl rfl (fun hc => ?_) (fun hc => ?_) <;> (simp only [cmpP] at hc; try exact prIQ))) | (refine opk 4 rfl ?_; (refine ost_cmp rfl rfl rfl rfl (fun hc => ?_) (fun hc => ?_) <;> (simp only [cmpP] at hc; try exact prIQ))) | (refine opk 9 rfl ?_; (refine ost_boxq H rfl ?_; clear H; intro bk wk H))) | refine Wc.seq ?_ | refine then_n ?_ | refine WL.nil ?_ | refine Wc.region ?_ | refine Wc.block ?_ | refine then_r ?_ | refine then_e ?_ | refine inb_e rfl ?_ | refine inb_o rfl ?_ | refine inb_n ?_ | refine inb_r ?_ | refine Wc.skip ?_ | refine Wc.exit ?_ | refine Wc.ret ?_ | refine Wc.cond_true rfl ?_ | refine Wc.cond_false rfl ?_ | (refine Wc.drawn (id := 1) 9 (by kernel_rfl) ?_) | refine WL.skp rfl rfl ?_ | refine WL.sku rfl ?_ | (refine rgs_nil ?_; intro vs wk hE; replace H := H.ext hE; clear hE) | refine RGs.skp (fun _ => rfl) rfl ?_ | (refine RGs.bq (fun _ => rfl) rfl (by intro vs w hE hP; have H := H.ext hE; first | (refine opk 1 rfl ?_; (refine ost_V0 rfl (vec_dot _ _) rfl ?_; intro wk hX; exact ⟨hX, rfl⟩)) | exact dbQ | fail) (fun hc => ?_) (fun hc => ?_) <;> ((try simp only [cmpP, decide_eq_true_eq, decide_eq_false_iff_not, dcd_iff, dcd_no] at hc); try exact prDQ)) | refine RGs.pq (fun _ => rfl) rfl (by intro vs w hE hP; have H := H.ext hE; first | exact dvQ | fail) ?_)
    all_goals ((first | refine fn_ret1 (v := .bool _) rfl rfl ⟨?_, H.fr⟩ | refine fn_ret1 (v := .int _ _) rfl rfl ⟨?_, H.fr⟩ | refine fn_ret1 (v := .string _) rfl rfl ⟨?_, H.fr⟩); simp_all [hasV, u32le])
  · have hd : dotB d = false := by simp [dotB, hr]
    repeat' (first | ((first | refine WL.p rfl ?_ | refine WL.u ?_ | refine WL.g rfl rfl ?_ | refine WL.gu rfl ?_); first | refine pvQ ?_ | (refine opk 3 rfl ?_; (refine ost_cmp rfl rfl rfl rfl (fun hc => ?_) (fun hc => ?_) <;> (simp only [cmpP] at hc; try exact prIQ))) | (refine opk 4 rfl ?_; (refine ost_cmp rfl rfl rfl rfl (fun hc => ?_) (fun hc => ?_) <;> (simp only [cmpP] at hc; try exact prIQ))) | (refine opk 9 rfl ?_; (refine ost_boxq H rfl ?_; clear H; intro bk wk H))) | refine Wc.seq ?_ | refine then_n ?_ | refine WL.nil ?_ | refine Wc.region ?_ | refine Wc.block ?_ | refine then_r ?_ | refine then_e ?_ | refine inb_e rfl ?_ | refine inb_o rfl ?_ | refine inb_n ?_ | refine inb_r ?_ | refine Wc.skip ?_ | refine Wc.exit ?_ | refine Wc.ret ?_ | refine Wc.cond_true rfl ?_ | refine Wc.cond_false rfl ?_ | (refine Wc.drawn (id := 1) 9 (by kernel_rfl) ?_) | refine WL.skp rfl rfl ?_ | refine WL.sku rfl ?_ | (refine rgs_nil ?_; intro vs wk hE; replace H := H.ext hE; clear hE) | refine RGs.skp (fun _ => rfl) rfl ?_ | (refine RGs.bq (fun _ => rfl) rfl (by intro vs w hE hP; have H := H.ext hE; first | (refine opk 1 rfl ?_; (refine ost_V0 rfl (vec_dot _ _) rfl ?_; intro wk hX; exact ⟨hX, rfl⟩)) | exact dbQ | fail) (fun hc => ?_) (fun hc => ?_) <;> ((try simp only [cmpP, decide_eq_true_eq, decide_eq_false_iff_not, dcd_iff, dcd_no] at hc); try exact prDQ)) | refine RGs.pq (fun _ => rfl) rfl (by intro vs w hE hP; have H := H.ext hE; first | exact dvQ | fail) ?_)

    all_goals ((first | refine fn_ret1 (v := .bool _) rfl rfl ⟨?_, H.fr⟩ | refine fn_ret1 (v := .int _ _) rfl rfl ⟨?_, H.fr⟩ | refine fn_ret1 (v := .string _) rfl rfl ⟨?_, H.fr⟩); simp_all [hasV])
def nextV (a : V16) (d : DotT) : V16 × Int :=
  if dotB d = false then (fun _ => 0, 2) else if hasV a d then (fun _ => 0, 8) else if d.seq.toNat ≠ (atV a d.rep.toNat).toNat + 1 then (fun _ => 0, 9) else (fun i => if i.val = d.rep.toNat then d.seq else a i, 0)
theorem cV_zero : cV (fun _ => 0) = List.replicate 16 (.int .u32 0) := rfl
theorem vec_Next (a : V16) (d : DotT) (w : World) : SpecV Try.prog 45 #[.agg (cV a).toArray, .agg (cDot d).toArray] w (.tuple #[.agg (cV (nextV a d).1).toArray, .int .i64 (nextV a d).2]) := by
  refine specV_of fun h0 hs H => ?_
  refine calls_of Try.func45 rfl Try.ntmps45 (by simp) ?_
  have la := cV_len a
  have fin : ∀ (x : V16 × Int) (l : List Value) (n : Int), nextV a d = x → l = cV x.1 → n = x.2 → Value.tuple #[.agg l.toArray, .int .i64 n] = .tuple #[.agg (cV (nextV a d).1).toArray, .int .i64 (nextV a d).2] := fun x l n h1 h2 h3 => by rw [h1, h2, h3]
  have hlt := (atV a d.rep.toNat).toNat_lt
  have hlt2 := d.seq.toNat_lt
  cases hd : dotB d with
  | false =>
    repeat' (first | ((first | refine WL.p rfl ?_ | refine WL.u ?_); first | (refine opk 1 rfl ?_; first | (refine ost_VB H rfl (vec_dot _ _) rfl ?_ ?_ <;> (intro hc; (try (first | exact (bcon hc ‹_›).elim | exact (bcon ‹_› hc).elim)); try (clear H; intro wk H))) | (refine ost_VB H rfl (vec_Has _ _ _) rfl ?_ ?_ <;> (intro hc; (try (first | exact (bcon hc ‹_›).elim | exact (bcon ‹_› hc).elim)); try (clear H; intro wk H)))) | refine pvQ ?_ | (refine opk 3 rfl ?_; (refine ost_cmp rfl rfl rfl rfl (fun hc => ?_) (fun hc => ?_) <;> (simp only [cmpP] at hc; try exact prIQ))) | (refine opk 4 rfl ?_; (refine ost_cmp rfl rfl rfl rfl (fun hc => ?_) (fun hc => ?_) <;> (simp only [cmpP] at hc; try exact prIQ))) | (refine opk 8 rfl ?_; first | (refine ost_store1 H rfl rfl vlQ gvQ ixQ (by first | decide | (simp; omega) | (simp; done) | omega) ?_; clear H; intro wk H; simp only [List.set_cons_zero, List.set_cons_succ, Nat.reduceAdd] at H) | (refine ost_storeW H rfl rfl rfl rfl lQ ixQ lQ okQ ?_; clear H; intro wk H; simp only [List.set_cons_zero, List.set_cons_succ, Nat.reduceAdd] at H)) | (refine opk 9 rfl ?_; first | (refine ost_boxq H rfl ?_; clear H; intro bk wk H) | (refine ost_allocA H rfl ?_; clear H; intro bk wk H))) | refine Wc.seq ?_ | refine then_n ?_ | refine WL.nil ?_ | refine Wc.region ?_ | refine Wc.block ?_ | refine then_r ?_ | refine then_e ?_ | refine inb_e rfl ?_ | refine inb_o rfl ?_ | refine inb_n ?_ | refine inb_r ?_ | refine Wc.skip ?_ | refine Wc.exit ?_ | refine Wc.ret ?_ | refine Wc.cond_true rfl ?_ | refine Wc.cond_false rfl ?_ | (refine Wc.drawn (id := 5) 7 (by kernel_rfl) ?_) | (refine rgs_nil ?_; intro vs wk hE; replace H := H.ext hE; clear hE) | (refine RGs.bq (fun _ => rfl) rfl (by intro vs w hE hP; have H := H.ext hE; first | exact dbQ | fail) (fun hc => ?_) (fun hc => ?_) <;> ((try simp only [cmpP, decide_eq_true_eq, decide_eq_false_iff_not, dcd_iff, dcd_no] at hc); try exact prDQ)) | refine RGs.pq (fun _ => rfl) rfl (by intro vs w hE hP; have H := H.ext hE; first | exact dvQ | fail) ?_)
    refine fn_ret2 (v2 := .int _ _) rfl (rv_cellA rfl rfl (H.blk idx0) lQ) rfl ⟨?_, H.fr⟩
    exact fin (fun _ => 0, 2) _ _ (by simp [nextV, hd]) cV_zero.symm rfl
  | true =>
    have hr : d.rep.toNat < 16 := by simp [dotB] at hd; omega
    have hq : 1 ≤ d.seq.toNat := by simp [dotB] at hd; omega
    have ga := cV_at a hr
    cases hh : hasV a d with
    | true =>
      repeat' (first | ((first | refine WL.p rfl ?_ | refine WL.u ?_); first | (refine opk 1 rfl ?_; first | (refine ost_VB H rfl (vec_dot _ _) rfl ?_ ?_ <;> (intro hc; (try (first | exact (bcon hc ‹_›).elim | exact (bcon ‹_› hc).elim)); try (clear H; intro wk H))) | (refine ost_VB H rfl (vec_Has _ _ _) rfl ?_ ?_ <;> (intro hc; (try (first | exact (bcon hc ‹_›).elim | exact (bcon ‹_› hc).elim)); try (clear H; intro wk H)))) | refine pvQ ?_ | (refine opk 3 rfl ?_; (refine ost_cmp rfl rfl rfl rfl (fun hc => ?_) (fun hc => ?_) <;> (simp only [cmpP] at hc; try exact prIQ))) | (refine opk 4 rfl ?_; (refine ost_cmp rfl rfl rfl rfl (fun hc => ?_) (fun hc => ?_) <;> (simp only [cmpP] at hc; try exact prIQ))) | (refine opk 8 rfl ?_; first | (refine ost_store1 H rfl rfl vlQ gvQ ixQ (by first | decide | (simp; omega) | (simp; done) | omega) ?_; clear H; intro wk H; simp only [List.set_cons_zero, List.set_cons_succ, Nat.reduceAdd] at H) | (refine ost_storeW H rfl rfl rfl rfl lQ ixQ lQ okQ ?_; clear H; intro wk H; simp only [List.set_cons_zero, List.set_cons_succ, Nat.reduceAdd] at H)) | (refine opk 9 rfl ?_; first | (refine ost_boxq H rfl ?_; clear H; intro bk wk H) | (refine ost_allocA H rfl ?_; clear H; intro bk wk H))) | refine Wc.seq ?_ | refine then_n ?_ | refine WL.nil ?_ | refine Wc.region ?_ | refine Wc.block ?_ | refine then_r ?_ | refine then_e ?_ | refine inb_e rfl ?_ | refine inb_o rfl ?_ | refine inb_n ?_ | refine inb_r ?_ | refine Wc.skip ?_ | refine Wc.exit ?_ | refine Wc.ret ?_ | refine Wc.cond_true rfl ?_ | refine Wc.cond_false rfl ?_ | (refine Wc.drawn (id := 5) 7 (by kernel_rfl) ?_) | (refine rgs_nil ?_; intro vs wk hE; replace H := H.ext hE; clear hE) | (refine RGs.bq (fun _ => rfl) rfl (by intro vs w hE hP; have H := H.ext hE; first | exact dbQ | fail) (fun hc => ?_) (fun hc => ?_) <;> ((try simp only [cmpP, decide_eq_true_eq, decide_eq_false_iff_not, dcd_iff, dcd_no] at hc); try exact prDQ)) | refine RGs.pq (fun _ => rfl) rfl (by intro vs w hE hP; have H := H.ext hE; first | exact dvQ | fail) ?_)
      refine fn_ret2 (v2 := .int _ _) rfl (rv_cellA rfl rfl (H.blk idx0) lQ) rfl ⟨?_, H.fr⟩
      exact fin (fun _ => 0, 8) _ _ (by simp [nextV, hd, hh]) cV_zero.symm rfl
    | false =>
      by_cases hm : (atV a d.rep.toNat).toNat = 4294967295
      · have hw : IntKind.u32.wrap ((atV a d.rep.toNat).toNat + 1) = 0 := by rw [hm]; rfl
        repeat' (first | ((first | refine WL.p rfl ?_ | refine WL.u ?_); first | (refine opk 1 rfl ?_; first | (refine ost_VB H rfl (vec_dot _ _) rfl ?_ ?_ <;> (intro hc; (try (first | exact (bcon hc ‹_›).elim | exact (bcon ‹_› hc).elim)); try (clear H; intro wk H))) | (refine ost_VB H rfl (vec_Has _ _ _) rfl ?_ ?_ <;> (intro hc; (try (first | exact (bcon hc ‹_›).elim | exact (bcon ‹_› hc).elim)); try (clear H; intro wk H)))) | refine pvQ ?_ | (refine opk 3 rfl ?_; (refine ost_cmp rfl rfl rfl rfl (fun hc => ?_) (fun hc => ?_) <;> (simp only [cmpP] at hc; try exact prIQ))) | (refine opk 4 rfl ?_; (refine ost_cmp rfl rfl rfl rfl (fun hc => ?_) (fun hc => ?_) <;> (simp only [cmpP] at hc; try exact prIQ))) | (refine opk 8 rfl ?_; first | (refine ost_store1 H rfl rfl vlQ gvQ ixQ (by first | decide | (simp; omega) | (simp; done) | omega) ?_; clear H; intro wk H; simp only [List.set_cons_zero, List.set_cons_succ, Nat.reduceAdd] at H) | (refine ost_storeW H rfl rfl rfl rfl lQ ixQ lQ okQ ?_; clear H; intro wk H; simp only [List.set_cons_zero, List.set_cons_succ, Nat.reduceAdd] at H)) | (refine opk 9 rfl ?_; first | (refine ost_boxq H rfl ?_; clear H; intro bk wk H) | (refine ost_allocA H rfl ?_; clear H; intro bk wk H))) | refine Wc.seq ?_ | refine then_n ?_ | refine WL.nil ?_ | refine Wc.region ?_ | refine Wc.block ?_ | refine then_r ?_ | refine then_e ?_ | refine inb_e rfl ?_ | refine inb_o rfl ?_ | refine inb_n ?_ | refine inb_r ?_ | refine Wc.skip ?_ | refine Wc.exit ?_ | refine Wc.ret ?_ | refine Wc.cond_true rfl ?_ | refine Wc.cond_false rfl ?_ | (refine Wc.drawn (id := 5) 7 (by kernel_rfl) ?_) | (refine rgs_nil ?_; intro vs wk hE; replace H := H.ext hE; clear hE) | (refine RGs.bq (fun _ => rfl) rfl (by intro vs w hE hP; have H := H.ext hE; first | exact dbQ | fail) (fun hc => ?_) (fun hc => ?_) <;> ((try simp only [cmpP, decide_eq_true_eq, decide_eq_false_iff_not, dcd_iff, dcd_no] at hc); try exact prDQ)) | refine RGs.pq (fun _ => rfl) rfl (by intro vs w hE hP; have H := H.ext hE; first | exact dvQ | fail) ?_)
        · refine fn_ret2 (v2 := .int _ _) rfl (rv_cellA rfl rfl (H.blk idx0) lQ) rfl ⟨?_, H.fr⟩
          exact fin (fun _ => 0, 9) _ _ (by simp only [nextV, hd, hh, hm]; simp; omega) cV_zero.symm rfl

      · repeat' (first | ((first | refine WL.p rfl ?_ | refine WL.u ?_); first | (refine opk 1 rfl ?_; first | (refine ost_VB H rfl (vec_dot _ _) rfl ?_ ?_ <;> (intro hc; (try (first | exact (bcon hc ‹_›).elim | exact (bcon ‹_› hc).elim)); try (clear H; intro wk H))) | (refine ost_VB H rfl (vec_Has _ _ _) rfl ?_ ?_ <;> (intro hc; (try (first | exact (bcon hc ‹_›).elim | exact (bcon ‹_› hc).elim)); try (clear H; intro wk H)))) | refine pvQ ?_ | (refine opk 3 rfl ?_; (refine ost_cmp rfl rfl rfl rfl (fun hc => ?_) (fun hc => ?_) <;> (simp only [cmpP] at hc; try exact prIQ))) | (refine opk 4 rfl ?_; (refine ost_cmp rfl rfl rfl rfl (fun hc => ?_) (fun hc => ?_) <;> (simp only [cmpP] at hc; try exact prIQ))) | (refine opk 8 rfl ?_; first | (refine ost_store1 H rfl rfl vlQ gvQ ixQ (by first | decide | (simp; omega) | (simp; done) | omega) ?_; clear H; intro wk H; simp only [List.set_cons_zero, List.set_cons_succ, Nat.reduceAdd] at H) | (refine ost_storeW H rfl rfl rfl rfl lQ ixQ lQ okQ ?_; clear H; intro wk H; simp only [List.set_cons_zero, List.set_cons_succ, Nat.reduceAdd] at H)) | (refine opk 9 rfl ?_; first | (refine ost_boxq H rfl ?_; clear H; intro bk wk H) | (refine ost_allocA H rfl ?_; clear H; intro bk wk H))) | refine Wc.seq ?_ | refine then_n ?_ | refine WL.nil ?_ | refine Wc.region ?_ | refine Wc.block ?_ | refine then_r ?_ | refine then_e ?_ | refine inb_e rfl ?_ | refine inb_o rfl ?_ | refine inb_n ?_ | refine inb_r ?_ | refine Wc.skip ?_ | refine Wc.exit ?_ | refine Wc.ret ?_ | refine Wc.cond_true rfl ?_ | refine Wc.cond_false rfl ?_ | (refine Wc.drawn (id := 5) 7 (by kernel_rfl) ?_) | (refine rgs_nil ?_; intro vs wk hE; replace H := H.ext hE; clear hE) | (refine RGs.bq (fun _ => rfl) rfl (by intro vs w hE hP; have H := H.ext hE; first | exact dbQ | fail) (fun hc => ?_) (fun hc => ?_) <;> ((try simp only [cmpP, decide_eq_true_eq, decide_eq_false_iff_not, dcd_iff, dcd_no] at hc); try exact prDQ)) | refine RGs.pq (fun _ => rfl) rfl (by intro vs w hE hP; have H := H.ext hE; first | exact dvQ | fail) ?_)
        · refine fn_ret2 (v2 := .int _ _) rfl (rv_cellA rfl rfl (H.blk idx0) lQ) rfl ⟨?_, H.fr⟩
          have : d.seq.toNat ≠ (atV a d.rep.toNat).toNat + 1 := by omega
          exact fin (fun _ => 0, 9) _ _ (by simp [nextV, hd, hh, this]) cV_zero.symm rfl
        · refine fn_ret2 (v2 := .int _ _) rfl (rv_cellA rfl rfl (H.blk idx0) lQ) rfl ⟨?_, H.fr⟩
          have e2 : Value.int .u32 ((atV a d.rep.toNat).toNat + 1) = u32 d.seq := by unfold u32; congr 1; omega
          have : d.seq.toNat = (atV a d.rep.toNat).toNat + 1 := by omega
          refine fin (fun i => if i.val = d.rep.toNat then d.seq else a i, 0) _ _ (by simp [nextV, hd, hh, this]) ?_ rfl
          rw [e2, ← cV_set a d.rep.toNat hr d.seq]; simp
def sumN : Nat → V16 → Nat
  | 0, _ => 0
  | k + 1, a => sumN k a + (atV a k).toNat
def sumV (a : V16) : Nat := sumN 16 a
theorem sumN_le (a : V16) : ∀ k, sumN k a ≤ k * 4294967295 := by
  intro k
  induction k with
  | zero => simp [sumN]
  | succ k ih => have := (atV a k).toNat_lt; simp only [sumN]; omega
theorem vec_Sum (a : V16) (w : World) : SpecV Try.prog 53 #[.agg (cV a).toArray] w (.int .u64 (sumV a)) := by
  refine specV_of fun h0 hs H => ?_
  refine calls_of Try.func53 rfl Try.ntmps53 (by simp) ?_
  have la := cV_len a
  repeat' (first | ((first | refine WL.p rfl ?_ | refine WL.u ?_); first | refine pvQ ?_ | (refine opk 3 rfl ?_; (refine ost_cmp rfl rfl rfl rfl (fun hc => ?_) (fun hc => ?_) <;> (simp only [cmpP] at hc; try exact prIQ))) | (refine opk 4 rfl ?_; (refine ost_cmp rfl rfl rfl rfl (fun hc => ?_) (fun hc => ?_) <;> (simp only [cmpP] at hc; try exact prIQ))) | (refine opk 9 rfl ?_; (refine ost_boxq H rfl ?_; clear H; intro bk wk H))) | refine Wc.seq ?_ | refine then_n ?_ | refine WL.nil ?_ | refine Wc.region ?_ | refine Wc.block ?_ | refine then_r ?_ | refine then_e ?_ | refine inb_e rfl ?_ | refine inb_o rfl ?_ | refine inb_n ?_ | refine inb_r ?_ | refine Wc.skip ?_ | refine Wc.exit ?_ | refine Wc.ret ?_ | refine Wc.cond_true rfl ?_ | refine Wc.cond_false rfl ?_)
  refine Wc.loopE (fun s0 m s w' => ∃ k : Nat, m = 16 - k ∧ k ≤ 16 ∧ Agree [3, 5, 7, 8, 9, 10, 11, 12, 13, 14] s s0 ∧ s 7 = .int .i64 k ∧ s 3 = .int .u64 (sumN k a : Int) ∧
    St w [] h0 h0 [.blk bk (.cells (cV a).toArray 64 (0, 0))] w') 16 ⟨0, rfl, by omega, Agree.refl _ _, rfl, rfl, H⟩ ?_
  clear H
  rintro m s w' ⟨k, rfl, hk, hA, h7, h3, H⟩
  obtain ⟨j, rfl⟩ := hA.env2 h7 h3
  clear hA h7 h3
  have hb := sumN_le a k
  by_cases hlt : k < 16
  · have g1 : (cV a)[(k : Int).toNat]? = some (u32 (atV a k)) := by rw [atV_lt a hlt]; exact cV_getI a k hlt
    have g2 := (atV a k).toNat_lt
    repeat' (first | ((first | refine WL.p rfl ?_ | refine WL.u ?_); first | refine pvQ ?_ | (refine opk 3 rfl ?_; (refine ost_cmp rfl rfl rfl rfl (fun hc => ?_) (fun hc => ?_) <;> (simp only [cmpP] at hc; try exact prIQ))) | (refine opk 4 rfl ?_; (refine ost_cmp rfl rfl rfl rfl (fun hc => ?_) (fun hc => ?_) <;> (simp only [cmpP] at hc; try exact prIQ))) | (refine opk 9 rfl ?_; (refine ost_boxq H rfl ?_; clear H; intro bk wk H))) | refine Wc.seq ?_ | refine then_n ?_ | refine WL.nil ?_ | refine Wc.region ?_ | refine Wc.block ?_ | refine then_r ?_ | refine then_e ?_ | refine inb_e rfl ?_ | refine inb_o rfl ?_ | refine inb_n ?_ | refine inb_r ?_ | refine Wc.skip ?_ | refine Wc.exit ?_ | refine Wc.ret ?_ | refine Wc.cond_true rfl ?_ | refine Wc.cond_false rfl ?_)
    exact ⟨16 - (k + 1), by omega, k + 1, rfl, by omega, by (repeat' (first | exact Agree.refl _ _ | exact Agree.havoc | refine Agree.upd rfl ?_ | refine Agree.hav2 rfl ?_)), rfl, rfl, H⟩
  · obtain rfl : k = 16 := by omega
    repeat' (first | ((first | refine WL.p rfl ?_ | refine WL.u ?_); first | refine pvQ ?_ | (refine opk 3 rfl ?_; (refine ost_cmp rfl rfl rfl rfl (fun hc => ?_) (fun hc => ?_) <;> (simp only [cmpP] at hc; try exact prIQ))) | (refine opk 4 rfl ?_; (refine ost_cmp rfl rfl rfl rfl (fun hc => ?_) (fun hc => ?_) <;> (simp only [cmpP] at hc; try exact prIQ))) | (refine opk 9 rfl ?_; (refine ost_boxq H rfl ?_; clear H; intro bk wk H))) | refine Wc.seq ?_ | refine then_n ?_ | refine WL.nil ?_ | refine Wc.region ?_ | refine Wc.block ?_ | refine then_r ?_ | refine then_e ?_ | refine inb_e rfl ?_ | refine inb_o rfl ?_ | refine inb_n ?_ | refine inb_r ?_ | refine Wc.skip ?_ | refine Wc.exit ?_ | refine Wc.ret ?_ | refine Wc.cond_true rfl ?_ | refine Wc.cond_false rfl ?_)
    (first | refine fn_ret1 (v := .bool _) rfl rfl ⟨?_, H.fr⟩ | refine fn_ret1 (v := .int _ _) rfl rfl ⟨?_, H.fr⟩ | refine fn_ret1 (v := .string _) rfl rfl ⟨?_, H.fr⟩); rfl
end Go.Tg
