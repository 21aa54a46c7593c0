/- Contracts of Go functions that the laws reach: what each call answers and leaves in memory, for all arguments within the bounds that each theorem names. -/
import Derived.Test.YtajfhoeejeadkaaDoorInst
import Derived.Test.YtajfhoeejeadkaaDoorAuto
import Derived.Test.YtajfhoeejeadkaaDoorQJ
import Derived.Test.YtajfhoeejeadkaaDoorQ8
set_option linter.unusedVariables false
set_option linter.unusedSimpArgs false
set_option maxRecDepth 100000
set_option maxHeartbeats 4000000
namespace Go.Tg
open Go Go.Proofs
def recF (o : OpT) : List UInt8 := putB 2 ++ fieldB (encO o)
def numF (k n : Nat) : List UInt8 := putB k ++ putB n
theorem fieldB_inj {a b : List UInt8} (ha : a.length < 18446744073709551616) (hb : b.length < 18446744073709551616) (h : fieldB a = fieldB b) : a = b := (putB_app_inj ha hb h).2
theorem recF_inj {u v : OpT} (h : recF u = recF v) : u = v := by
  have h1 := encO_len u; have h2 := encO_len v
  exact encO_inj (fieldB_inj (by omega) (by omega) (putB_app_inj (by decide) (by decide) h).2)
theorem recF_len (o : OpT) : (recF o).length ≤ 297 := by
  have h1 := encO_len o; have h2 := fieldB_len (encO o); have h3 := putB_len 2
  unfold recF; rw [List.length_append]; omega
theorem numF_len (k n : Nat) : (numF k n).length ≤ 22 := by
  have h1 := putB_len k; have h2 := putB_len n
  unfold numF; rw [List.length_append]; omega
theorem numF_inj {k n j m : Nat} (hk : k < 18446744073709551616) (hn : n < 18446744073709551616) (hj : j < 18446744073709551616) (hm : m < 18446744073709551616) (h : numF k n = numF j m) : k = j ∧ n = m := by
  obtain ⟨h1, h2⟩ := putB_app_inj hk hj h
  exact ⟨h1, (putB_app_inj (r := []) (s := []) hn hm (by rw [h2])).1⟩
theorem numF_rec {k n : Nat} {o : OpT} (hk : k < 18446744073709551616) (h2 : k ≠ 2) : recF o ≠ numF k n := fun h => h2 (putB_app_inj (by decide) hk h).1.symm
open Classical in
noncomputable def isOp (f : List UInt8) : Option OpT := if h : ∃ o, rightO o 16 = true ∧ recF o = f then some h.choose else none
theorem isOp_rec {o : OpT} (h : rightO o 16 = true) : isOp (recF o) = some o := by
  unfold isOp
  rw [dif_pos ⟨o, h, rfl⟩]
  have hx : ∃ u, rightO u 16 = true ∧ recF u = recF o := ⟨o, h, rfl⟩
  exact congrArg some (recF_inj hx.choose_spec.2)
theorem isOp_none {f : List UInt8} : isOp f = none ↔ ∀ u, rightO u 16 = true → recF u ≠ f := by
  unfold isOp
  constructor
  · intro h u hu e
    rw [dif_pos ⟨u, hu, e⟩] at h; cases h
  · intro h
    rw [dif_neg fun ⟨u, hu, e⟩ => h u hu e]
def framesL : Nat → List UInt8 → List (List UInt8)
  | 0, _ => []
  | n + 1, b => if (firstF b).2.2 = 0 then (firstF b).1 :: framesL n (b.drop (firstF b).2.1) else []
def frames (b : List UInt8) : List (List UInt8) := framesL b.length b
theorem wrapB_pos (xs : List UInt8) : 4 ≤ (wrapB xs).length := by unfold wrapB; rw [List.length_append, sum4_len]; omega
theorem firstF_pos {b : List UInt8} (h : (firstF b).2.2 = 0) : 4 ≤ (firstF b).2.1 := by
  obtain ⟨h1, h2, h3⟩ := firstF_ok h
  have := congrArg List.length h1
  have := wrapB_pos (firstF b).1
  rw [List.length_take] at *
  omega
theorem framesL_eq : ∀ (n m : Nat) (b : List UInt8), b.length ≤ n → b.length ≤ m → framesL n b = framesL m b
  | 0, 0, _, _, _ => rfl
  | 0, m + 1, b, h, _ => by
    obtain rfl : b = [] := List.eq_nil_of_length_eq_zero (by omega)
    rfl
  | n + 1, 0, b, _, h => by
    obtain rfl : b = [] := List.eq_nil_of_length_eq_zero (by omega)
    rfl
  | n + 1, m + 1, b, h1, h2 => by
    unfold framesL
    split
    · rename_i h
      have := firstF_pos h
      have h3 := (firstF_ok h).2.2
      rw [framesL_eq n m _ (by rw [List.length_drop]; omega) (by rw [List.length_drop]; omega)]
    · rfl
theorem frames_ok {b : List UInt8} (h : (firstF b).2.2 = 0) : frames b = (firstF b).1 :: frames (b.drop (firstF b).2.1) := by
  have h1 := firstF_pos h
  have h3 := (firstF_ok h).2.2
  unfold frames
  cases hb : b.length with
  | zero => omega
  | succ n =>
    rw [framesL, if_pos h, framesL_eq n _ _ (by rw [List.length_drop]; omega) (Nat.le_refl _)]
theorem frames_no {b : List UInt8} (h : (firstF b).2.2 ≠ 0) : frames b = [] := by
  unfold frames
  cases hb : b.length with
  | zero => rfl
  | succ n => rw [framesL, if_neg h]
theorem frames_wrap {xs : List UInt8} (hl : xs.length ≤ 4096) (r : List UInt8) : frames (wrapB xs ++ r) = xs :: frames r := by
  have h := firstF_wrap hl r
  rw [frames_ok (by rw [h]), h]
  dsimp only
  rw [List.drop_left' rfl]
theorem frames_nil : frames [] = [] := rfl
theorem firstF_cut {xs : List UInt8} (hl : xs.length ≤ 4096) {k : Nat} (hk : k < (wrapB xs).length) : (firstF ((wrapB xs).take k)).2.2 ≠ 0 := fun h => by
  obtain ⟨f1, f2, f3⟩ := firstF_ok h
  have h4 := firstF_wrap f2 ((wrapB xs).drop (firstF ((wrapB xs).take k)).2.1)
  have hk2 : (firstF ((wrapB xs).take k)).2.1 ≤ k := by rw [List.length_take] at f3; omega
  rw [List.take_take, Nat.min_eq_left hk2] at f1
  rw [← f1, List.take_append_drop] at h4
  have h5 := firstF_wrap hl []
  rw [List.append_nil, h4] at h5
  have := (Prod.mk.inj (Prod.mk.inj h5).2).1
  have h6 := congrArg List.length f1
  rw [List.length_take] at *
  omega
theorem frames_cut {xs : List UInt8} (hl : xs.length ≤ 4096) {k : Nat} (hk : k < (wrapB xs).length) : frames ((wrapB xs).take k) = [] := frames_no (firstF_cut hl hk)
noncomputable def segR : List (List UInt8) → Nat → Nat → List OpT × List Nat × Bool × Nat
  | [], _, at_ => ([], [], false, at_)
  | f :: l, n, at_ => match isOp f with
    | some o => (o :: (segR l (n + 1) (at_ + (wrapB f).length)).1, at_ :: (segR l (n + 1) (at_ + (wrapB f).length)).2.1, (segR l (n + 1) (at_ + (wrapB f).length)).2.2)
    | none => if f = numF 3 n then ([], [], true, at_ + (wrapB f).length) else ([], [], false, at_)
theorem segR_op {f : List UInt8} {o : OpT} (h : isOp f = some o) (l : List (List UInt8)) (n at_ : Nat) : segR (f :: l) n at_ = (o :: (segR l (n + 1) (at_ + (wrapB f).length)).1, at_ :: (segR l (n + 1) (at_ + (wrapB f).length)).2.1, (segR l (n + 1) (at_ + (wrapB f).length)).2.2) := by
  rw [segR, h]
theorem segR_foot {f : List UInt8} {n : Nat} (h : isOp f = none) (hf : f = numF 3 n) (l : List (List UInt8)) (at_ : Nat) : segR (f :: l) n at_ = ([], [], true, at_ + (wrapB f).length) := by
  rw [segR, h]; dsimp only; rw [if_pos hf]
theorem segR_no {f : List UInt8} {n : Nat} (h : isOp f = none) (hf : f ≠ numF 3 n) (l : List (List UInt8)) (at_ : Nat) : segR (f :: l) n at_ = ([], [], false, at_) := by
  rw [segR, h]; dsimp only; rw [if_neg hf]
structure InfT where
  id : UInt32
  ops : List OpT
  ats : List Nat
  sld : Bool
  used : Nat
def zeroI : InfT := ⟨0, [], [], false, 0⟩
open Classical in
noncomputable def scanS (b : List UInt8) : InfT × Int := match frames b with
  | [] => (zeroI, 5)
  | f :: l => if h : ∃ id : UInt32, f = numF 1 id.toNat then (⟨h.choose, (segR l 0 (wrapB f).length).1, (segR l 0 (wrapB f).length).2.1, (segR l 0 (wrapB f).length).2.2.1, (segR l 0 (wrapB f).length).2.2.2⟩, 0) else (zeroI, 5)
theorem scanS_nil {b : List UInt8} (h : frames b = []) : scanS b = (zeroI, 5) := by unfold scanS; rw [h]
theorem scanS_no {b f : List UInt8} {l : List (List UInt8)} (h : frames b = f :: l) (hn : ∀ id : UInt32, f ≠ numF 1 id.toNat) : scanS b = (zeroI, 5) := by
  unfold scanS; rw [h]; dsimp only; rw [dif_neg fun ⟨id, e⟩ => hn id e]
theorem scanS_ok {b : List UInt8} {l : List (List UInt8)} {id : UInt32} (h : frames b = numF 1 id.toNat :: l) : scanS b = (⟨id, (segR l 0 (wrapB (numF 1 id.toNat)).length).1, (segR l 0 (wrapB (numF 1 id.toNat)).length).2.1, (segR l 0 (wrapB (numF 1 id.toNat)).length).2.2.1, (segR l 0 (wrapB (numF 1 id.toNat)).length).2.2.2⟩, 0) := by
  unfold scanS; rw [h]; dsimp only
  have hx : ∃ id' : UInt32, numF 1 id.toNat = numF 1 id'.toNat := ⟨id, rfl⟩
  rw [dif_pos hx]
  have h1 := hx.choose_spec
  have h2 := hx.choose.toNat_lt; have h3 := id.toNat_lt
  have : hx.choose = id := UInt32.toNat_inj.1 (numF_inj (by decide) (by omega) (by decide) (by omega) h1).2.symm
  rw [this]
def headB (id : UInt32) : List UInt8 := wrapB (numF 1 id.toNat)
def recB (o : OpT) : List UInt8 := wrapB (recF o)
def footB (n : Nat) : List UInt8 := wrapB (numF 3 n)
end Go.Tg

set_option linter.unusedVariables false
set_option linter.unusedSimpArgs false
set_option maxRecDepth 100000
set_option maxHeartbeats 4000000
namespace Go.Tg
open Go Go.Proofs
theorem op_Decode (h0 : FH) (a : Option Addr) (c : Nat) (b : List UInt8) (w : World) (hs : Sat h0 w) (hr : BS h0 a c b) (hb : b.length ≤ 1000000) :
    SpecV Tryd.prog 127 #[.slice a b.length c] w (.tuple #[.agg (cOp (decO b).1).toArray, .int .i64 (decO b).2]) := by
  have H := St.start hs
  unfold SpecV
  refine calls_of Tryd.func127 rfl Tryd.ntmps127 (by simp) ?_
  repeat' (first | ((first | refine WL.p rfl ?_ | refine WL.u ?_ | refine WL.g rfl rfl ?_ | refine WL.gu rfl ?_); first | refine pvQ ?_ | (refine opk 3 rfl ?_; (refine ost_cmp rfl rfl rfl rfl (fun hc => ?_) (fun hc => ?_) <;> (simp only [cmpP] at hc; try exact prIQ))) | (refine opk 4 rfl ?_; (refine ost_cmp rfl rfl rfl rfl (fun hc => ?_) (fun hc => ?_) <;> (simp only [cmpP] at hc; try exact prIQ))) | (refine opk 8 rfl ?_; first | (refine ost_store1 H rfl rfl vlQ gvQ ixQ (by first | decide | (simp; omega) | (simp; done) | omega) ?_; clear H; intro wk H; simp only [List.set_cons_zero, List.set_cons_succ, Nat.reduceAdd] at H) | (refine ost_storeW H rfl rfl rfl rfl lQ ixQ lQ okQ ?_; clear H; intro wk H; simp only [List.set_cons_zero, List.set_cons_succ, Nat.reduceAdd] at H)) | (refine opk 9 rfl ?_; first | (refine ost_boxq H rfl ?_; clear H; intro bk wk H) | (refine ost_allocA H rfl ?_; clear H; intro bk wk H))) | refine Wc.seq ?_ | refine then_n ?_ | refine WL.nil ?_ | refine Wc.region ?_ | refine Wc.block ?_ | refine then_r ?_ | refine then_e ?_ | refine inb_e rfl ?_ | refine inb_o rfl ?_ | refine inb_n ?_ | refine inb_r ?_ | refine Wc.skip ?_ | refine Wc.exit ?_ | refine Wc.ret ?_ | refine Wc.cond_true rfl ?_ | refine Wc.cond_false rfl ?_ | refine WL.skp rfl rfl ?_ | refine WL.sku rfl ?_)
  generalize bk = b2 at H ⊢
  repeat' (first | ((first | refine WL.p rfl ?_ | refine WL.u ?_ | refine WL.g rfl rfl ?_ | refine WL.gu rfl ?_); first | (refine opk 1 rfl ?_; (refine ost_Sk H rfl (pack_Read _ _ _ _ _ H.sat hr (by omega)) rfl ?_; clear H; rintro vk wk hfk Lk ⟨b1, a1, c1, rfl, hr1, rfl⟩ hle H; simp only [List.cons_append, List.nil_append] at H)) | refine pvQ ?_ | (refine opk 3 rfl ?_; (refine ost_cmp rfl rfl rfl rfl (fun hc => ?_) (fun hc => ?_) <;> (simp only [cmpP] at hc; try exact prIQ))) | (refine opk 4 rfl ?_; (refine ost_cmp rfl rfl rfl rfl (fun hc => ?_) (fun hc => ?_) <;> (simp only [cmpP] at hc; try exact prIQ))) | (refine opk 8 rfl ?_; first | (refine ost_store1 H rfl rfl vlQ gvQ ixQ (by first | decide | (simp; omega) | (simp; done) | omega) ?_; clear H; intro wk H; simp only [List.set_cons_zero, List.set_cons_succ, Nat.reduceAdd] at H) | (refine ost_storeW H rfl rfl rfl rfl lQ ixQ lQ okQ ?_; clear H; intro wk H; simp only [List.set_cons_zero, List.set_cons_succ, Nat.reduceAdd] at H)) | (refine opk 9 rfl ?_; first | (refine ost_boxq H rfl ?_; clear H; intro bk wk H) | (refine ost_allocA H rfl ?_; clear H; intro bk wk H))) | refine Wc.seq ?_ | refine then_n ?_ | refine WL.nil ?_ | refine Wc.region ?_ | refine Wc.block ?_ | refine then_r ?_ | refine then_e ?_ | refine inb_e rfl ?_ | refine inb_o rfl ?_ | refine inb_n ?_ | refine inb_r ?_ | refine Wc.skip ?_ | refine Wc.exit ?_ | refine Wc.ret ?_ | refine Wc.cond_true rfl ?_ | refine Wc.cond_false rfl ?_ | refine WL.skp rfl rfl ?_ | refine WL.sku rfl ?_)
  rename_i bt _
  replace H : St w [] h0 hfk [tkr bt b1 ⟨0, b, false⟩ a1 c1, .blk bk (.cells (cOp zeroO).toArray 67 (0, 0)), .blk b2 (.cells (cOp zeroO).toArray 67 (0, 0))] wk := (((H.front 1 rfl).front 2 rfl).front 1 rfl).join
  have z23 := cOp_len zeroO
  repeat' (first | ((first | refine WL.p rfl ?_ | refine WL.u ?_ | refine WL.g rfl rfl ?_ | refine WL.gu rfl ?_); first | (refine opk 1 rfl ?_; first | (refine ost_H (A := tkr _ _ _ _ _) H rfl (by (exact ixQ)) (fun HO => tk_num8 _ _ _ _ _ _ _ HO (by assumption)) rfl ?_; clear H; rintro vk wk hfk Lk ⟨rfl, rfl, a2, c2, hr2, rfl⟩ hle H; simp only [List.cons_append, List.nil_append, List.eraseIdx_cons_zero, List.eraseIdx_cons_succ] at H) | (refine ost_H (A := tkr _ _ _ _ _) H rfl (by (exact ixQ)) (fun HO => tk_num16 _ _ _ _ _ _ _ HO (by assumption)) rfl ?_; clear H; rintro vk wk hfk Lk ⟨rfl, rfl, a2, c2, hr2, rfl⟩ hle H; simp only [List.cons_append, List.nil_append, List.eraseIdx_cons_zero, List.eraseIdx_cons_succ] at H) | (refine ost_H (A := tkr _ _ _ _ _) H rfl (by (exact ixQ)) (fun HO => tk_num32 _ _ _ _ _ _ _ HO (by assumption)) rfl ?_; clear H; rintro vk wk hfk Lk ⟨rfl, rfl, a2, c2, hr2, rfl⟩ hle H; simp only [List.cons_append, List.nil_append, List.eraseIdx_cons_zero, List.eraseIdx_cons_succ] at H)) | refine pvQ ?_ | (refine opk 3 rfl ?_; (refine ost_cmp rfl rfl rfl rfl (fun hc => ?_) (fun hc => ?_) <;> (simp only [cmpP] at hc; try exact prIQ))) | (refine opk 4 rfl ?_; (refine ost_cmp rfl rfl rfl rfl (fun hc => ?_) (fun hc => ?_) <;> (simp only [cmpP] at hc; try exact prIQ))) | (refine opk 8 rfl ?_; first | (refine ost_store1 H rfl rfl vlQ gvQ ixQ (by first | decide | (simp; omega) | (simp; done) | omega) ?_; clear H; intro wk H; simp only [List.set_cons_zero, List.set_cons_succ, Nat.reduceAdd] at H) | (refine ost_storeW H rfl rfl rfl rfl lQ ixQ lQ okQ ?_; clear H; intro wk H; simp only [List.set_cons_zero, List.set_cons_succ, Nat.reduceAdd] at H)) | (refine opk 9 rfl ?_; first | (refine ost_boxq H rfl ?_; clear H; intro bk wk H) | (refine ost_allocA H rfl ?_; clear H; intro bk wk H))) | refine Wc.seq ?_ | refine then_n ?_ | refine WL.nil ?_ | refine Wc.region ?_ | refine Wc.block ?_ | refine then_r ?_ | refine then_e ?_ | refine inb_e rfl ?_ | refine inb_o rfl ?_ | refine inb_n ?_ | refine inb_r ?_ | refine Wc.skip ?_ | refine Wc.exit ?_ | refine Wc.ret ?_ | refine Wc.cond_true rfl ?_ | refine Wc.cond_false rfl ?_ | refine WL.skp rfl rfl ?_ | refine WL.sku rfl ?_)
  have h7 := tk7_len b 7
  have hF : ∀ u, rightO u 16 = true → encO u = b → (∀ v, opN (fun i => tkN (tk7 b i)) v = { u with ctx := v }) ∧ tk7 b 7 = ⟨0, fieldB (encV u.ctx), false⟩ := fun u _ hu => ⟨fun v => by
    have := opN_of { u with ctx := v } (f := fun i => tkN (tk7 b i)) (fun k hk => tk7_num hu hk)
    exact this, tk7_end hu⟩
  have hS : ∀ v, (tk7 b 7).bad = false → (tk7 b 7).e = 0 → (tk7 b 7).xs = fieldB (encV v) → encO (opN (fun i => tkN (tk7 b i)) v) = b := fun v hb he hx => by
    have h1 := tk7_sound hb he 7 (by omega)
    rw [hx] at h1
    rw [opN_enc (fun k hk => tk7_lt hb he hk)]
    exact h1.symm
  have no5 : (∀ u, rightO u 16 = true → encO u ≠ b) → Value.tuple #[.agg (cOp zeroO).toArray, .int .i64 5] = .tuple #[.agg (cOp (decO b).1).toArray, .int .i64 (decO b).2] := fun hu => decO_fin (.inr ⟨rfl, rfl, hu⟩) rfl
  replace H : St w [] h0 hfk [tkr bt b1 (tk7 b 7) a2 c2, .blk bk (.cells (cOp (opN (fun i => tkN (tk7 b i)) fun _ => 0)).toArray 67 (0, 0)), .blk b2 (.cells (cOp zeroO).toArray 67 (0, 0))] wk := by
    rw [u8_wrap, u8_wrap, u16_wrap, u16_wrap, u16_wrap, u32_wrap2, u32_wrap2] at H
    exact H
  replace hr2 : BS hfk a2 c2 (tk7 b 7).xs := hr2
  generalize tk7 b 7 = u7 at *
  generalize (fun i => tkN (tk7 b i)) = f at *
  clear hr1
  replace H := H.split
  have lx := cOp_len (opN f fun _ => 0)
  have hB : ∀ u, rightO u 16 = true → encO u = b → u7.bad = false ∧ bytesE u7.e u7.xs = (encV u.ctx, 0, 0, []) := fun u hr hu => by
    obtain ⟨-, h2⟩ := hF u hr hu
    have := bytesE_fieldB (encV u.ctx) [] (by have := encV_len u.ctx; omega)
    rw [List.append_nil] at this
    rw [h2]; exact ⟨rfl, this⟩
  have hI := bytesE_inv (xs := u7.xs)
  have hJ := bytesE_err (e := u7.e) (xs := u7.xs)
  have hK := bytesE_len u7.e u7.xs
  repeat' (first | ((first | refine WL.p rfl ?_ | refine WL.u ?_ | refine WL.g rfl rfl ?_ | refine WL.gu rfl ?_); first | (refine opk 1 rfl ?_; (refine ost_H (A := rdr _ _ _ _ _ _) H rfl (by (exact ixQ)) (fun HO => rd_Bytes _ _ _ _ _ _ _ HO hr2 (by omega)) rfl ?_; clear H; rintro vk wk hfk Lk ⟨a3, c3, a4, c4, rfl, rfl, hr5, rfl⟩ hle H; simp only [List.cons_append, List.nil_append, List.eraseIdx_cons_zero, List.eraseIdx_cons_succ] at H)) | refine pvQ ?_ | (refine opk 3 rfl ?_; (refine ost_cmp rfl rfl rfl rfl (fun hc => ?_) (fun hc => ?_) <;> (simp only [cmpP] at hc; try exact prIQ))) | (refine opk 4 rfl ?_; (refine ost_cmp rfl rfl rfl rfl (fun hc => ?_) (fun hc => ?_) <;> (simp only [cmpP] at hc; try exact prIQ))) | (refine opk 8 rfl ?_; first | (refine ost_store1 H rfl rfl vlQ gvQ ixQ (by first | decide | (simp; omega) | (simp; done) | omega) ?_; clear H; intro wk H; simp only [List.set_cons_zero, List.set_cons_succ, Nat.reduceAdd] at H) | (refine ost_storeW H rfl rfl rfl rfl lQ ixQ lQ okQ ?_; clear H; intro wk H; simp only [List.set_cons_zero, List.set_cons_succ, Nat.reduceAdd] at H)) | (refine opk 9 rfl ?_; first | (refine ost_boxq H rfl ?_; clear H; intro bk wk H) | (refine ost_allocA H rfl ?_; clear H; intro bk wk H))) | refine Wc.seq ?_ | refine then_n ?_ | refine WL.nil ?_ | refine Wc.region ?_ | refine Wc.block ?_ | refine then_r ?_ | refine then_e ?_ | refine inb_e rfl ?_ | refine inb_o rfl ?_ | refine inb_n ?_ | refine inb_r ?_ | refine Wc.skip ?_ | refine Wc.exit ?_ | refine Wc.ret ?_ | refine Wc.cond_true rfl ?_ | refine Wc.cond_false rfl ?_ | refine WL.skp rfl rfl ?_ | refine WL.sku rfl ?_)
  · refine fn_ret2 (v2 := .int _ _) rfl (rv_cellA rfl rfl H.bI lQ) rfl ⟨no5 fun u hr hu => ?_, H.fr⟩
    rw [(hB u hr hu).2] at hc; exact hc rfl
  · obtain ⟨a6, c6, h6, e6, hle6, hr6, H⟩ := H.freeze8
    cases e6
    have h9 : (bytesE u7.e u7.xs).2.1 = 0 := Classical.not_not.1 hc
    have he0 := hJ h9
    have hI : u7.xs = fieldB (bytesE u7.e u7.xs).1 ++ (bytesE u7.e u7.xs).2.2.2 := by
      rw [he0] at h9 ⊢; exact hI h9
    cases hbad : u7.bad with
    | true =>
      repeat' (first | ((first | refine WL.p rfl ?_ | refine WL.u ?_ | refine WL.g rfl rfl ?_ | refine WL.gu rfl ?_); first | refine pvQ ?_ | (refine opk 3 rfl ?_; (refine ost_cmp rfl rfl rfl rfl (fun hc => ?_) (fun hc => ?_) <;> (simp only [cmpP] at hc; try exact prIQ))) | (refine opk 4 rfl ?_; (refine ost_cmp rfl rfl rfl rfl (fun hc => ?_) (fun hc => ?_) <;> (simp only [cmpP] at hc; try exact prIQ))) | (refine opk 8 rfl ?_; first | (refine ost_store1 H rfl rfl vlQ gvQ ixQ (by first | decide | (simp; omega) | (simp; done) | omega) ?_; clear H; intro wk H; simp only [List.set_cons_zero, List.set_cons_succ, Nat.reduceAdd] at H) | (refine ost_storeW H rfl rfl rfl rfl lQ ixQ lQ okQ ?_; clear H; intro wk H; simp only [List.set_cons_zero, List.set_cons_succ, Nat.reduceAdd] at H)) | (refine opk 9 rfl ?_; first | (refine ost_boxq H rfl ?_; clear H; intro bk wk H) | (refine ost_allocA H rfl ?_; clear H; intro bk wk H))) | refine Wc.seq ?_ | refine then_n ?_ | refine WL.nil ?_ | refine Wc.region ?_ | refine Wc.block ?_ | refine then_r ?_ | refine then_e ?_ | refine inb_e rfl ?_ | refine inb_o rfl ?_ | refine inb_n ?_ | refine inb_r ?_ | refine Wc.skip ?_ | refine Wc.exit ?_ | refine Wc.ret ?_ | refine Wc.cond_true rfl ?_ | refine Wc.cond_false rfl ?_ | refine WL.skp rfl rfl ?_ | refine WL.sku rfl ?_)
      refine fn_ret2 (v2 := .int _ _) rfl (rv_cellA rfl rfl H.bI lQ) rfl ⟨no5 fun u hr hu => ?_, H.fr⟩
      rw [(hB u hr hu).1] at hbad; cases hbad
    | false =>
      have lo := fun v => cOp_len (opN f v)
      repeat' (first | ((first | refine WL.p rfl ?_ | refine WL.u ?_ | refine WL.g rfl rfl ?_ | refine WL.gu rfl ?_); first | (refine opk 1 rfl ?_; (refine ost_VB H rfl (rd_Done _ _ _ _ _ _ H.bI) rfl ?_ ?_ <;> (intro hc; (try (first | exact (bcon hc ‹_›).elim | exact (bcon ‹_› hc).elim)); try (clear H; intro wk H)))) | refine pvQ ?_ | (refine opk 3 rfl ?_; (refine ost_cmp rfl rfl rfl rfl (fun hc => ?_) (fun hc => ?_) <;> (simp only [cmpP] at hc; try exact prIQ))) | (refine opk 4 rfl ?_; (refine ost_cmp rfl rfl rfl rfl (fun hc => ?_) (fun hc => ?_) <;> (simp only [cmpP] at hc; try exact prIQ))) | (refine opk 8 rfl ?_; first | (refine ost_store1 H rfl rfl vlQ gvQ ixQ (by first | decide | (simp; omega) | (simp; done) | omega) ?_; clear H; intro wk H; simp only [List.set_cons_zero, List.set_cons_succ, Nat.reduceAdd] at H) | (refine ost_storeW H rfl rfl rfl rfl lQ ixQ lQ okQ ?_; clear H; intro wk H; simp only [List.set_cons_zero, List.set_cons_succ, Nat.reduceAdd] at H)) | (refine opk 9 rfl ?_; first | (refine ost_boxq H rfl ?_; clear H; intro bk wk H) | (refine ost_allocA H rfl ?_; clear H; intro bk wk H))) | refine Wc.seq ?_ | refine then_n ?_ | refine WL.nil ?_ | refine Wc.region ?_ | refine Wc.block ?_ | refine then_r ?_ | refine then_e ?_ | refine inb_e rfl ?_ | refine inb_o rfl ?_ | refine inb_n ?_ | refine inb_r ?_ | refine Wc.skip ?_ | refine Wc.exit ?_ | refine Wc.ret ?_ | refine Wc.cond_true rfl ?_ | refine Wc.cond_false rfl ?_ | refine WL.skp rfl rfl ?_ | refine WL.sku rfl ?_)
      · have hd : (bytesE u7.e u7.xs).2.2.1 = 0 ∧ (bytesE u7.e u7.xs).2.2.2 = [] := by
          simp only [Bool.and_eq_true, decide_eq_true_eq, List.length_eq_zero_iff] at hc; exact hc
        rw [hd.2, List.append_nil] at hI
        have hY : ∀ u, rightO u 16 = true → encO u = b → (bytesE u7.e u7.xs).1 = encV u.ctx := fun u hr hu => by rw [(hB u hr hu).2]
        generalize hys : (bytesE u7.e u7.xs).1 = ys
        rw [hys] at hI hY hK hr6
        have hD := decV_spec ys
        have hE : ∀ u, rightO u 16 = true → encO u = b → decV ys = (u.ctx, 0) := fun u hr hu => by rw [hY u hr hu]; exact decV_enc _
        have hv := vec_Decode h6 a3 c3 ys
        generalize hDD : decV ys = D
        rw [hDD] at hD hv
        simp only [hDD] at hE
        repeat' (first | ((first | refine WL.p rfl ?_ | refine WL.u ?_ | refine WL.g rfl rfl ?_ | refine WL.gu rfl ?_); first | (refine opk 1 rfl ?_; first | (refine ost_V H rfl (hv _ H.sat hr6 (by omega)) rfl ?_; clear H; intro wk H) | (refine ost_VB H rfl (op_Right _ _ _) rfl ?_ ?_ <;> (intro hc; (try (first | exact (bcon hc ‹_›).elim | exact (bcon ‹_› hc).elim)); try (clear H; intro wk H)))) | (refine opk 8 rfl ?_; (refine ost_storeA (vs := cV D.1) (l := cOp (opN f fun _ => 0)) H rfl rfl rfl (cV_one _) (cV_len _) idx2 (by rw [cV_len, cOp_len]; omega) ?_; clear H; intro wk H; simp only [List.set_cons_zero, List.set_cons_succ] at H; rw [cOp_put] at H)) | refine pvQ ?_ | (refine opk 3 rfl ?_; (refine ost_cmp rfl rfl rfl rfl (fun hc => ?_) (fun hc => ?_) <;> (simp only [cmpP] at hc; try exact prIQ))) | (refine opk 4 rfl ?_; (refine ost_cmp rfl rfl rfl rfl (fun hc => ?_) (fun hc => ?_) <;> (simp only [cmpP] at hc; try exact prIQ))) | (refine opk 8 rfl ?_; first | (refine ost_store1 H rfl rfl vlQ gvQ ixQ (by first | decide | (simp; omega) | (simp; done) | omega) ?_; clear H; intro wk H; simp only [List.set_cons_zero, List.set_cons_succ, Nat.reduceAdd] at H) | (refine ost_storeW H rfl rfl rfl rfl lQ ixQ lQ okQ ?_; clear H; intro wk H; simp only [List.set_cons_zero, List.set_cons_succ, Nat.reduceAdd] at H)) | (refine opk 9 rfl ?_; first | (refine ost_boxq H rfl ?_; clear H; intro bk wk H) | (refine ost_allocA H rfl ?_; clear H; intro bk wk H))) | refine Wc.seq ?_ | refine then_n ?_ | refine WL.nil ?_ | refine Wc.region ?_ | refine Wc.block ?_ | refine then_r ?_ | refine then_e ?_ | refine inb_e rfl ?_ | refine inb_o rfl ?_ | refine inb_n ?_ | refine inb_r ?_ | refine Wc.skip ?_ | refine Wc.exit ?_ | refine Wc.ret ?_ | refine Wc.cond_true rfl ?_ | refine Wc.cond_false rfl ?_ | refine WL.skp rfl rfl ?_ | refine WL.sku rfl ?_)
        · refine fn_ret2 (v2 := .int _ _) rfl (rv_cellA rfl rfl H.bI lQ) rfl ⟨no5 fun u hr hu => ?_, H.fr⟩
          have := hE u hr hu
          rw [this] at hc; exact hc rfl
        · have hc : rightO (opN f D.1) 16 = true := hc
          have hD2 : D.2 = 0 := Classical.not_not.1 ‹_›
          refine fn_ret2 (v2 := .int _ _) rfl (rv_cellA rfl rfl H.bI lQ) rfl ⟨decO_fin (.inl ⟨rfl, hc, hS D.1 hbad he0 ?_⟩) rfl, H.fr⟩
          rcases hD with ⟨-, h⟩ | ⟨h, -⟩
          · rw [h, hI]
          · rw [hD2] at h; exact absurd h (by decide)
        · refine fn_ret2 (v2 := .int _ _) rfl (rv_cellA rfl rfl H.bI lQ) rfl ⟨no5 fun u hr hu => ?_, H.fr⟩
          have hc : rightO (opN f D.1) 16 = false := hc
          have h1 := hE u hr hu
          have h2 := (hF u hr hu).1 D.1
          rw [h2, h1] at hc
          rw [show ({ u with ctx := (u.ctx, (0 : Int)).1 } : OpT) = u from rfl, hr] at hc
          cases hc
      · refine fn_ret2 (v2 := .int _ _) rfl (rv_cellA rfl rfl H.bI lQ) rfl ⟨no5 fun u hr hu => ?_, H.fr⟩
        rw [(hB u hr hu).2] at hc; simp at hc
end Go.Tg

set_option linter.unusedVariables false
set_option linter.unusedSimpArgs false
set_option maxRecDepth 100000
set_option maxHeartbeats 4000000
namespace Go.Tg
open Go Go.Proofs
theorem seg_wrapped (kind : Nat) (hk : kind < 1000) (fc bc : Nat) [Fun Tryd.prog fc] (F : List UInt8) (hF : F.length ≤ 4000) (h0 : FH) (w : World) (hs : Sat h0 w) (hT : Half h0)
    (hlay : ∀ (b : Nat) (v : Value) (xs : List UInt8) (g : FH) (w : World), FLe h0 g → xs.length ≤ 20 → St w (wr b true 0 v xs).fp g g [wr b true 0 v xs] w → Spec Tryd.prog fc #[pt b, pt bc] w (wr b true 0 v xs).fp g (fun v' h' L' => v' = .tuple #[] ∧ ∃ v2, L' = [wr b true 0 v2 (xs ++ F)])) :
    Spec Tryd.prog 76 #[.int .u64 kind, .func (.func fc) [].toArray [pt bc].toArray] w [] h0 (fun v h' L' => ∃ a' c', v = .slice a' (wrapB (putB kind ++ F)).length c' ∧ L' = [own8 v 5 (wrapB (putB kind ++ F))]) := by
  have H := St.start hs
  have hp := putB_len kind
  have hl : (putB kind ++ F).length ≤ 4011 := by rw [List.length_append]; omega
  unfold Spec
  refine calls_of Tryd.func76 rfl Tryd.ntmps76 (by simp) ?_
  repeat' (first | ((first | refine WL.p rfl ?_ | refine WL.u ?_); first | (refine opk 1 rfl ?_; first | (refine ost_C H rfl (pack_New _ _ (sat_full _)) rfl ?_; clear H; rintro vk wk hfk Lk ⟨b1, rfl, rfl⟩ H; simp only [List.cons_append, List.nil_append] at H) | (refine ost_O (A := wr _ _ _ _ _) H rfl (by (exact ixQ)) (fun HO => pack_NumK _ _ _ _ _ HO kind (by omega) (by decide)) rfl ?_; clear H; rintro vk wk hfk Lk ⟨rfl, v3, rfl⟩ H; simp only [List.cons_append, List.nil_append, List.eraseIdx_cons_zero, List.eraseIdx_cons_succ] at H) | (refine ost_OE (A := wr _ _ _ _ _) H (ent_v rfl rfl rfl) (by (exact ixQ)) (fun HO => hlay _ _ _ _ _ (H.less ixQ) (by (try simp only [List.nil_append]); omega) HO) ?_; clear H; rintro vk wk hfk Lk ⟨rfl, v4, rfl⟩ H; simp only [List.cons_append, List.nil_append, List.eraseIdx_cons_zero, List.eraseIdx_cons_succ] at H) | (refine ost_O (A := wr _ _ _ _ _) H rfl (by (exact ixQ)) (fun HO => pack_All0 _ _ _ _ _ _ HO (by (try simp only [List.nil_append]); omega) rfl) rfl ?_; clear H; rintro vk wk hfk Lk ⟨a4, c4, rfl, _, rfl⟩ H; simp only [List.cons_append, List.nil_append, List.eraseIdx_cons_zero, List.eraseIdx_cons_succ] at H) | (refine ost_C H rfl (frame_WrapK _ _ _ (putB kind ++ F) _ (sat_full _) (hT.full H) (H.own8rd (i := 0) rfl) (by omega)) rfl ?_; clear H; rintro vk wk hfk Lk ⟨a5, c5, rfl, _, rfl⟩ H; simp only [List.cons_append, List.nil_append] at H)) | refine pvQ ?_) | refine Wc.seq ?_ | refine then_n ?_ | refine WL.nil ?_ | refine Wc.region ?_ | refine Wc.block ?_ | refine then_r ?_ | refine then_e ?_ | refine inb_e rfl ?_ | refine inb_o rfl ?_ | refine inb_n ?_ | refine inb_r ?_ | refine Wc.skip ?_ | refine Wc.exit ?_ | refine Wc.ret ?_ | refine Wc.cond_true rfl ?_ | refine Wc.cond_false rfl ?_)
  exact fn_ret1 (v := .slice _ _ _) rfl rfl ⟨_, _, H.pick 0 rfl, _, _, rfl, rfl⟩
theorem seg_Head1 (id : UInt32) (b bc : Nat) (v : Value) (xs : List UInt8) (g : FH) (w : World) (HO : St w (wr b true 0 v xs).fp g g [wr b true 0 v xs] w) (hx : xs.length ≤ 20) {T : TypeId} {fr : Nat × Nat} (hb : g bc = some (.cells [.int .u32 id.toNat].toArray T fr)) :
    Spec Tryd.prog 83 #[pt b, pt bc] w (wr b true 0 v xs).fp g (fun v' h' L' => v' = .tuple #[] ∧ ∃ v2, L' = [wr b true 0 v2 (xs ++ putB id.toNat)]) := by
  have H := HO
  have hi := id.toNat_lt
  unfold Spec
  refine calls_of Tryd.func83 rfl Tryd.ntmps83 (by simp) ?_
  repeat' (first | ((first | refine WL.p rfl ?_ | refine WL.u ?_); first | (refine opk 1 rfl ?_; (refine ost_O (A := wr _ _ _ _ _) H rfl (by (exact ixQ)) (fun HO => pack_NumK _ _ _ _ _ HO id.toNat (by omega) (by omega)) rfl ?_; clear H; rintro vk wk hfk Lk ⟨rfl, v3, rfl⟩ H; simp only [List.cons_append, List.nil_append, List.eraseIdx_cons_zero, List.eraseIdx_cons_succ] at H)) | refine pvQ ?_) | refine Wc.seq ?_ | refine then_n ?_ | refine WL.nil ?_ | refine Wc.region ?_ | refine Wc.block ?_ | refine then_r ?_ | refine then_e ?_ | refine inb_e rfl ?_ | refine inb_o rfl ?_ | refine inb_n ?_ | refine inb_r ?_ | refine Wc.skip ?_ | refine Wc.exit ?_ | refine Wc.ret ?_ | refine Wc.cond_true rfl ?_ | refine Wc.cond_false rfl ?_)
  exact fn_end0 rfl ⟨_, _, H, rfl, _, rfl⟩
theorem seg_Foot1 (n : Nat) (hn : n ≤ 4096) (b bc : Nat) (v : Value) (xs : List UInt8) (g : FH) (w : World) (HO : St w (wr b true 0 v xs).fp g g [wr b true 0 v xs] w) (hx : xs.length ≤ 20) {T : TypeId} {fr : Nat × Nat} (hb : g bc = some (.cells [.int .i64 n].toArray T fr)) :
    Spec Tryd.prog 81 #[pt b, pt bc] w (wr b true 0 v xs).fp g (fun v' h' L' => v' = .tuple #[] ∧ ∃ v2, L' = [wr b true 0 v2 (xs ++ putB n)]) := by
  have H := HO
  unfold Spec
  refine calls_of Tryd.func81 rfl Tryd.ntmps81 (by simp) ?_
  repeat' (first | ((first | refine WL.p rfl ?_ | refine WL.u ?_); first | (refine opk 1 rfl ?_; (refine ost_O (A := wr _ _ _ _ _) H rfl (by (exact ixQ)) (fun HO => pack_NumK _ _ _ _ _ HO n (by omega) (by omega)) rfl ?_; clear H; rintro vk wk hfk Lk ⟨rfl, v3, rfl⟩ H; simp only [List.cons_append, List.nil_append, List.eraseIdx_cons_zero, List.eraseIdx_cons_succ] at H)) | refine pvQ ?_) | refine Wc.seq ?_ | refine then_n ?_ | refine WL.nil ?_ | refine Wc.region ?_ | refine Wc.block ?_ | refine then_r ?_ | refine then_e ?_ | refine inb_e rfl ?_ | refine inb_o rfl ?_ | refine inb_n ?_ | refine inb_r ?_ | refine Wc.skip ?_ | refine Wc.exit ?_ | refine Wc.ret ?_ | refine Wc.cond_true rfl ?_ | refine Wc.cond_false rfl ?_)
  exact fn_end0 rfl ⟨_, _, H, rfl, _, rfl⟩
theorem seg_Record1 (ys : List UInt8) (hy : ys.length ≤ 1000) (a : Option Addr) (c : Nat) (b bc : Nat) (v : Value) (xs : List UInt8) (g : FH) (w : World) (HO : St w (wr b true 0 v xs).fp g g [wr b true 0 v xs] w) (hx : xs.length ≤ 20) {T : TypeId} {fr : Nat × Nat} (hb : g bc = some (.cells [.slice a ys.length c].toArray T fr)) (hr : BS g a c ys) :
    Spec Tryd.prog 77 #[pt b, pt bc] w (wr b true 0 v xs).fp g (fun v' h' L' => v' = .tuple #[] ∧ ∃ v2, L' = [wr b true 0 v2 (xs ++ fieldB ys)]) := by
  have H := HO
  have hf := fieldB_len ys
  have hB : ∀ (b : Nat) (v : Value) (g : FH) (w : World) (HO : St w (wr b true 0 v xs).fp g g [wr b true 0 v xs] w) (hr : BS g a c ys), Spec Tryd.prog 78 #[pt b, .slice a ys.length c] w (wr b true 0 v xs).fp g (fun v' h' L' => v' = .int .i64 0 ∧ ∃ v2, L' = [wr b true 0 v2 (xs ++ fieldB ys)]) := fun b v g w HO hr => by
    have := pack_Bytes b true 0 v xs g w HO a c ys hr (by omega) (by omega)
    rw [layE_ok (by omega)] at this; exact this
  unfold Spec
  refine calls_of Tryd.func77 rfl Tryd.ntmps77 (by simp) ?_
  repeat' (first | ((first | refine WL.p rfl ?_ | refine WL.u ?_); first | (refine opk 1 rfl ?_; (refine ost_H (A := wr _ _ _ _ _) H rfl (by (exact ixQ)) (fun HO => hB _ _ _ _ HO hr) rfl ?_; clear H; rintro vk wk hfk Lk ⟨rfl, v3, rfl⟩ hle H; simp only [List.cons_append, List.nil_append, List.eraseIdx_cons_zero, List.eraseIdx_cons_succ] at H)) | refine pvQ ?_) | refine Wc.seq ?_ | refine then_n ?_ | refine WL.nil ?_ | refine Wc.region ?_ | refine Wc.block ?_ | refine then_r ?_ | refine then_e ?_ | refine inb_e rfl ?_ | refine inb_o rfl ?_ | refine inb_n ?_ | refine inb_r ?_ | refine Wc.skip ?_ | refine Wc.exit ?_ | refine Wc.ret ?_ | refine Wc.cond_true rfl ?_ | refine Wc.cond_false rfl ?_)
  exact fn_end0 rfl ⟨_, _, H, rfl, _, rfl⟩
theorem seg_Head (id : UInt32) (h0 : FH) (w : World) (hs : Sat h0 w) (hT : Half h0) :
    Spec Tryd.prog 38 #[.int .u32 id.toNat] w [] h0 (fun v h' L' => ∃ a' c', v = .slice a' (headB id).length c' ∧ L' = [own8 v 5 (headB id)]) := by
  have H := St.start hs
  have hl := putB_len id.toNat
  unfold Spec
  refine calls_of Tryd.func38 rfl Tryd.ntmps38 (by simp) ?_
  repeat' (first | ((first | refine WL.p rfl ?_ | refine WL.u ?_); first | refine pvQ ?_ | (refine opk 9 rfl ?_; (refine ost_boxq H rfl ?_; clear H; intro bk wk H))) | refine Wc.seq ?_ | refine then_n ?_ | refine WL.nil ?_ | refine Wc.region ?_ | refine Wc.block ?_ | refine then_r ?_ | refine then_e ?_ | refine inb_e rfl ?_ | refine inb_o rfl ?_ | refine inb_n ?_ | refine inb_r ?_ | refine Wc.skip ?_ | refine Wc.exit ?_ | refine Wc.ret ?_ | refine Wc.cond_true rfl ?_ | refine Wc.cond_false rfl ?_)
  obtain ⟨h1, hle1, hb1, H⟩ := H.freezeB
  repeat' (first | ((first | refine WL.p rfl ?_ | refine WL.u ?_); first | (refine opk 1 rfl ?_; (refine ost_Sk H rfl (seg_wrapped 1 (by decide) _ _ (putB id.toNat) (by omega) _ _ H.sat (hT.mono hle1) (fun b v xs g w hl hx HO => seg_Head1 id b _ v xs g w HO hx (hl _ _ hb1))) rfl ?_; clear H; rintro vk wk hfk Lk ⟨a5, c5, rfl, rfl⟩ hle H; simp only [List.cons_append, List.nil_append] at H)) | refine pvQ ?_ | (refine opk 9 rfl ?_; (refine ost_boxq H rfl ?_; clear H; intro bk wk H))) | refine Wc.seq ?_ | refine then_n ?_ | refine WL.nil ?_ | refine Wc.region ?_ | refine Wc.block ?_ | refine then_r ?_ | refine then_e ?_ | refine inb_e rfl ?_ | refine inb_o rfl ?_ | refine inb_n ?_ | refine inb_r ?_ | refine Wc.skip ?_ | refine Wc.exit ?_ | refine Wc.ret ?_ | refine Wc.cond_true rfl ?_ | refine Wc.cond_false rfl ?_)
  exact fn_ret1 (v := .slice _ _ _) rfl rfl ⟨_, _, H.pick 0 rfl, _, _, rfl, rfl⟩
noncomputable def outK (n : Int) : List UInt8 × Int := if 0 ≤ n ∧ n ≤ 4096 then (footB n.toNat, 0) else ([], 2)
theorem seg_Foot (n : Int) (n1 : -9223372036854775808 ≤ n) (n2 : n ≤ 9223372036854775807) (h0 : FH) (w : World) (hs : Sat h0 w) (hT : Half h0) :
    Spec Tryd.prog 36 #[.int .i64 n] w [] h0 (fun v h' L' => ∃ a' c', v = .tuple #[.slice a' (outK n).1.length c', .int .i64 (outK n).2] ∧ L' = [own8 (.slice a' (outK n).1.length c') 5 (outK n).1]) := by
  have H := St.start hs
  unfold Spec
  refine calls_of Tryd.func36 rfl Tryd.ntmps36 (by simp) ?_
  by_cases hn : 0 ≤ n ∧ n ≤ 4096
  · rw [show outK n = (footB n.toNat, 0) from if_pos hn]
    obtain ⟨m, rfl⟩ := Int.eq_ofNat_of_zero_le hn.1
    have hm : m ≤ 4096 := by omega
    have hl := putB_len m
    rw [show ((m : Int)).toNat = m from rfl]
    repeat' (first | ((first | refine WL.p rfl ?_ | refine WL.u ?_ | refine WL.g rfl rfl ?_ | refine WL.gu rfl ?_); first | refine pvQ ?_ | (refine opk 3 rfl ?_; (refine ost_cmp rfl rfl rfl rfl (fun hc => ?_) (fun hc => ?_) <;> (simp only [cmpP] at hc; try exact prIQ))) | (refine opk 4 rfl ?_; (refine ost_cmp rfl rfl rfl rfl (fun hc => ?_) (fun hc => ?_) <;> (simp only [cmpP] at hc; try exact prIQ))) | (refine opk 9 rfl ?_; (refine ost_boxq H rfl ?_; clear H; intro bk wk H))) | refine Wc.seq ?_ | refine then_n ?_ | refine WL.nil ?_ | refine Wc.region ?_ | refine Wc.block ?_ | refine then_r ?_ | refine then_e ?_ | refine inb_e rfl ?_ | refine inb_o rfl ?_ | refine inb_n ?_ | refine inb_r ?_ | refine Wc.skip ?_ | refine Wc.exit ?_ | refine Wc.ret ?_ | refine Wc.cond_true rfl ?_ | refine Wc.cond_false rfl ?_ | refine WL.skp rfl rfl ?_ | refine WL.sku rfl ?_)
    obtain ⟨h1, hle1, hb1, H⟩ := H.freezeB
    repeat' (first | ((first | refine WL.p rfl ?_ | refine WL.u ?_ | refine WL.g rfl rfl ?_ | refine WL.gu rfl ?_); first | (refine opk 1 rfl ?_; (refine ost_Sk H rfl (seg_wrapped 3 (by decide) _ _ (putB m) (by omega) _ _ H.sat (hT.mono hle1) (fun b v xs g w hl hx HO => seg_Foot1 m hm b _ v xs g w HO hx (hl _ _ hb1))) rfl ?_; clear H; rintro vk wk hfk Lk ⟨a5, c5, rfl, rfl⟩ hle H; simp only [List.cons_append, List.nil_append] at H)) | refine pvQ ?_ | (refine opk 3 rfl ?_; (refine ost_cmp rfl rfl rfl rfl (fun hc => ?_) (fun hc => ?_) <;> (simp only [cmpP] at hc; try exact prIQ))) | (refine opk 4 rfl ?_; (refine ost_cmp rfl rfl rfl rfl (fun hc => ?_) (fun hc => ?_) <;> (simp only [cmpP] at hc; try exact prIQ))) | (refine opk 9 rfl ?_; (refine ost_boxq H rfl ?_; clear H; intro bk wk H))) | refine Wc.seq ?_ | refine then_n ?_ | refine WL.nil ?_ | refine Wc.region ?_ | refine Wc.block ?_ | refine then_r ?_ | refine then_e ?_ | refine inb_e rfl ?_ | refine inb_o rfl ?_ | refine inb_n ?_ | refine inb_r ?_ | refine Wc.skip ?_ | refine Wc.exit ?_ | refine Wc.ret ?_ | refine Wc.cond_true rfl ?_ | refine Wc.cond_false rfl ?_ | refine WL.skp rfl rfl ?_ | refine WL.sku rfl ?_)
    exact fn_ret2 (v1 := .slice _ _ _) (v2 := .int _ _) rfl rfl rfl ⟨_, _, H.pick 0 rfl, _, _, rfl, rfl⟩
  · rw [show outK n = ([], 2) from if_neg hn]
    repeat' (first | ((first | refine WL.p rfl ?_ | refine WL.u ?_ | refine WL.g rfl rfl ?_ | refine WL.gu rfl ?_); first | refine pvQ ?_ | (refine opk 3 rfl ?_; (refine ost_cmp rfl rfl rfl rfl (fun hc => ?_) (fun hc => ?_) <;> (simp only [cmpP] at hc; try exact prIQ))) | (refine opk 4 rfl ?_; (refine ost_cmp rfl rfl rfl rfl (fun hc => ?_) (fun hc => ?_) <;> (simp only [cmpP] at hc; try exact prIQ))) | (refine opk 9 rfl ?_; (refine ost_boxq H rfl ?_; clear H; intro bk wk H))) | refine Wc.seq ?_ | refine then_n ?_ | refine WL.nil ?_ | refine Wc.region ?_ | refine Wc.block ?_ | refine then_r ?_ | refine then_e ?_ | refine inb_e rfl ?_ | refine inb_o rfl ?_ | refine inb_n ?_ | refine inb_r ?_ | refine Wc.skip ?_ | refine Wc.exit ?_ | refine Wc.ret ?_ | refine Wc.cond_true rfl ?_ | refine Wc.cond_false rfl ?_ | refine WL.skp rfl rfl ?_ | refine WL.sku rfl ?_)
    all_goals exact fn_ret2 (v1 := .slice _ _ _) (v2 := .int _ _) rfl rfl rfl ⟨_, _, (H.nil8 5).pick 0 rfl, _, _, rfl, rfl⟩
noncomputable def outC (o : OpT) : List UInt8 × Int := if rightO o 16 = true then (recB o, 0) else ([], 2)
theorem seg_Record (o : OpT) (h0 : FH) (w : World) (hs : Sat h0 w) (hT : Half h0) :
    Spec Tryd.prog 34 #[.agg (cOp o).toArray] w [] h0 (fun v h' L' => ∃ a' c', v = .tuple #[.slice a' (outC o).1.length c', .int .i64 (outC o).2] ∧ L' = [own8 (.slice a' (outC o).1.length c') 5 (outC o).1]) := by
  have H := St.start hs
  have lo := cOp_len o
  unfold Spec
  refine calls_of Tryd.func34 rfl Tryd.ntmps34 (by simp) ?_
  cases hr : rightO o 16 with
  | true =>
    have hl := encO_len o
    have hf := fieldB_len (encO o)
    have hE : ∀ w, Sat h0 w → Spec Tryd.prog 75 #[.agg (cOp o).toArray] w [] h0 (fun v h' L' => ∃ a' c', v = .tuple #[.slice a' (encO o).length c', .int .i64 0] ∧ h' = h0 ∧ L' = [own8 (.slice a' (encO o).length c') 5 (encO o)]) := fun w hs => by
      have := op_Encode h0 o w hs
      rw [show outO o = (encO o, 0) by unfold outO; rw [if_pos hr]] at this; exact this
    rw [show outC o = (recB o, 0) by unfold outC; rw [if_pos hr]]
    repeat' (first | ((first | refine WL.p rfl ?_ | refine WL.u ?_); first | (refine opk 1 rfl ?_; (refine ost_Sk H rfl (hE _ H.sat) rfl ?_; clear H; rintro vk wk hfk Lk ⟨a1, c1, rfl, e9, rfl⟩ hle H; simp only [List.cons_append, List.nil_append] at H)) | refine pvQ ?_ | (refine opk 3 rfl ?_; (refine ost_cmp rfl rfl rfl rfl (fun hc => ?_) (fun hc => ?_) <;> (simp only [cmpP] at hc; try exact prIQ))) | (refine opk 4 rfl ?_; (refine ost_cmp rfl rfl rfl rfl (fun hc => ?_) (fun hc => ?_) <;> (simp only [cmpP] at hc; try exact prIQ))) | (refine opk 8 rfl ?_; (refine ost_store1 H rfl rfl vlQ gvQ ixQ (by first | decide | (simp; omega) | (simp; done) | omega) ?_; clear H; intro wk H; simp only [List.set_cons_zero, List.set_cons_succ, Nat.reduceAdd] at H)) | (refine opk 9 rfl ?_; first | (refine ost_boxq H rfl ?_; clear H; intro bk wk H) | (refine ost_alloc1 H rfl rfl ?_; clear H; intro bk wk H))) | refine Wc.seq ?_ | refine then_n ?_ | refine WL.nil ?_ | refine Wc.region ?_ | refine Wc.block ?_ | refine then_r ?_ | refine then_e ?_ | refine inb_e rfl ?_ | refine inb_o rfl ?_ | refine inb_n ?_ | refine inb_r ?_ | refine Wc.skip ?_ | refine Wc.exit ?_ | refine Wc.ret ?_ | refine Wc.cond_true rfl ?_ | refine Wc.cond_false rfl ?_)
    replace e9 := e9.symm
    subst e9
    obtain ⟨h1, hle1, hb1, H⟩ := H.freezeB
    obtain ⟨a6, c6, h4, e6, hle4, hr6, H⟩ := H.freeze8
    cases e6
    repeat' (first | ((first | refine WL.p rfl ?_ | refine WL.u ?_); first | (refine opk 1 rfl ?_; (refine ost_Sk H rfl (seg_wrapped 2 (by decide) _ _ (fieldB (encO o)) (by omega) _ _ H.sat ((hT.mono hle1).mono hle4) (fun b v xs g w hl hx HO => seg_Record1 (encO o) (by omega) _ _ b _ v xs g w HO hx (hl _ _ (hle4 _ _ hb1)) (hr6.mono hl))) rfl ?_; clear H; rintro vk wk hfk Lk ⟨a5, c5, rfl, rfl⟩ hle H; simp only [List.cons_append, List.nil_append] at H)) | refine pvQ ?_ | (refine opk 3 rfl ?_; (refine ost_cmp rfl rfl rfl rfl (fun hc => ?_) (fun hc => ?_) <;> (simp only [cmpP] at hc; try exact prIQ))) | (refine opk 4 rfl ?_; (refine ost_cmp rfl rfl rfl rfl (fun hc => ?_) (fun hc => ?_) <;> (simp only [cmpP] at hc; try exact prIQ))) | (refine opk 8 rfl ?_; (refine ost_store1 H rfl rfl vlQ gvQ ixQ (by first | decide | (simp; omega) | (simp; done) | omega) ?_; clear H; intro wk H; simp only [List.set_cons_zero, List.set_cons_succ, Nat.reduceAdd] at H)) | (refine opk 9 rfl ?_; first | (refine ost_boxq H rfl ?_; clear H; intro bk wk H) | (refine ost_alloc1 H rfl rfl ?_; clear H; intro bk wk H))) | refine Wc.seq ?_ | refine then_n ?_ | refine WL.nil ?_ | refine Wc.region ?_ | refine Wc.block ?_ | refine then_r ?_ | refine then_e ?_ | refine inb_e rfl ?_ | refine inb_o rfl ?_ | refine inb_n ?_ | refine inb_r ?_ | refine Wc.skip ?_ | refine Wc.exit ?_ | refine Wc.ret ?_ | refine Wc.cond_true rfl ?_ | refine Wc.cond_false rfl ?_)
    exact fn_ret2 (v1 := .slice _ _ _) (v2 := .int _ _) rfl rfl rfl ⟨_, _, H.pick 0 rfl, _, _, rfl, rfl⟩
  | false =>
    have hE : ∀ w, Sat h0 w → Spec Tryd.prog 75 #[.agg (cOp o).toArray] w [] h0 (fun v h' L' => ∃ a' c', v = .tuple #[.slice a' ([] : List UInt8).length c', .int .i64 2] ∧ h' = h0 ∧ L' = [own8 (.slice a' ([] : List UInt8).length c') 5 []]) := fun w hs => by
      have := op_Encode h0 o w hs
      rw [show outO o = ([], 2) by unfold outO; rw [hr]; rfl] at this; exact this
    rw [show outC o = ([], 2) by unfold outC; rw [hr]; rfl]
    repeat' (first | ((first | refine WL.p rfl ?_ | refine WL.u ?_); first | (refine opk 1 rfl ?_; (refine ost_Sk H rfl (hE _ H.sat) rfl ?_; clear H; rintro vk wk hfk Lk ⟨a1, c1, rfl, e9, rfl⟩ hle H; simp only [List.cons_append, List.nil_append] at H)) | refine pvQ ?_ | (refine opk 3 rfl ?_; (refine ost_cmp rfl rfl rfl rfl (fun hc => ?_) (fun hc => ?_) <;> (simp only [cmpP] at hc; try exact prIQ))) | (refine opk 4 rfl ?_; (refine ost_cmp rfl rfl rfl rfl (fun hc => ?_) (fun hc => ?_) <;> (simp only [cmpP] at hc; try exact prIQ))) | (refine opk 8 rfl ?_; (refine ost_store1 H rfl rfl vlQ gvQ ixQ (by first | decide | (simp; omega) | (simp; done) | omega) ?_; clear H; intro wk H; simp only [List.set_cons_zero, List.set_cons_succ, Nat.reduceAdd] at H)) | (refine opk 9 rfl ?_; first | (refine ost_boxq H rfl ?_; clear H; intro bk wk H) | (refine ost_alloc1 H rfl rfl ?_; clear H; intro bk wk H))) | refine Wc.seq ?_ | refine then_n ?_ | refine WL.nil ?_ | refine Wc.region ?_ | refine Wc.block ?_ | refine then_r ?_ | refine then_e ?_ | refine inb_e rfl ?_ | refine inb_o rfl ?_ | refine inb_n ?_ | refine inb_r ?_ | refine Wc.skip ?_ | refine Wc.exit ?_ | refine Wc.ret ?_ | refine Wc.cond_true rfl ?_ | refine Wc.cond_false rfl ?_)
    exact fn_ret2 (v1 := .slice _ _ _) (v2 := .int _ _) rfl rfl rfl ⟨_, _, (H.nil8 5).pick 0 rfl, _, _, rfl, rfl⟩
end Go.Tg

