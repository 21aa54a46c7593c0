/- Contracts of Go functions that the laws reach: what each call answers and leaves in memory, for all arguments within the bounds that each theorem names. -/
import Derived.Test.YtbfilhaigbebpaaDoorInst
import Derived.Test.YtbfilhaigbebpaaDoorAuto
import Derived.Test.YtbfilhaigbebpaaDoorC1
import Derived.Test.YtbfilhaigbebpaaDoorSl
import Derived.Test.YtbfilhaigbebpaaDoorVec2
set_option linter.unusedVariables false
set_option linter.unusedSimpArgs false
set_option maxRecDepth 100000
set_option maxHeartbeats 4000000
namespace Go.Tg
open Go Go.Proofs
def Half (h : FH) : Prop := ∃ T fr, h 0 = some (.cells halfV.toArray T fr)
theorem Half.mono {h h' : FH} (hle : FLe h h') (r : Half h) : Half h' := by
  obtain ⟨T, fr, e⟩ := r; exact ⟨T, fr, hle _ _ e⟩
theorem Half.full {ws w : World} {S : List Nat} {h0 h : FH} {L : List HA} (r : Half h) (H : St ws S h0 h L w) : Half (full w) := r.mono H.sat.le
theorem foldC_take (x : BitVec 32) (xs : List UInt8) {k : Nat} (h : k < xs.length) : (xs.take (k + 1)).foldl takeC x = takeC ((xs.take k).foldl takeC x) xs[k] := by
  rw [List.take_add_one, List.getElem?_eq_getElem h, List.foldl_append]; rfl
theorem xor_max (x : BitVec 32) : bitv .xor .u32 x.toNat 4294967295 = ((x ^^^ 4294967295#32).toNat : Int) := bitv_xor x 4294967295#32
theorem xor_max' (x : BitVec 32) : bitv .xor .u32 4294967295 x.toNat = ((x ^^^ 4294967295#32).toNat : Int) := by
  have := bitv_xor 4294967295#32 x
  rw [BitVec.xor_comm] at this; exact this
theorem r1_Next (h0 : FH) (x : BitVec 32) (a : Option Addr) (c : Nat) (xs : List UInt8) (w : World) (hs : Sat h0 w) (hr : BS h0 a c xs) :
    SpecV Tryd.prog 71 #[.int .u32 x.toNat, .slice a xs.length c] w (.int .u32 (nextC x xs).toNat) := by
  have H := St.start hs
  have hcap := hr.le
  have hmx : c ≤ 9223372036854775807 := by
    have := hr.mx
    have h9 : (maxLen : Nat) ≤ 9223372036854775807 := by decide
    omega
  unfold SpecV
  refine calls_of Tryd.func71 rfl Tryd.ntmps71 (by simp) ?_
  repeat' (first | ((first | refine WL.p rfl ?_ | refine WL.u ?_); first | refine pvQ ?_ | (refine opk 3 rfl ?_; (refine ost_cmp rfl rfl rfl rfl (fun hc => ?_) (fun hc => ?_) <;> (simp only [cmpP] at hc; try exact prIQ))) | (refine opk 4 rfl ?_; (refine ost_cmp rfl rfl rfl rfl (fun hc => ?_) (fun hc => ?_) <;> (simp only [cmpP] at hc; try exact prIQ)))) | refine Wc.seq ?_ | refine then_n ?_ | refine WL.nil ?_ | refine Wc.region ?_ | refine Wc.block ?_ | refine then_r ?_ | refine then_e ?_ | refine inb_e rfl ?_ | refine inb_o rfl ?_ | refine inb_n ?_ | refine inb_r ?_ | refine Wc.skip ?_ | refine Wc.exit ?_ | refine Wc.ret ?_ | refine Wc.cond_true rfl ?_ | refine Wc.cond_false rfl ?_)
  refine Wc.loopE (fun s0 m s w' => ∃ k : Nat, m = xs.length - k ∧ k ≤ xs.length ∧ Agree [5, 6, 9, 10, 11, 12, 13, 14, 15, 16, 17, 18, 19, 20] s s0 ∧ s 6 = .int .i64 k ∧ s 5 = .int .u32 ((xs.take k).foldl takeC (x ^^^ 4294967295#32)).toNat ∧
    St w [] h0 h0 [] w') xs.length ⟨0, rfl, by omega, Agree.refl _ _, rfl, by show Value.int .u32 (bitv .xor .u32 x.toNat 4294967295) = _; rw [xor_max]; rfl, H⟩ ?_
  clear H
  rintro m s w' ⟨k, rfl, hk, hA, e1, e2, H⟩
  obtain ⟨j, rfl⟩ := hA.env2 e1 e2
  clear hA e1 e2
  by_cases hlt : k < xs.length
  · obtain ⟨b, off, l, T, fr, rfl, eb, eg⟩ := hr.get hlt
    have g1 : l[off + (k : Int).toNat * 1]? = some (.int .u8 (xs[k]).toNat) := by rw [show off + (k : Int).toNat * 1 = off + k by omega]; exact eg k hlt
    repeat' (first | ((first | refine WL.p rfl ?_ | refine WL.u ?_); first | (refine opk 1 rfl ?_; (refine ost_V H rfl (r1_take _ _ _) rfl ?_; clear H; intro wk H)) | refine pvQ ?_ | (refine opk 3 rfl ?_; (refine ost_cmp rfl rfl rfl rfl (fun hc => ?_) (fun hc => ?_) <;> (simp only [cmpP] at hc; try exact prIQ))) | (refine opk 4 rfl ?_; (refine ost_cmp rfl rfl rfl rfl (fun hc => ?_) (fun hc => ?_) <;> (simp only [cmpP] at hc; try exact prIQ)))) | refine Wc.seq ?_ | refine then_n ?_ | refine WL.nil ?_ | refine Wc.region ?_ | refine Wc.block ?_ | refine then_r ?_ | refine then_e ?_ | refine inb_e rfl ?_ | refine inb_o rfl ?_ | refine inb_n ?_ | refine inb_r ?_ | refine Wc.skip ?_ | refine Wc.exit ?_ | refine Wc.ret ?_ | refine Wc.cond_true rfl ?_ | refine Wc.cond_false rfl ?_)
    exact ⟨xs.length - (k + 1), by omega, k + 1, rfl, by omega, by (repeat' (first | exact Agree.refl _ _ | exact Agree.havoc | refine Agree.upd rfl ?_ | refine Agree.hav2 rfl ?_)), rfl, by rw [foldC_take _ _ hlt]; rfl, H⟩
  · obtain rfl : k = xs.length := by omega
    repeat' (first | ((first | refine WL.p rfl ?_ | refine WL.u ?_); first | refine pvQ ?_ | (refine opk 3 rfl ?_; (refine ost_cmp rfl rfl rfl rfl (fun hc => ?_) (fun hc => ?_) <;> (simp only [cmpP] at hc; try exact prIQ))) | (refine opk 4 rfl ?_; (refine ost_cmp rfl rfl rfl rfl (fun hc => ?_) (fun hc => ?_) <;> (simp only [cmpP] at hc; try exact prIQ)))) | refine Wc.seq ?_ | refine then_n ?_ | refine WL.nil ?_ | refine Wc.region ?_ | refine Wc.block ?_ | refine then_r ?_ | refine then_e ?_ | refine inb_e rfl ?_ | refine inb_o rfl ?_ | refine inb_n ?_ | refine inb_r ?_ | refine Wc.skip ?_ | refine Wc.exit ?_ | refine Wc.ret ?_ | refine Wc.cond_true rfl ?_ | refine Wc.cond_false rfl ?_)
    (first | refine fn_ret1 (v := .bool _) rfl rfl ⟨?_, H.fr⟩ | refine fn_ret1 (v := .int _ _) rfl rfl ⟨?_, H.fr⟩ | refine fn_ret1 (v := .string _) rfl rfl ⟨?_, H.fr⟩)
    rw [xor_max, List.take_length]; rfl
theorem r1_Sum (h0 : FH) (a : Option Addr) (c : Nat) (xs : List UInt8) (w : World) (hs : Sat h0 w) (hr : BS h0 a c xs) :
    SpecV Tryd.prog 58 #[.slice a xs.length c] w (.int .u32 (sumC xs).toNat) := by
  have H := St.start hs
  unfold SpecV
  refine calls_of Tryd.func58 rfl Tryd.ntmps58 (by simp) ?_
  repeat' (first | ((first | refine WL.p rfl ?_ | refine WL.u ?_); first | (refine opk 1 rfl ?_; (refine ost_V H rfl (r1_Next _ 0#32 _ _ xs _ H.sat hr) rfl ?_; clear H; intro wk H)) | refine pvQ ?_) | refine Wc.seq ?_ | refine then_n ?_ | refine WL.nil ?_ | refine Wc.region ?_ | refine Wc.block ?_ | refine then_r ?_ | refine then_e ?_ | refine inb_e rfl ?_ | refine inb_o rfl ?_ | refine inb_n ?_ | refine inb_r ?_ | refine Wc.skip ?_ | refine Wc.exit ?_ | refine Wc.ret ?_ | refine Wc.cond_true rfl ?_ | refine Wc.cond_false rfl ?_)
  (first | refine fn_ret1 (v := .bool _) rfl rfl ⟨?_, H.fr⟩ | refine fn_ret1 (v := .int _ _) rfl rfl ⟨?_, H.fr⟩ | refine fn_ret1 (v := .string _) rfl rfl ⟨?_, H.fr⟩); rfl
theorem crc_Next (h0 : FH) (x : BitVec 32) (a : Option Addr) (c : Nat) (xs : List UInt8) (w : World) (hs : Sat h0 w) (hT : Half h0) (hr : BS h0 a c xs) :
    SpecV Tryd.prog 79 #[.int .u32 x.toNat, .slice a xs.length c] w (.int .u32 (nextC x xs).toNat) := by
  have H := St.start hs
  have hcap := hr.le
  have hmx : c ≤ 9223372036854775807 := by
    have := hr.mx
    have h9 : (maxLen : Nat) ≤ 9223372036854775807 := by decide
    omega
  obtain ⟨T1, fr1, eh⟩ := hT
  unfold SpecV
  refine calls_of Tryd.func79 rfl Tryd.ntmps79 (by simp) ?_
  repeat' (first | ((first | refine WL.p rfl ?_ | refine WL.u ?_); first | refine pvQ ?_ | (refine opk 3 rfl ?_; (refine ost_cmp rfl rfl rfl rfl (fun hc => ?_) (fun hc => ?_) <;> (simp only [cmpP] at hc; try exact prIQ))) | (refine opk 4 rfl ?_; (refine ost_cmp rfl rfl rfl rfl (fun hc => ?_) (fun hc => ?_) <;> (simp only [cmpP] at hc; try exact prIQ)))) | refine Wc.seq ?_ | refine then_n ?_ | refine WL.nil ?_ | refine Wc.region ?_ | refine Wc.block ?_ | refine then_r ?_ | refine then_e ?_ | refine inb_e rfl ?_ | refine inb_o rfl ?_ | refine inb_n ?_ | refine inb_r ?_ | refine Wc.skip ?_ | refine Wc.exit ?_ | refine Wc.ret ?_ | refine Wc.cond_true rfl ?_ | refine Wc.cond_false rfl ?_)
  refine Wc.loopE (fun s0 m s w' => ∃ k : Nat, m = xs.length - k ∧ k ≤ xs.length ∧ Agree [5, 7, 12, 13, 14, 15, 16, 17, 18, 19, 20, 21, 22, 23, 24, 25, 26, 27, 28, 29, 30, 31, 32, 33, 34] s s0 ∧ s 12 = .int .i64 k ∧ s 5 = .int .u32 ((xs.take k).foldl takeC (x ^^^ 4294967295#32)).toNat ∧
    St w [] h0 h0 [] w') xs.length ⟨0, rfl, by omega, Agree.refl _ _, rfl, by show Value.int .u32 (bitv .xor .u32 4294967295 x.toNat) = _; rw [xor_max']; rfl, H⟩ ?_
  clear H
  rintro m s w' ⟨k, rfl, hk, hA, e1, e2, H⟩
  obtain ⟨j, rfl⟩ := hA.env2 e1 e2
  clear hA e1 e2
  by_cases hlt : k < xs.length
  · obtain ⟨b, off, l, T, fr, rfl, eb, eg⟩ := hr.get hlt
    have g1 : l[off + (k : Int).toNat * 1]? = some (.int .u8 (xs[k]).toNat) := by rw [show off + (k : Int).toNat * 1 = off + k by omega]; exact eg k hlt
    have hn := foldC_take (x ^^^ 4294967295#32) xs hlt
    generalize hx9 : xs[k] = cc at g1 hn
    generalize hy : (xs.take k).foldl takeC (x ^^^ 4294967295#32) = y at hn
    rw [takeC_half] at hn
    dsimp only at hn
    have hc8 := cc.toNat_lt
    have q1 : bitv .xor .u32 (y.toNat : Int) (cc.toNat : Int) = ((y ^^^ BitVec.ofNat 32 cc.toNat).toNat : Int) := by
      have := bitv_xor y (BitVec.ofNat 32 cc.toNat)
      rw [← this]; congr 1
      simp
      try omega
    generalize hz : y ^^^ BitVec.ofNat 32 cc.toNat = z at hn q1
    have q2 := lowI z
    have q3 := shr4 z
    have q4 := lowC_lt z
    have q5 := halfV_at q4
    have q6 := bitv_xor (z >>> 4) (BitVec.ofNat 32 (halfL.getD (lowC z) 0).toNat)
    generalize hu : (z >>> 4) ^^^ BitVec.ofNat 32 (halfL.getD (lowC z) 0).toNat = u at hn q6
    have q7 := lowI u
    have q8 := shr4 u
    have q9 := lowC_lt u
    have q10 := halfV_at q9
    have q11 := bitv_xor (u >>> 4) (BitVec.ofNat 32 (halfL.getD (lowC u) 0).toNat)
    rw [← q2] at q5
    rw [← q7] at q10
    rw [← q3] at q6
    rw [← q6] at q7 q8 q10
    rw [← q8] at q11
    rw [← q1] at q2 q3 q5 q6 q7 q8 q10 q11
    repeat' (first | ((first | refine WL.p rfl ?_ | refine WL.u ?_); first | refine pvQ ?_ | (refine opk 3 rfl ?_; (refine ost_cmp rfl rfl rfl rfl (fun hc => ?_) (fun hc => ?_) <;> (simp only [cmpP] at hc; try exact prIQ))) | (refine opk 4 rfl ?_; (refine ost_cmp rfl rfl rfl rfl (fun hc => ?_) (fun hc => ?_) <;> (simp only [cmpP] at hc; try exact prIQ)))) | refine Wc.seq ?_ | refine then_n ?_ | refine WL.nil ?_ | refine Wc.region ?_ | refine Wc.block ?_ | refine then_r ?_ | refine then_e ?_ | refine inb_e rfl ?_ | refine inb_o rfl ?_ | refine inb_n ?_ | refine inb_r ?_ | refine Wc.skip ?_ | refine Wc.exit ?_ | refine Wc.ret ?_ | refine Wc.cond_true rfl ?_ | refine Wc.cond_false rfl ?_)
    refine ⟨xs.length - (k + 1), by omega, k + 1, rfl, by omega, by (repeat' (first | exact Agree.refl _ _ | exact Agree.havoc | refine Agree.upd rfl ?_ | refine Agree.hav2 rfl ?_)), rfl, ?_, H⟩
    rw [hn, ← q11]; rfl
  · obtain rfl : k = xs.length := by omega
    repeat' (first | ((first | refine WL.p rfl ?_ | refine WL.u ?_); first | refine pvQ ?_ | (refine opk 3 rfl ?_; (refine ost_cmp rfl rfl rfl rfl (fun hc => ?_) (fun hc => ?_) <;> (simp only [cmpP] at hc; try exact prIQ))) | (refine opk 4 rfl ?_; (refine ost_cmp rfl rfl rfl rfl (fun hc => ?_) (fun hc => ?_) <;> (simp only [cmpP] at hc; try exact prIQ)))) | refine Wc.seq ?_ | refine then_n ?_ | refine WL.nil ?_ | refine Wc.region ?_ | refine Wc.block ?_ | refine then_r ?_ | refine then_e ?_ | refine inb_e rfl ?_ | refine inb_o rfl ?_ | refine inb_n ?_ | refine inb_r ?_ | refine Wc.skip ?_ | refine Wc.exit ?_ | refine Wc.ret ?_ | refine Wc.cond_true rfl ?_ | refine Wc.cond_false rfl ?_)
    (first | refine fn_ret1 (v := .bool _) rfl rfl ⟨?_, H.fr⟩ | refine fn_ret1 (v := .int _ _) rfl rfl ⟨?_, H.fr⟩ | refine fn_ret1 (v := .string _) rfl rfl ⟨?_, H.fr⟩)
    rw [xor_max', List.take_length]; rfl
theorem crc_Sum (h0 : FH) (a : Option Addr) (c : Nat) (xs : List UInt8) (w : World) (hs : Sat h0 w) (hT : Half h0) (hr : BS h0 a c xs) :
    SpecV Tryd.prog 70 #[.slice a xs.length c] w (.int .u32 (sumC xs).toNat) := by
  have H := St.start hs
  unfold SpecV
  refine calls_of Tryd.func70 rfl Tryd.ntmps70 (by simp) ?_
  repeat' (first | ((first | refine WL.p rfl ?_ | refine WL.u ?_); first | (refine opk 1 rfl ?_; (refine ost_V H rfl (crc_Next _ 0#32 _ _ xs _ H.sat hT hr) rfl ?_; clear H; intro wk H)) | refine pvQ ?_) | refine Wc.seq ?_ | refine then_n ?_ | refine WL.nil ?_ | refine Wc.region ?_ | refine Wc.block ?_ | refine then_r ?_ | refine then_e ?_ | refine inb_e rfl ?_ | refine inb_o rfl ?_ | refine inb_n ?_ | refine inb_r ?_ | refine Wc.skip ?_ | refine Wc.exit ?_ | refine Wc.ret ?_ | refine Wc.cond_true rfl ?_ | refine Wc.cond_false rfl ?_)
  (first | refine fn_ret1 (v := .bool _) rfl rfl ⟨?_, H.fr⟩ | refine fn_ret1 (v := .int _ _) rfl rfl ⟨?_, H.fr⟩ | refine fn_ret1 (v := .string _) rfl rfl ⟨?_, H.fr⟩); rfl
end Go.Tg

set_option linter.unusedVariables false
set_option linter.unusedSimpArgs false
set_option maxRecDepth 100000
set_option maxHeartbeats 4000000
namespace Go.Tg
open Go Go.Proofs
structure OpT where
  dot : DotT
  kind : UInt8
  cart : UInt16
  item : UInt16
  qty : UInt16
  tick : UInt32
  ctx : V16
def shapedO (o : OpT) : Bool :=
  if o.kind.toNat = 1 then decide (0 < o.qty.toNat) else if o.kind.toNat = 2 then true else if o.kind.toNat = 3 then decide (o.qty.toNat = 0) else if o.kind.toNat = 4 ∨ o.kind.toNat = 5 then decide (o.item.toNat = 0) && decide (o.qty.toNat = 0) else false
def cmp3 (x y : Int) : Int := if x < y then -1 else if y < x then 1 else 0
theorem nan32 (x : Int) (w : World) : SpecV Tryd.prog 83 #[.int .u32 x] w (.bool false) := by
  refine specV_of fun h0 hs H => ?_
  refine calls_of Tryd.func83 rfl Tryd.ntmps83 (by simp) ?_
  repeat' (first | ((first | refine WL.p rfl ?_ | refine WL.u ?_); first | refine pvQ ?_ | (refine opk 3 rfl ?_; (refine ost_cmp rfl rfl rfl rfl (fun hc => ?_) (fun hc => ?_) <;> (simp only [cmpP] at hc; try exact prIQ))) | (refine opk 4 rfl ?_; (refine ost_cmp rfl rfl rfl rfl (fun hc => ?_) (fun hc => ?_) <;> (simp only [cmpP] at hc; try exact prIQ)))) | refine Wc.seq ?_ | refine then_n ?_ | refine WL.nil ?_ | refine Wc.region ?_ | refine Wc.block ?_ | refine then_r ?_ | refine then_e ?_ | refine inb_e rfl ?_ | refine inb_o rfl ?_ | refine inb_n ?_ | refine inb_r ?_ | refine Wc.skip ?_ | refine Wc.exit ?_ | refine Wc.ret ?_ | refine Wc.cond_true rfl ?_ | refine Wc.cond_false rfl ?_)
  (first | refine fn_ret1 (v := .bool _) rfl rfl ⟨?_, H.fr⟩ | refine fn_ret1 (v := .int _ _) rfl rfl ⟨?_, H.fr⟩ | refine fn_ret1 (v := .string _) rfl rfl ⟨?_, H.fr⟩); rfl
theorem nan8 (x : Int) (w : World) : SpecV Tryd.prog 82 #[.int .u8 x] w (.bool false) := by
  refine specV_of fun h0 hs H => ?_
  refine calls_of Tryd.func82 rfl Tryd.ntmps82 (by simp) ?_
  repeat' (first | ((first | refine WL.p rfl ?_ | refine WL.u ?_); first | refine pvQ ?_ | (refine opk 3 rfl ?_; (refine ost_cmp rfl rfl rfl rfl (fun hc => ?_) (fun hc => ?_) <;> (simp only [cmpP] at hc; try exact prIQ))) | (refine opk 4 rfl ?_; (refine ost_cmp rfl rfl rfl rfl (fun hc => ?_) (fun hc => ?_) <;> (simp only [cmpP] at hc; try exact prIQ)))) | refine Wc.seq ?_ | refine then_n ?_ | refine WL.nil ?_ | refine Wc.region ?_ | refine Wc.block ?_ | refine then_r ?_ | refine then_e ?_ | refine inb_e rfl ?_ | refine inb_o rfl ?_ | refine inb_n ?_ | refine inb_r ?_ | refine Wc.skip ?_ | refine Wc.exit ?_ | refine Wc.ret ?_ | refine Wc.cond_true rfl ?_ | refine Wc.cond_false rfl ?_)
  (first | refine fn_ret1 (v := .bool _) rfl rfl ⟨?_, H.fr⟩ | refine fn_ret1 (v := .int _ _) rfl rfl ⟨?_, H.fr⟩ | refine fn_ret1 (v := .string _) rfl rfl ⟨?_, H.fr⟩); rfl
theorem compare32 (x y : Int) (w : World) : SpecV Tryd.prog 75 #[.int .u32 x, .int .u32 y] w (.int .i64 (cmp3 x y)) := by
  refine specV_of fun h0 hs H => ?_
  refine calls_of Tryd.func75 rfl Tryd.ntmps75 (by simp) ?_
  repeat' (first | ((first | refine WL.p rfl ?_ | refine WL.u ?_); first | (refine opk 1 rfl ?_; (refine ost_V H rfl (nan32 _ _) rfl ?_; clear H; intro wk H)) | refine pvQ ?_ | (refine opk 3 rfl ?_; (refine ost_cmp rfl rfl rfl rfl (fun hc => ?_) (fun hc => ?_) <;> (simp only [cmpP] at hc; try exact prIQ))) | (refine opk 4 rfl ?_; (refine ost_cmp rfl rfl rfl rfl (fun hc => ?_) (fun hc => ?_) <;> (simp only [cmpP] at hc; try exact prIQ)))) | refine Wc.seq ?_ | refine then_n ?_ | refine WL.nil ?_ | refine Wc.region ?_ | refine Wc.block ?_ | refine then_r ?_ | refine then_e ?_ | refine inb_e rfl ?_ | refine inb_o rfl ?_ | refine inb_n ?_ | refine inb_r ?_ | refine Wc.skip ?_ | refine Wc.exit ?_ | refine Wc.ret ?_ | refine Wc.cond_true rfl ?_ | refine Wc.cond_false rfl ?_)
  all_goals ((first | refine fn_ret1 (v := .bool _) rfl rfl ⟨?_, H.fr⟩ | refine fn_ret1 (v := .int _ _) rfl rfl ⟨?_, H.fr⟩ | refine fn_ret1 (v := .string _) rfl rfl ⟨?_, H.fr⟩); congr 1; simp [cmp3, *])
theorem compare8 (x y : Int) (w : World) : SpecV Tryd.prog 74 #[.int .u8 x, .int .u8 y] w (.int .i64 (cmp3 x y)) := by
  refine specV_of fun h0 hs H => ?_
  refine calls_of Tryd.func74 rfl Tryd.ntmps74 (by simp) ?_
  repeat' (first | ((first | refine WL.p rfl ?_ | refine WL.u ?_); first | (refine opk 1 rfl ?_; (refine ost_V H rfl (nan8 _ _) rfl ?_; clear H; intro wk H)) | refine pvQ ?_ | (refine opk 3 rfl ?_; (refine ost_cmp rfl rfl rfl rfl (fun hc => ?_) (fun hc => ?_) <;> (simp only [cmpP] at hc; try exact prIQ))) | (refine opk 4 rfl ?_; (refine ost_cmp rfl rfl rfl rfl (fun hc => ?_) (fun hc => ?_) <;> (simp only [cmpP] at hc; try exact prIQ)))) | refine Wc.seq ?_ | refine then_n ?_ | refine WL.nil ?_ | refine Wc.region ?_ | refine Wc.block ?_ | refine then_r ?_ | refine then_e ?_ | refine inb_e rfl ?_ | refine inb_o rfl ?_ | refine inb_n ?_ | refine inb_r ?_ | refine Wc.skip ?_ | refine Wc.exit ?_ | refine Wc.ret ?_ | refine Wc.cond_true rfl ?_ | refine Wc.cond_false rfl ?_)
  all_goals ((first | refine fn_ret1 (v := .bool _) rfl rfl ⟨?_, H.fr⟩ | refine fn_ret1 (v := .int _ _) rfl rfl ⟨?_, H.fr⟩ | refine fn_ret1 (v := .string _) rfl rfl ⟨?_, H.fr⟩); congr 1; simp [cmp3, *])
end Go.Tg

set_option linter.unusedVariables false
set_option linter.unusedSimpArgs false
set_option maxRecDepth 100000
set_option maxHeartbeats 4000000
namespace Go.Tg
open Go Go.Proofs
def rightO (o : OpT) (n : Int) : Bool := rightV o.ctx n && decide ((o.dot.rep.toNat : Int) < n) && decide (o.tick.toNat ≤ 1073741824) && shapedO o && dotB o.dot && decide ((atV o.ctx o.dot.rep.toNat).toNat + 1 = o.dot.seq.toNat)
end Go.Tg

