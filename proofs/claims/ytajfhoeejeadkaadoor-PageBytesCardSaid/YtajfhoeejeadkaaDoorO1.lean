/- Contracts of Go functions that the laws reach: what each call answers and leaves in memory, for all arguments within the bounds that each theorem names. -/
import Derived.Test.YtajfhoeejeadkaaDoorInst
import Derived.Test.YtajfhoeejeadkaaDoorAuto
import Derived.Test.YtajfhoeejeadkaaDoorSl
set_option linter.unusedVariables false
set_option linter.unusedSimpArgs false
set_option maxRecDepth 100000
set_option maxHeartbeats 4000000
namespace Go.Tg
open Go Go.Proofs
abbrev V16 := Fin 16 → UInt32
def u32 (x : UInt32) : Value := .int .u32 x.toNat
def cV (a : V16) : List Value := List.ofFn fun i => u32 (a i)
theorem cV_one (a : V16) : ∀ v ∈ cV a, v.oneCell' = true := by
  intro v hv
  rw [cV, List.mem_ofFn] at hv
  obtain ⟨i, rfl⟩ := hv; rfl
theorem typed_cV (a : V16) : Typed [.i .u32, .i .u32, .i .u32, .i .u32, .i .u32, .i .u32, .i .u32, .i .u32, .i .u32, .i .u32, .i .u32, .i .u32, .i .u32, .i .u32, .i .u32, .i .u32] (cV a) := by
  simp [Typed, cV, shp, u32]
def atV (a : V16) (i : Nat) : UInt32 := if h : i < 16 then a ⟨i, h⟩ else 0
structure DotT where
  rep : UInt8
  seq : UInt32
def dotB (d : DotT) : Bool := decide (d.rep.toNat < 16) && decide (1 ≤ d.seq.toNat) && decide (d.seq.toNat ≤ 1048576)
theorem atV_lt (a : V16) {i : Nat} (h : i < 16) : atV a i = a ⟨i, h⟩ := by simp [atV, h]
end Go.Tg

set_option linter.unusedVariables false
set_option linter.unusedSimpArgs false
set_option maxRecDepth 100000
set_option maxHeartbeats 4000000
namespace Go.Tg
open Go Go.Proofs
def rightV (a : V16) (n : Int) : Bool := decide (1 ≤ n) && decide (n ≤ 16) && (List.range 16).all fun i => decide ((atV a i).toNat ≤ 1048576) && (decide ((i : Int) < n) || decide ((atV a i).toNat = 0))
end Go.Tg

set_option linter.unusedVariables false
set_option linter.unusedSimpArgs false
set_option maxRecDepth 100000
set_option maxHeartbeats 4000000
namespace Go.Tg
open Go Go.Proofs
structure OpT where
  dot : DotT
  kind : UInt8
  cart : UInt16
  item : UInt16
  qty : UInt16
  tick : UInt32
  ctx : V16
def shapedO (o : OpT) : Bool :=
  if o.kind.toNat = 1 then decide (0 < o.qty.toNat) else if o.kind.toNat = 2 then true else if o.kind.toNat = 3 then decide (o.qty.toNat = 0) else if o.kind.toNat = 4 ∨ o.kind.toNat = 5 then decide (o.item.toNat = 0) && decide (o.qty.toNat = 0) else false
def cmp3 (x y : Int) : Int := if x < y then -1 else if y < x then 1 else 0
theorem nan32 (x : Int) (w : World) : SpecV Tryd.prog 139 #[.int .u32 x] w (.bool false) := by
  refine specV_of fun h0 hs H => ?_
  refine calls_of Tryd.func139 rfl Tryd.ntmps139 (by simp) ?_
  repeat' (first | ((first | refine WL.p rfl ?_ | refine WL.u ?_); first | refine pvQ ?_ | (refine opk 3 rfl ?_; (refine ost_cmp rfl rfl rfl rfl (fun hc => ?_) (fun hc => ?_) <;> (simp only [cmpP] at hc; try exact prIQ))) | (refine opk 4 rfl ?_; (refine ost_cmp rfl rfl rfl rfl (fun hc => ?_) (fun hc => ?_) <;> (simp only [cmpP] at hc; try exact prIQ)))) | refine Wc.seq ?_ | refine then_n ?_ | refine WL.nil ?_ | refine Wc.region ?_ | refine Wc.block ?_ | refine then_r ?_ | refine then_e ?_ | refine inb_e rfl ?_ | refine inb_o rfl ?_ | refine inb_n ?_ | refine inb_r ?_ | refine Wc.skip ?_ | refine Wc.exit ?_ | refine Wc.ret ?_ | refine Wc.cond_true rfl ?_ | refine Wc.cond_false rfl ?_)
  (first | refine fn_ret1 (v := .bool _) rfl rfl ⟨?_, H.fr⟩ | refine fn_ret1 (v := .int _ _) rfl rfl ⟨?_, H.fr⟩ | refine fn_ret1 (v := .string _) rfl rfl ⟨?_, H.fr⟩); rfl
theorem nan8 (x : Int) (w : World) : SpecV Tryd.prog 138 #[.int .u8 x] w (.bool false) := by
  refine specV_of fun h0 hs H => ?_
  refine calls_of Tryd.func138 rfl Tryd.ntmps138 (by simp) ?_
  repeat' (first | ((first | refine WL.p rfl ?_ | refine WL.u ?_); first | refine pvQ ?_ | (refine opk 3 rfl ?_; (refine ost_cmp rfl rfl rfl rfl (fun hc => ?_) (fun hc => ?_) <;> (simp only [cmpP] at hc; try exact prIQ))) | (refine opk 4 rfl ?_; (refine ost_cmp rfl rfl rfl rfl (fun hc => ?_) (fun hc => ?_) <;> (simp only [cmpP] at hc; try exact prIQ)))) | refine Wc.seq ?_ | refine then_n ?_ | refine WL.nil ?_ | refine Wc.region ?_ | refine Wc.block ?_ | refine then_r ?_ | refine then_e ?_ | refine inb_e rfl ?_ | refine inb_o rfl ?_ | refine inb_n ?_ | refine inb_r ?_ | refine Wc.skip ?_ | refine Wc.exit ?_ | refine Wc.ret ?_ | refine Wc.cond_true rfl ?_ | refine Wc.cond_false rfl ?_)
  (first | refine fn_ret1 (v := .bool _) rfl rfl ⟨?_, H.fr⟩ | refine fn_ret1 (v := .int _ _) rfl rfl ⟨?_, H.fr⟩ | refine fn_ret1 (v := .string _) rfl rfl ⟨?_, H.fr⟩); rfl
theorem compare32 (x y : Int) (w : World) : SpecV Tryd.prog 113 #[.int .u32 x, .int .u32 y] w (.int .i64 (cmp3 x y)) := by
  refine specV_of fun h0 hs H => ?_
  refine calls_of Tryd.func113 rfl Tryd.ntmps113 (by simp) ?_
  repeat' (first | ((first | refine WL.p rfl ?_ | refine WL.u ?_); first | (refine opk 1 rfl ?_; (refine ost_V H rfl (nan32 _ _) rfl ?_; clear H; intro wk H)) | refine pvQ ?_ | (refine opk 3 rfl ?_; (refine ost_cmp rfl rfl rfl rfl (fun hc => ?_) (fun hc => ?_) <;> (simp only [cmpP] at hc; try exact prIQ))) | (refine opk 4 rfl ?_; (refine ost_cmp rfl rfl rfl rfl (fun hc => ?_) (fun hc => ?_) <;> (simp only [cmpP] at hc; try exact prIQ)))) | refine Wc.seq ?_ | refine then_n ?_ | refine WL.nil ?_ | refine Wc.region ?_ | refine Wc.block ?_ | refine then_r ?_ | refine then_e ?_ | refine inb_e rfl ?_ | refine inb_o rfl ?_ | refine inb_n ?_ | refine inb_r ?_ | refine Wc.skip ?_ | refine Wc.exit ?_ | refine Wc.ret ?_ | refine Wc.cond_true rfl ?_ | refine Wc.cond_false rfl ?_)
  all_goals ((first | refine fn_ret1 (v := .bool _) rfl rfl ⟨?_, H.fr⟩ | refine fn_ret1 (v := .int _ _) rfl rfl ⟨?_, H.fr⟩ | refine fn_ret1 (v := .string _) rfl rfl ⟨?_, H.fr⟩); congr 1; simp [cmp3, *])
theorem compare8 (x y : Int) (w : World) : SpecV Tryd.prog 112 #[.int .u8 x, .int .u8 y] w (.int .i64 (cmp3 x y)) := by
  refine specV_of fun h0 hs H => ?_
  refine calls_of Tryd.func112 rfl Tryd.ntmps112 (by simp) ?_
  repeat' (first | ((first | refine WL.p rfl ?_ | refine WL.u ?_); first | (refine opk 1 rfl ?_; (refine ost_V H rfl (nan8 _ _) rfl ?_; clear H; intro wk H)) | refine pvQ ?_ | (refine opk 3 rfl ?_; (refine ost_cmp rfl rfl rfl rfl (fun hc => ?_) (fun hc => ?_) <;> (simp only [cmpP] at hc; try exact prIQ))) | (refine opk 4 rfl ?_; (refine ost_cmp rfl rfl rfl rfl (fun hc => ?_) (fun hc => ?_) <;> (simp only [cmpP] at hc; try exact prIQ)))) | refine Wc.seq ?_ | refine then_n ?_ | refine WL.nil ?_ | refine Wc.region ?_ | refine Wc.block ?_ | refine then_r ?_ | refine then_e ?_ | refine inb_e rfl ?_ | refine inb_o rfl ?_ | refine inb_n ?_ | refine inb_r ?_ | refine Wc.skip ?_ | refine Wc.exit ?_ | refine Wc.ret ?_ | refine Wc.cond_true rfl ?_ | refine Wc.cond_false rfl ?_)
  all_goals ((first | refine fn_ret1 (v := .bool _) rfl rfl ⟨?_, H.fr⟩ | refine fn_ret1 (v := .int _ _) rfl rfl ⟨?_, H.fr⟩ | refine fn_ret1 (v := .string _) rfl rfl ⟨?_, H.fr⟩); congr 1; simp [cmp3, *])
end Go.Tg

