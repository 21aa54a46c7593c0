/- Contracts of Go functions that the laws reach: what each call answers and leaves in memory, for all arguments within the bounds that each theorem names. -/
import Derived.Test.YtajfhoeejeadkaaDoorInst
import Derived.Test.YtajfhoeejeadkaaDoorAuto
import Derived.Test.YtajfhoeejeadkaaDoorO2
set_option linter.unusedVariables false
set_option linter.unusedSimpArgs false
set_option maxRecDepth 100000
set_option maxHeartbeats 4000000
namespace Go.Tg
open Go Go.Proofs
def or3 (x y z : Int) : Int := if x ≠ 0 then x else if y ≠ 0 then y else z
def or3at (x y z : Int) (k : Nat) : Int := if k = 0 then x else if k = 1 then y else z
theorem cmp_Or (a : Option Addr) (c : Nat) (x y z : Int) (w : World) (hr : RdC (full w) a [.int .i64 x, .int .i64 y, .int .i64 z]) : SpecV Tryd.prog 110 #[.slice a 3 c] w (.int .i64 (or3 x y z)) := by
  have H := St.start (sat_full w)
  obtain ⟨b, off, l, T, fr, rfl, hb, hl⟩ := hr.resolve_left (by simp)
  have gk : ∀ k : Nat, k < 3 → l[off + (k : Int).toNat * 1]? = some (.int .i64 (or3at x y z k)) := fun k hk => by
    have h1 : ((l.drop off).take 3)[k]? = ([.int .i64 x, .int .i64 y, .int .i64 z] : List Value)[k]? := congrArg (·[k]?) hl
    rw [List.getElem?_take_of_lt hk, List.getElem?_drop] at h1
    rw [show off + (k : Int).toNat * 1 = off + k by omega, h1]
    match k, hk with
    | 0, _ => rfl
    | 1, _ => rfl
    | 2, _ => rfl
  unfold SpecV
  refine calls_of Tryd.func110 rfl Tryd.ntmps110 (by simp) ?_
  repeat' (first | ((first | refine WL.p rfl ?_ | refine WL.u ?_); first | refine pvQ ?_ | (refine opk 3 rfl ?_; (refine ost_cmp rfl rfl rfl rfl (fun hc => ?_) (fun hc => ?_) <;> (simp only [cmpP] at hc; try exact prIQ))) | (refine opk 4 rfl ?_; (refine ost_cmp rfl rfl rfl rfl (fun hc => ?_) (fun hc => ?_) <;> (simp only [cmpP] at hc; try exact prIQ)))) | refine Wc.seq ?_ | refine then_n ?_ | refine WL.nil ?_ | refine Wc.region ?_ | refine Wc.block ?_ | refine then_r ?_ | refine then_e ?_ | refine inb_e rfl ?_ | refine inb_o rfl ?_ | refine inb_n ?_ | refine inb_r ?_ | refine Wc.skip ?_ | refine Wc.exit ?_ | refine Wc.ret ?_ | refine Wc.cond_true rfl ?_ | refine Wc.cond_false rfl ?_)
  refine Wc.loopE (fun s0 m s w' => ∃ k : Nat, m = 3 - k ∧ k ≤ 3 ∧ Agree [2, 5, 8, 9, 10, 11, 12, 13, 14, 15, 16] s s0 ∧ s 8 = .int .i64 k ∧ (∀ i, i < k → or3at x y z i = 0) ∧
    St w [] (full w) (full w) [] w') 3 ⟨0, rfl, by omega, Agree.refl _ _, rfl, fun i hi => absurd hi (by omega), H⟩ ?_
  clear H
  rintro m s w' ⟨k, rfl, hk, hA, e1, h0, H⟩
  obtain ⟨j, rfl⟩ := hA.env1 e1
  clear hA e1
  by_cases hlt : k < 3
  · have g := gk k hlt
    repeat' (first | ((first | refine WL.p rfl ?_ | refine WL.u ?_); first | refine pvQ ?_ | (refine opk 3 rfl ?_; (refine ost_cmp rfl rfl rfl rfl (fun hc => ?_) (fun hc => ?_) <;> (simp only [cmpP] at hc; try exact prIQ))) | (refine opk 4 rfl ?_; (refine ost_cmp rfl rfl rfl rfl (fun hc => ?_) (fun hc => ?_) <;> (simp only [cmpP] at hc; try exact prIQ)))) | refine Wc.seq ?_ | refine then_n ?_ | refine WL.nil ?_ | refine Wc.region ?_ | refine Wc.block ?_ | refine then_r ?_ | refine then_e ?_ | refine inb_e rfl ?_ | refine inb_o rfl ?_ | refine inb_n ?_ | refine inb_r ?_ | refine Wc.skip ?_ | refine Wc.exit ?_ | refine Wc.ret ?_ | refine Wc.cond_true rfl ?_ | refine Wc.cond_false rfl ?_)
    · have e : or3at x y z k = or3 x y z := by
        match k, hlt, h0, hc with
        | 0, _, _, hc =>
          have hc : x ≠ 0 := hc
          show x = or3 x y z
          unfold or3; rw [if_pos hc]
        | 1, _, h0, hc => have := h0 0 (by omega); simp only [or3at, or3] at *; simp_all
        | 2, _, h0, hc => have h1 := h0 0 (by omega); have := h0 1 (by omega); simp only [or3at, or3] at *; simp_all
      (first | refine fn_ret1 (v := .bool _) rfl rfl ⟨?_, H.fr⟩ | refine fn_ret1 (v := .int _ _) rfl rfl ⟨?_, H.fr⟩ | refine fn_ret1 (v := .string _) rfl rfl ⟨?_, H.fr⟩); rw [e]
    · exact ⟨3 - (k + 1), by omega, k + 1, rfl, by omega, by (repeat' (first | exact Agree.refl _ _ | exact Agree.havoc | refine Agree.upd rfl ?_ | refine Agree.hav2 rfl ?_)), rfl, fun i hi => by
        by_cases hik : i = k
        · subst hik; exact Classical.not_not.1 hc
        · exact h0 i (by omega), H⟩
  · obtain rfl : k = 3 := by omega
    repeat' (first | ((first | refine WL.p rfl ?_ | refine WL.u ?_); first | refine pvQ ?_ | (refine opk 3 rfl ?_; (refine ost_cmp rfl rfl rfl rfl (fun hc => ?_) (fun hc => ?_) <;> (simp only [cmpP] at hc; try exact prIQ))) | (refine opk 4 rfl ?_; (refine ost_cmp rfl rfl rfl rfl (fun hc => ?_) (fun hc => ?_) <;> (simp only [cmpP] at hc; try exact prIQ)))) | refine Wc.seq ?_ | refine then_n ?_ | refine WL.nil ?_ | refine Wc.region ?_ | refine Wc.block ?_ | refine then_r ?_ | refine then_e ?_ | refine inb_e rfl ?_ | refine inb_o rfl ?_ | refine inb_n ?_ | refine inb_r ?_ | refine Wc.skip ?_ | refine Wc.exit ?_ | refine Wc.ret ?_ | refine Wc.cond_true rfl ?_ | refine Wc.cond_false rfl ?_)
    have e : or3 x y z = 0 := by
      have h1 := h0 0 (by omega); have h2 := h0 1 (by omega); have h3 := h0 2 (by omega)
      simp only [or3at, or3] at *; simp_all
    (first | refine fn_ret1 (v := .bool _) rfl rfl ⟨?_, H.fr⟩ | refine fn_ret1 (v := .int _ _) rfl rfl ⟨?_, H.fr⟩ | refine fn_ret1 (v := .string _) rfl rfl ⟨?_, H.fr⟩); rw [e]
end Go.Tg

