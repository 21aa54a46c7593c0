/- Contracts of Go functions that the laws reach: what each call answers and leaves in memory, for all arguments within the bounds that each theorem names. -/
import Derived.Test.YtajfhoeejeadkaaDoorInst
import Derived.Test.YtajfhoeejeadkaaDoorAuto
import Derived.Test.YtajfhoeejeadkaaDoorF2
import Derived.Test.YtajfhoeejeadkaaDoorChn
import Derived.Test.YtajfhoeejeadkaaDoorDrw
set_option linter.unusedVariables false
set_option linter.unusedSimpArgs false
set_option maxRecDepth 100000
set_option maxHeartbeats 4000000
namespace Go.Tg
open Go Go.Proofs
theorem list_eq_of {α : Type} {a b : List α} (hl : a.length = b.length) (h : ∀ j (h1 : j < a.length) (h2 : j < b.length), a[j] = b[j]) : a = b := List.ext_getElem hl fun j h1 h2 => h j h1 h2
end Go.Tg

set_option linter.unusedVariables false
set_option linter.unusedSimpArgs false
set_option maxRecDepth 100000
set_option maxHeartbeats 4000000
namespace Go.Tg
open Go Go.Proofs
theorem firstF_len (b : List UInt8) : (firstF b).1.length ≤ b.length := by
  unfold firstF
  split
  · simp
  · split
    · simp
    · split
      · simp
      · split
        · simp
        · simp; omega
def B64 (l : List Nat) : Prop := ∀ n, n ∈ l → n < 18446744073709551616
def TakeR (f : List UInt8) (l : List Nat) (ok : Bool) : Prop := (ok = true ∧ numsB l = f ∧ B64 l) ∨ (ok = false ∧ l = [] ∧ ∀ ns, B64 ns → numsB ns ≠ f)
theorem putB_pos (n : Nat) : 0 < (putB n).length := by
  unfold putB putL; split <;> simp
theorem numsB_pos (n : Nat) (l : List Nat) : 0 < (numsB (n :: l)).length := by
  have := putB_pos n
  rw [numsB_cons, List.length_append]; omega
theorem numsB_tail {a ns : List Nat} {r : List UInt8} (ha : B64 a) (hn : B64 ns) (h : numsB ns = numsB a ++ r) : ∃ b, ns = a ++ b ∧ numsB b = r := by
  induction a generalizing ns with
  | nil => exact ⟨ns, rfl, h⟩
  | cons x a ih =>
    cases ns with
    | nil =>
      have h1 := congrArg List.length h
      have h2 := numsB_pos x a
      rw [List.length_append, numsB_nil, List.length_nil] at h1
      omega
    | cons y ns =>
      rw [numsB_cons, numsB_cons, List.append_assoc] at h
      obtain ⟨h1, h2⟩ := putB_app_inj (hn y (by simp)) (ha x (by simp)) h
      obtain ⟨b, e1, e2⟩ := ih (fun n hx => ha n (by simp [hx])) (fun n hx => hn n (by simp [hx])) h2
      exact ⟨b, by rw [e1, h1]; rfl, e2⟩
theorem numsB_inj {a b : List Nat} (ha : B64 a) (hb : B64 b) (h : numsB a = numsB b) : a = b := by
  obtain ⟨c, e1, e2⟩ := numsB_tail (r := []) ha hb (by rw [List.append_nil]; exact h.symm)
  cases c with
  | nil => rw [e1, List.append_nil]
  | cons x c =>
    have := numsB_pos x c
    rw [e2] at this; simp at this
theorem take_end {f : List UInt8} {acc : List Nat} (hf : f = numsB acc ++ []) (hb : B64 acc) : TakeR f acc true := .inl ⟨rfl, by rw [hf, List.append_nil], hb⟩
theorem take_bad {f r : List UInt8} {acc : List Nat} (hf : f = numsB acc ++ r) (hr : 0 < r.length) (hb : B64 acc) (hg : (getB r).2.2 ≠ 0) : TakeR f [] false := .inr ⟨rfl, rfl, fun ns hns e => by
  obtain ⟨b, rfl, hb2⟩ := numsB_tail hb hns (e.trans hf)
  cases b with
  | nil => rw [← hb2] at hr; simp [numsB_nil] at hr
  | cons y b =>
    rw [numsB_cons] at hb2
    apply hg
    rw [← hb2, getB_putB y (hns y (by simp)) _]⟩
theorem take_step {f r : List UInt8} {acc : List Nat} (hf : f = numsB acc ++ r) (hb : B64 acc) (hg : (getB r).2.2 = 0) : f = numsB (acc ++ [(getB r).1]) ++ r.drop (getB r).2.1 ∧ B64 (acc ++ [(getB r).1]) := by
  have hlt := getB_lt r
  refine ⟨?_, fun n hn => ?_⟩
  · have hi := getB_inv (b := r) (n := (getB r).1) (k := (getB r).2.1) (by rw [← hg])
    rw [numsB_app, numsB_one, List.append_assoc, ← hi]; exact hf
  · rw [List.mem_append, List.mem_singleton] at hn
    rcases hn with hn | hn
    · exact hb n hn
    · rw [hn]; exact hlt
end Go.Tg

set_option linter.unusedVariables false
set_option linter.unusedSimpArgs false
set_option maxRecDepth 100000
set_option maxHeartbeats 8000000
namespace Go.Tg
open Go Go.Proofs
def n32 (l : List UInt32) : List Nat := l.map fun x => x.toNat
def fldM (m : ManT) : List UInt8 := putB m.ver.toNat ++ fieldB (encV m.flr) ++ putB m.base.toNat ++ putB m.segs.length ++ numsB (n32 (m.segs ++ [m.next]))
def encM (m : ManT) : List UInt8 := wrapB (fldM m)
noncomputable def outM (m : ManT) : List UInt8 × Int := if rightM m = true then (encM m, 0) else ([], 2)
theorem cKid_one (l : List UInt32) : ∀ u ∈ (l.map cKid).flatten, u.oneCell' = true := by
  intro u hu
  obtain ⟨r, h1, h2⟩ := List.mem_flatten.1 hu
  obtain ⟨x, -, rfl⟩ := List.mem_map.1 h1
  simp [cKid] at h2
  subst h2; rfl
theorem clone32 (n : Nat) (h0 : FH) (a : Option Addr) (c : Nat) (xs : List UInt32) (w : World) (hs : Sat h0 w) (hn : n = (xs.map cKid).length) (hP : Sl h0 1 a c (xs.map cKid)) (hx : 0 < xs.length) (hb : xs.length ≤ 1000000) :
    Spec Tryd.prog 91 #[.slice a n c] w [] h0 (fun v h' L' => ∃ a' c', v = .slice a' n c' ∧ h' = h0 ∧ L' = [.own v 28 1 n (xs.map cKid).flatten]) := by
  subst hn
  have H := St.start hs
  have hl : (xs.map cKid).length = xs.length := List.length_map ..
  obtain ⟨b', off, l, T, fr, e1, eb, eg⟩ := hP.getM (by decide) hx
  subst e1
  have hone := cKid_one xs
  unfold Spec
  refine calls_of Tryd.func91 rfl Tryd.ntmps91 (by simp) ?_
  repeat' (first | ((first | refine WL.p rfl ?_ | refine WL.u ?_); first | (refine opk 1 rfl ?_; (refine ost_appRs (rows := []) (more := xs.map cKid) H rfl rfl rfl (by (exact ixQ)) (hP.full H) (by rfl) (by decide) hone rfl (by simp only [List.length_nil]; omega) ?_; clear H; intro aa ca wk H; simp only [List.set_cons_zero, List.nil_append] at H)) | refine pvQ ?_ | (refine opk 3 rfl ?_; first | (refine ost_slEq rfl rfl rfl (fun hc => ?_) (fun hc => ?_) <;> try (simp at hc; done)) | (refine ost_slNe rfl rfl rfl (fun hc => ?_) (fun hc => ?_) <;> try (simp at hc; done))) | (refine opk 9 rfl ?_; (refine ost_build1 H rfl rfl rfl evQ lsQ rfl ?_; clear H; intro bk wk H))) | refine Wc.seq ?_ | refine then_n ?_ | refine WL.nil ?_ | refine Wc.region ?_ | refine Wc.block ?_ | refine then_r ?_ | refine then_e ?_ | refine inb_e rfl ?_ | refine inb_o rfl ?_ | refine inb_n ?_ | refine inb_r ?_ | refine Wc.skip ?_ | refine Wc.exit ?_ | refine Wc.ret ?_ | refine Wc.cond_true rfl ?_ | refine Wc.cond_false rfl ?_)
  exact fn_ret1 (v := .slice _ _ _) rfl rfl ⟨_, _, H.pick 0 rfl, _, _, rfl, rfl, rfl⟩
end Go.Tg

