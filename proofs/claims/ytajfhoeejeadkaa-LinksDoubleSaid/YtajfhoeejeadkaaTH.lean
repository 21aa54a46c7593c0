/- Contracts of Go functions that the laws reach: what each call answers and leaves in memory, for all arguments within the bounds that each theorem names. -/
import Derived.Test.YtajfhoeejeadkaaInst
import Derived.Test.YtajfhoeejeadkaaAuto
import Derived.Test.YtajfhoeejeadkaaLZ
import Derived.Test.YtajfhoeejeadkaaArgs
import Derived.Test.YtajfhoeejeadkaaLift
set_option linter.unusedVariables false
set_option linter.unusedSimpArgs false
set_option maxRecDepth 100000
set_option maxHeartbeats 4000000
namespace Go.Tg
open Go Go.Proofs
structure AcT where
  kd : UInt8
  k : LkT
  n : Int
  how : Int
  at_ : UInt16
  by_ : UInt8
  v : Value
  b : List UInt8
section
variable {H : Type} {enc : TypeId × Value → H} {W : World} {sp : Nat → Bool}
theorem val_of1 {v : Value} {a : Option Addr} {n c : Nat} (e : v.cells.toList = [.slice a n c]) (h : ∃ a n c, v = .slice a n c) : v = .slice a n c := by
  obtain ⟨a', n', c', rfl⟩ := h
  simp [Value.cells] at e
  obtain ⟨rfl, rfl, rfl⟩ := e; rfl
theorem val_ofA {v : Value} {row : List Value} {n : Nat} (e : v.cells.toList = row) (h : ∃ cs, v = .agg cs ∧ cs.size = n) : v = .agg row.toArray := by
  obtain ⟨cs, rfl, _⟩ := h
  simp only [Value.cells] at e
  rw [← e]
theorem u8_of {n : Nat} (h : inK .u8 n) : ∃ x : UInt8, x.toNat = n := ⟨UInt8.ofNat n, by simp only [inK] at h; simp; omega⟩
end
end Go.Tg

set_option linter.unusedVariables false
set_option linter.unusedSimpArgs false
set_option maxRecDepth 100000
set_option maxHeartbeats 8000000
namespace Go.Tg
open Go Go.Proofs
theorem u8_ok {z : Int} (h1 : IntKind.u8.min ≤ z) (h2 : z ≤ IntKind.u8.max) : ∃ x : UInt8, (x.toNat : Int) = z := by
  have e1 : IntKind.u8.min = 0 := by decide
  have e2 : IntKind.u8.max = 255 := by decide
  rw [e1] at h1; rw [e2] at h2
  exact ⟨UInt8.ofNat z.toNat, by simp; omega⟩
theorem okWide_arr {P : Program} {w : World} {r : Reach} {b n : Nat} {t e : TypeId} {v : Value} (ht : P.underlying t = some (.array n e)) (h : Value.okWide P w r b t v) : ∃ cs, v = .agg cs ∧ cs.size = P.cellsOf t := by
  unfold Value.okWide at h
  rw [ht] at h
  obtain ⟨cs, e, h1, -⟩ := h
  exact ⟨cs, e, h1⟩
section
variable {H : Type} {enc : TypeId × Value → H} {W : World} {sp : Nat → Bool}
theorem lss_of {cs : List Value} (h : Td enc Try.prog W sp 51 cs) : ∃ a c lv, cs = [.slice a (List.length lv) c] ∧ LsF (full W) a c lv := by
  obtain ⟨a, c, rows, h1, h2, h3⟩ := h.slice Try.underlying51 (sz := 1) (by kernel_rfl) (by decide)
  have key : ∀ (rows : List (List Value)), (∀ r, r ∈ rows → Td enc Try.prog W sp 31 r) → ∃ l : List (Value × List UInt8), rows = l.map (fun x => [x.1]) ∧ ∀ x ∈ l, BSv (full W) x.1 x.2 := by
    intro rows
    induction rows with
    | nil => intro _; exact ⟨[], rfl, fun x h => (List.not_mem_nil h).elim⟩
    | cons r rows ih =>
      intro hr
      obtain ⟨l, h4, h5⟩ := ih fun x hx => hr x (by simp [hx])
      obtain ⟨a, c, bs, rfl, hx⟩ := (hr r (by simp)).bytes Try.underlying31 Try.underlying5 (by kernel_rfl)
      refine ⟨(.slice a bs.length c, bs) :: l, by simp [h4], fun y hy => ?_⟩
      rcases List.mem_cons.1 hy with rfl | hy
      · exact ⟨a, c, rfl, hx⟩
      · exact h5 y hy
  obtain ⟨l, rfl, h5⟩ := key rows h3
  exact ⟨a, c, l, by rw [h1, List.length_map], h2, h5⟩
theorem two_of {cs : List Value} (h : Td enc Try.prog W sp 61 cs) : ∃ x y : UInt8, cs = [.int .u8 x.toNat, .int .u8 y.toNat] := by
  obtain ⟨hl, hf⟩ := h.array Try.underlying61
  rw [show Program.cellsOf Try.prog 61 = 2 from by kernel_rfl] at hl
  rw [show Program.cellsOf Try.prog 5 = 1 from by kernel_rfl] at hf
  match cs, hl with
  | [v0, v1], _ =>
    obtain ⟨n0, e0, k0⟩ := (hf 0 (by decide)).nat Try.underlying5 rfl
    obtain ⟨n1, e1, k1⟩ := (hf 1 (by decide)).nat Try.underlying5 rfl
    simp at e0 e1
    subst e0; subst e1
    obtain ⟨x, rfl⟩ := u8_of k0
    obtain ⟨y, rfl⟩ := u8_of k1
    exact ⟨x, y, rfl⟩
end
def mkL (xs : List (List UInt8)) : LsM := xs.map fun x => ((1, 0), x)
theorem mkL_len (xs : List (List UInt8)) : (mkL xs).length = xs.length := List.length_map ..
theorem lsF_mk (xs : List (List UInt8)) : lsF (mkL xs) (1, 0) = xs := by
  unfold mkL
  rw [lsF_all (by intro e he; obtain ⟨x, -, rfl⟩ := List.mem_map.1 he; rfl), List.map_map]
  simp [Function.comp_def]
theorem posM_mk : ∀ (xs : List (List UInt8)) (j : Nat), j < xs.length → posM (1, 0) (mkL xs) j = some j
  | [], j, h => absurd h (by simp)
  | x :: xs, j, h => by
    show posM (1, 0) (((1, 0), x) :: mkL xs) j = some j
    rw [posM_cons, if_pos rfl]
    cases j with
    | zero => rfl
    | succ j =>
      rw [if_neg (by omega), show ((j + 1 : Nat) : Int) - 1 = (j : Nat) by omega, posM_mk xs j (by simpa using h)]; rfl
theorem edM_mk (xs b : List (List UInt8)) (i : Nat) : edM (mkL xs) i (mkL b) = mkL (xs.take i ++ b ++ xs.drop (i + 1)) := by
  unfold edM mkL; simp
theorem send_mk {xs : List (List UInt8)} {x : List UInt8} (hx : x.length ≤ 600) (hl : xs.length < 100) : sendM 2 100 (mkL xs) (1, 0) x = (0, mkL (xs ++ [x])) := by
  have : sendC 2 100 (mkL xs).length (1, 0) x = 0 := by
    unfold sendC
    rw [show faultC 2 (1, 0) = 0 by decide, if_neg (by decide), if_neg (by omega), if_neg (by rw [mkL_len]; omega)]
  unfold sendM
  rw [if_pos this]; unfold mkL; simp
theorem harm_mk {xs : List (List UInt8)} {j : Nat} (hj : j < xs.length) (hl : xs.length < 100) (kind : Int) (hk : kind = 1 ∨ kind = 2 ∨ kind = 3) (at_ : UInt16) (by_ : UInt8) : harmM 2 100 (mkL xs) (1, 0) j kind at_ by_ = (0, mkL (xs.take j ++ (if kind = 1 then [] else if kind = 2 then [xs[j], xs[j]] else [turnB at_ by_ xs[j]]) ++ xs.drop (j + 1))) := by
  have hg : (mkL xs)[j]? = some ((1, 0), xs[j]) := by unfold mkL; simp [hj]
  unfold harmM
  rw [show faultC 2 (1, 0) = 0 by decide, if_neg (by decide), if_neg (by omega), posM_mk xs j hj]
  simp only [hg, Option.getD_some]
  rcases hk with rfl | rfl | rfl
  · rw [if_pos rfl, if_pos rfl]; exact congrArg (Prod.mk 0) (edM_mk xs [] j)
  · rw [if_neg (by decide), if_pos rfl, if_neg (by rw [mkL_len]; omega), if_neg (by decide), if_pos rfl]; exact congrArg (Prod.mk 0) (edM_mk xs [_, _] j)
  · rw [if_neg (by decide), if_neg (by decide), if_neg (by decide), if_neg (by decide)]; exact congrArg (Prod.mk 0) (edM_mk xs [_] j)
theorem harm_two {xs : List (List UInt8)} {j : Nat} (hj : j < xs.length) (hl : xs.length < 100) : harmM 2 100 (mkL xs) (1, 0) j 2 0 0 = (0, mkL (xs.take j ++ [xs[j], xs[j]] ++ xs.drop (j + 1))) := harm_mk hj hl 2 (by decide) 0 0
theorem harm_back {xs : List (List UInt8)} {j h : Nat} (hj : j < xs.length) (hl : xs.length < 99) (hh : h ≤ 1) : harmM 2 100 (mkL (xs.take j ++ [xs[j], xs[j]] ++ xs.drop (j + 1))) (1, 0) ((j + h : Nat) : Int) 1 0 0 = (0, mkL xs) := by
  have hlen : (xs.take j ++ [xs[j], xs[j]] ++ xs.drop (j + 1)).length = xs.length + 1 := by simp; omega
  rw [harm_mk (by rw [hlen]; omega) (by rw [hlen]; omega) 1 (by decide) 0 0, if_pos rfl]
  congr 2
  rw [List.append_nil, ← List.eraseIdx_eq_take_drop_succ]
  have hd : xs.drop j = xs[j] :: xs.drop (j + 1) := List.drop_eq_getElem_cons hj
  have ht : (xs.take j).length = j := by rw [List.length_take]; omega
  rw [List.append_assoc, List.eraseIdx_append_of_length_le (by rw [ht]; omega), ht, show j + h - j = h by omega]
  have e9 : ([xs[j], xs[j]] ++ xs.drop (j + 1)).eraseIdx h = xs.drop j := by
    rw [hd]
    rcases (by omega : h = 0 ∨ h = 1) with rfl | rfl <;> rfl
  rw [e9, List.take_append_drop]
theorem harm_turn {xs : List (List UInt8)} {j : Nat} (hj : j < xs.length) (hl : xs.length < 100) (at_ : UInt16) (by_ : UInt8) : harmM 2 100 (mkL xs) (1, 0) j 3 at_ by_ = (0, mkL (xs.set j (turnB at_ by_ xs[j]))) := by
  rw [harm_mk hj hl 3 (by decide) at_ by_, if_neg (by decide), if_neg (by decide), set_take hj]
theorem xor_twice (x y : UInt8) : x ^^^ y ^^^ y = x := by
  apply UInt8.toBitVec_inj.1
  simp [BitVec.xor_assoc]
theorem turn_twice (at_ : UInt16) (by_ : UInt8) (x : List UInt8) : turnB at_ by_ (turnB at_ by_ x) = x := by
  have hl := turnB_len at_ by_ x
  unfold turnB at *
  rw [hl]
  apply List.ext_getElem?
  intro q
  rw [List.getElem?_modify, List.getElem?_modify]
  by_cases hq : at_.toNat % x.length = q
  · cases x[q]? <;> simp [hq, xor_twice]
  · simp [hq]
theorem harm_turn2 {xs : List (List UInt8)} {j : Nat} (hj : j < xs.length) (hl : xs.length < 100) (at_ : UInt16) (by_ : UInt8) : harmM 2 100 (mkL (xs.set j (turnB at_ by_ xs[j]))) (1, 0) j 3 at_ by_ = (0, mkL xs) := by
  rw [harm_turn (by simpa using hj) (by simpa using hl)]
  simp [turn_twice]
end Go.Tg

