/- What is owned, picked out. -/
import Derived.Test.YtbfilhaigbebpaaOps3
set_option linter.unusedVariables false
namespace Go.Tg
open Go
section
variable {ws w : World} {S : List Nat} {h0 h : FH} {L : List HA}
theorem St.picks (H : St ws S h0 h L w) (is : List Nat) {L' : List HA} (he : is.map (fun i => L[i]?) = L'.map some) (hn : is.Nodup) : St ws S h0 h L' w := by
  have hlen : is.length = L'.length := by simpa using congrArg List.length he
  refine H.sub (fun i => is.getD i 0) (fun i A hA => ?_) (fun i j hi hj hij => ?_)
  · have hi : i < L'.length := (List.getElem?_eq_some_iff.1 hA).1
    have h1 : (is.map (fun i => L[i]?))[i]? = (L'.map some)[i]? := by rw [he]
    have hi2 : i < is.length := by omega
    simp only [List.getElem?_map, hA, List.getElem?_eq_getElem hi2, Option.map_some] at h1
    simp only [List.getD_eq_getElem?_getD, List.getElem?_eq_getElem hi2, Option.getD_some]
    exact Option.some.inj h1
  · have hi2 : i < is.length := by omega
    have hj2 : j < is.length := by omega
    simp only [List.getD_eq_getElem?_getD, List.getElem?_eq_getElem hi2, List.getElem?_eq_getElem hj2, Option.getD_some] at hij
    have hp := List.pairwise_iff_getElem.1 hn
    rcases Nat.lt_trichotomy i j with h | h | h
    · exact absurd hij (hp i j hi2 hj2 h)
    · exact h
    · exact absurd hij.symm (hp j i hj2 hi2 h)
theorem perm_pick {L L' : List HA} (is : List Nat) (n : Nat) (hn : L.length = n) (hp : is.Perm (List.range n)) (he : L'.map some = is.map (fun i => L[i]?)) : L.Perm L' := by
  subst hn
  have h1 : (List.range L.length).map (fun i => L[i]?) = L.map some := by
    apply List.ext_getElem?
    intro i
    rw [List.getElem?_map, List.getElem?_map]
    by_cases hi : i < L.length
    · rw [List.getElem?_range hi, List.getElem?_eq_getElem hi]; simp [hi]
    · rw [List.getElem?_eq_none (by simpa using hi), List.getElem?_eq_none (by omega)]; rfl
  have h2 : (L'.map some).Perm (L.map some) := by rw [he, ← h1]; exact hp.map _
  have h3 := h2.filterMap id
  simp only [List.filterMap_map, Function.comp_def, id_eq, List.filterMap_some] at h3
  exact h3.symm
end
end Go.Tg

