/- Maps, and things that are owned together, as many as there are. -/
import Derived.Test.YtbfilhaigbebpaaDoorPick
import Derived.Test.YtbfilhaigbebpaaDoorOps3
set_option linter.unusedSectionVars false
set_option linter.unusedVariables false
set_option linter.unusedSimpArgs false
namespace Go.Tg
open Go
def HA.all : List HA → HA
  | [] => .own (.slice none 0 0) 0 0 0 []
  | A :: l => .both A (HA.all l)
section
variable {ws w : World} {S : List Nat} {h0 h : FH} {L : List HA}
theorem St.nilOwn0 (H : St ws S h0 h L w) : St ws S h0 h (HA.all [] :: L) w := H.nilOwn 0 0
theorem St.allOpen : ∀ {xs L : List HA}, St ws S h0 h (HA.all xs :: L) w → St ws S h0 h (xs ++ L) w
  | [], L, H => H.tl
  | A :: xs, L, H => by
    have H1 : St ws S h0 h (A :: HA.all xs :: L) w := H.split
    have H2 := St.allOpen (H1.perm (List.Perm.swap _ _ _))
    exact H2.perm List.perm_middle
theorem St.allShut : ∀ {xs L : List HA}, St ws S h0 h (xs ++ L) w → St ws S h0 h (HA.all xs :: L) w
  | [], L, H => H.nilOwn0
  | A :: xs, L, H => by
    have H1 : St ws S h0 h (xs ++ A :: L) w := H.perm (List.perm_middle.symm)
    have H2 := St.allShut H1
    exact (H2.perm (List.Perm.swap _ _ _)).join
end
structure ME (κ : Type) where
  k : κ
  v : Value
  b : Nat
def ME.e {κ : Type} (kc : κ → Value) (x : ME κ) : MapEntry := { key := kc x.k, val := x.v, born := x.b }
section
variable {κ : Type} {kc : κ → Value}
end
class MapK (P : Program) (kt : TypeId) (κ : Type) [DecidableEq κ] (kc : outParam (κ → Value)) : Prop where
  chk : ∀ q k w, (Instr.checkKey q 10000 kt (kc k)).run P w = .ok () w
  find : ∀ (k : κ) (es : List (ME κ)) (w : World), (Instr.findKey kt (kc k) (es.map (ME.e kc))).run P w = .ok (match es.findIdx? (fun x => decide (x.k = k)) with | some i => some (i, ((es[i]?).map ME.v).getD undef) | none => none) w
  same : ∀ k : κ, Instr.sameBits 10000 (kc k) (kc k) = true
section
variable {κ : Type} [DecidableEq κ]
def idxM (es : List (ME κ)) (k : κ) : Option Nat := es.findIdx? fun x => decide (x.k = k)
def getM (z : Value) (es : List (ME κ)) (k : κ) : Value := match idxM es k with | some i => ((es[i]?).map ME.v).getD undef | none => z
variable {P : Program} {o : Oper} {s : Env} {w : World} {K : Value → World → Prop} {ws : World} {S : List Nat} {h0 h : FH} {L : List HA} {kc : κ → Value}
end
end Go.Tg

