/- Proved: the given statement ManifestOrphansCardSaid: the Go law ManifestOrphans returns true for every input that it is asked of. No conditions. -/
import Derived.Test.YtajfhoeejeadkaaDoorInst
import Derived.Test.YtajfhoeejeadkaaDoorAuto
import Derived.Test.YtajfhoeejeadkaaDoorH5
set_option linter.unusedVariables false
set_option linter.unusedSimpArgs false
set_option maxRecDepth 100000
set_option maxHeartbeats 8000000
namespace Go.Tg
open Go Go.Proofs
theorem St.freezeS {ws w : World} {S : List Nat} {h0 h : FH} {L : List HA} {v : Value} {l : List (List UInt8)} (H : St ws S h0 h (ownS v l :: L) w) : ∃ a c h', v = .slice a l.length c ∧ FLe h h' ∧ Sl h' 1 a c (l.map cStr) ∧ St ws S h0 h' L w := by
  have H2 : St ws S h0 h (ownR v 9 1 (l.map cStr) :: L) w := by
    unfold ownR; rw [sV_flat, List.length_map]; exact H
  obtain ⟨a, c, h', e, h1, h2, h3⟩ := H2.freezeR (rows_cStr l)
  rw [List.length_map] at e
  exact ⟨a, c, h', e, h1, h2, h3⟩
end Go.Tg
namespace Go.Proofs.YtajfhoeejeadkaaDoor
open Go.ChangeShapes Go.WideShapes Go.ChangeAt Go.RowKit Go.Tg
end Go.Proofs.YtajfhoeejeadkaaDoor

