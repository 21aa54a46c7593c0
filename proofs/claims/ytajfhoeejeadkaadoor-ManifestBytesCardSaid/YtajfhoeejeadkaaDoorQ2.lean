/- Contracts of Go functions that the laws reach: what each call answers and leaves in memory, for all arguments within the bounds that each theorem names. -/
import Derived.Test.YtajfhoeejeadkaaDoorInst
import Derived.Test.YtajfhoeejeadkaaDoorAuto
import Derived.Test.YtajfhoeejeadkaaDoorO1
import Derived.Test.YtajfhoeejeadkaaDoorSl
set_option linter.unusedVariables false
set_option linter.unusedSimpArgs false
set_option maxRecDepth 100000
set_option maxHeartbeats 4000000
namespace Go.Tg
open Go Go.Proofs
def rightO (o : OpT) (n : Int) : Bool := rightV o.ctx n && decide ((o.dot.rep.toNat : Int) < n) && decide (o.tick.toNat ≤ 1073741824) && shapedO o && dotB o.dot && decide ((atV o.ctx o.dot.rep.toNat).toNat + 1 = o.dot.seq.toNat)
end Go.Tg

set_option linter.unusedVariables false
set_option linter.unusedSimpArgs false
set_option maxRecDepth 100000
set_option maxHeartbeats 4000000
namespace Go.Tg
open Go Go.Proofs
structure KeyT where
  cart : UInt16
  dot : DotT
def cKey (k : KeyT) : List Value := [.int .u16 k.cart.toNat, .int .u8 k.dot.rep.toNat, .int .u32 k.dot.seq.toNat]
def keyN (k : KeyT) : Nat := k.cart.toNat * 1099511627776 + k.dot.rep.toNat * 4294967296 + k.dot.seq.toNat
attribute [irreducible] keyN
end Go.Tg

set_option linter.unusedVariables false
set_option linter.unusedSimpArgs false
set_option maxRecDepth 100000
set_option maxHeartbeats 4000000
namespace Go.Tg
open Go Go.Proofs
structure LocT where
  seg : UInt32
  at_ : UInt32
def cLoc (l : LocT) : List Value := [.int .u32 l.seg.toNat, .int .u32 l.at_.toNat]
def cKid (x : UInt32) : List Value := [.int .u32 x.toNat]
structure PageT where
  leaf : Bool
  keys : List KeyT
  locs : List LocT
  kids : List UInt32
structure PAd where
  ak : Option Addr
  ck : Nat
  al : Option Addr
  cl : Nat
  ad : Option Addr
  cd : Nat
def pgV (p : PageT) (A : PAd) : List Value := [.bool p.leaf, .slice A.ak p.keys.length A.ck, .slice A.al p.locs.length A.cl, .slice A.ad p.kids.length A.cd]
structure PgR (h : FH) (p : PageT) (A : PAd) : Prop where
  k : Sl h 3 A.ak A.ck (p.keys.map cKey)
  l : Sl h 2 A.al A.cl (p.locs.map cLoc)
  d : Sl h 1 A.ad A.cd (p.kids.map cKid)
theorem PgR.mono {h h' : FH} {p : PageT} {A : PAd} (hle : FLe h h') (r : PgR h p A) : PgR h' p A := ⟨r.k.mono hle, r.l.mono hle, r.d.mono hle⟩
theorem PgR.full {ws w : World} {S : List Nat} {h0 h : FH} {L : List HA} {p : PageT} {A : PAd} (r : PgR h p A) (H : St ws S h0 h L w) : PgR (full w) p A := r.mono H.sat.le
theorem Sl.getM {α : Type} {f : α → List Value} {xs : List α} {h : FH} {sz : Nat} {a : Option Addr} {c : Nat} (r : Sl h sz a c (xs.map f)) (hs : 0 < sz) (hx : 0 < xs.length) :
    ∃ b off l T fr, a = some ⟨b, off, none⟩ ∧ h b = some (.cells (List.toArray l) T fr) ∧ ∀ (m j : Nat) (hj : j < xs.length), m = j → (l.drop (off + m * sz)).take sz = f xs[j] := by
  obtain ⟨b, off, l, T, fr, e1, e2, e3⟩ := r.get hs (i := 0) (by simpa using hx)
  exact ⟨b, off, l, T, fr, e1, e2, fun m j hj hm => by subst hm; have := e3 m (by simpa using hj); rw [this]; simp⟩
theorem Sl.lenM {α : Type} {f : α → List Value} {xs : List α} {h : FH} {sz : Nat} {a : Option Addr} {c : Nat} (r : Sl h sz a c (xs.map f)) : xs.length ≤ c ∧ c ≤ 9223372036854775807 := by
  have h1 := r.le; have h2 := r.mx
  have h9 : (maxLen : Nat) ≤ 9223372036854775807 := by decide
  exact ⟨by simpa using h1, by omega⟩
def sortedK (ks : List KeyT) : Prop := ∀ i (h : i + 1 < ks.length), keyN (ks[i]'(by omega)) < keyN ks[i + 1]
def shapeP (p : PageT) : Prop := if p.leaf = true then p.keys.length ≤ 8 ∧ p.locs.length = p.keys.length ∧ p.kids.length = 0 else 1 ≤ p.keys.length ∧ p.keys.length ≤ 8 ∧ p.kids.length = p.keys.length ∧ p.locs.length = 0
theorem shapeP_T (ks : List KeyT) (ls : List LocT) (ds : List UInt32) : shapeP ⟨true, ks, ls, ds⟩ ↔ ks.length ≤ 8 ∧ ls.length = ks.length ∧ ds.length = 0 := by unfold shapeP; rw [if_pos rfl]
theorem shapeP_F (ks : List KeyT) (ls : List LocT) (ds : List UInt32) : shapeP ⟨false, ks, ls, ds⟩ ↔ 1 ≤ ks.length ∧ ks.length ≤ 8 ∧ ds.length = ks.length ∧ ls.length = 0 := by unfold shapeP; rw [if_neg Bool.false_ne_true]
noncomputable def rightP (p : PageT) : Bool := dcd (sortedK p.keys ∧ shapeP p)
theorem rightP_iff {p : PageT} : rightP p = true ↔ sortedK p.keys ∧ shapeP p := dcd_iff
end Go.Tg

