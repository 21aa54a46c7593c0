/- Contracts of Go functions that the laws reach: what each call answers and leaves in memory, for all arguments within the bounds that each theorem names. -/
import Derived.Test.YtajfhoeejeadkaaDoorInst
import Derived.Test.YtajfhoeejeadkaaDoorAuto
import Derived.Test.YtajfhoeejeadkaaDoorO2
import Derived.Test.YtajfhoeejeadkaaDoorSl
set_option linter.unusedVariables false
set_option linter.unusedSimpArgs false
set_option maxRecDepth 100000
set_option maxHeartbeats 4000000
namespace Go.Tg
open Go Go.Proofs
structure KeyT where
  cart : UInt16
  dot : DotT
def cKey (k : KeyT) : List Value := [.int .u16 k.cart.toNat, .int .u8 k.dot.rep.toNat, .int .u32 k.dot.seq.toNat]
def keyN (k : KeyT) : Nat := k.cart.toNat * 1099511627776 + k.dot.rep.toNat * 4294967296 + k.dot.seq.toNat
attribute [irreducible] keyN
end Go.Tg

set_option linter.unusedVariables false
set_option linter.unusedSimpArgs false
set_option maxRecDepth 100000
set_option maxHeartbeats 4000000
namespace Go.Tg
open Go Go.Proofs
structure LocT where
  seg : UInt32
  at_ : UInt32
def cLoc (l : LocT) : List Value := [.int .u32 l.seg.toNat, .int .u32 l.at_.toNat]
def cKid (x : UInt32) : List Value := [.int .u32 x.toNat]
structure PageT where
  leaf : Bool
  keys : List KeyT
  locs : List LocT
  kids : List UInt32
structure PAd where
  ak : Option Addr
  ck : Nat
  al : Option Addr
  cl : Nat
  ad : Option Addr
  cd : Nat
def pgV (p : PageT) (A : PAd) : List Value := [.bool p.leaf, .slice A.ak p.keys.length A.ck, .slice A.al p.locs.length A.cl, .slice A.ad p.kids.length A.cd]
structure PgR (h : FH) (p : PageT) (A : PAd) : Prop where
  k : Sl h 3 A.ak A.ck (p.keys.map cKey)
  l : Sl h 2 A.al A.cl (p.locs.map cLoc)
  d : Sl h 1 A.ad A.cd (p.kids.map cKid)
theorem PgR.mono {h h' : FH} {p : PageT} {A : PAd} (hle : FLe h h') (r : PgR h p A) : PgR h' p A := ⟨r.k.mono hle, r.l.mono hle, r.d.mono hle⟩
theorem PgR.full {ws w : World} {S : List Nat} {h0 h : FH} {L : List HA} {p : PageT} {A : PAd} (r : PgR h p A) (H : St ws S h0 h L w) : PgR (full w) p A := r.mono H.sat.le
theorem Sl.getM {α : Type} {f : α → List Value} {xs : List α} {h : FH} {sz : Nat} {a : Option Addr} {c : Nat} (r : Sl h sz a c (xs.map f)) (hs : 0 < sz) (hx : 0 < xs.length) :
    ∃ b off l T fr, a = some ⟨b, off, none⟩ ∧ h b = some (.cells (List.toArray l) T fr) ∧ ∀ (m j : Nat) (hj : j < xs.length), m = j → (l.drop (off + m * sz)).take sz = f xs[j] := by
  obtain ⟨b, off, l, T, fr, e1, e2, e3⟩ := r.get hs (i := 0) (by simpa using hx)
  exact ⟨b, off, l, T, fr, e1, e2, fun m j hj hm => by subst hm; have := e3 m (by simpa using hj); rw [this]; simp⟩
theorem Sl.lenM {α : Type} {f : α → List Value} {xs : List α} {h : FH} {sz : Nat} {a : Option Addr} {c : Nat} (r : Sl h sz a c (xs.map f)) : xs.length ≤ c ∧ c ≤ 9223372036854775807 := by
  have h1 := r.le; have h2 := r.mx
  have h9 : (maxLen : Nat) ≤ 9223372036854775807 := by decide
  exact ⟨by simpa using h1, by omega⟩
def sortedK (ks : List KeyT) : Prop := ∀ i (h : i + 1 < ks.length), keyN (ks[i]'(by omega)) < keyN ks[i + 1]
def shapeP (p : PageT) : Prop := if p.leaf = true then p.keys.length ≤ 8 ∧ p.locs.length = p.keys.length ∧ p.kids.length = 0 else 1 ≤ p.keys.length ∧ p.keys.length ≤ 8 ∧ p.kids.length = p.keys.length ∧ p.locs.length = 0
theorem shapeP_T (ks : List KeyT) (ls : List LocT) (ds : List UInt32) : shapeP ⟨true, ks, ls, ds⟩ ↔ ks.length ≤ 8 ∧ ls.length = ks.length ∧ ds.length = 0 := by unfold shapeP; rw [if_pos rfl]
theorem shapeP_F (ks : List KeyT) (ls : List LocT) (ds : List UInt32) : shapeP ⟨false, ks, ls, ds⟩ ↔ 1 ≤ ks.length ∧ ks.length ≤ 8 ∧ ds.length = ks.length ∧ ls.length = 0 := by unfold shapeP; rw [if_neg Bool.false_ne_true]
noncomputable def rightP (p : PageT) : Bool := dcd (sortedK p.keys ∧ shapeP p)
theorem rightP_iff {p : PageT} : rightP p = true ↔ sortedK p.keys ∧ shapeP p := dcd_iff
end Go.Tg

set_option linter.unusedVariables false
set_option linter.unusedSimpArgs false
set_option maxRecDepth 100000
set_option maxHeartbeats 4000000
namespace Go.Tg
open Go Go.Proofs
def polyC : BitVec 32 := 3988292384#32
def bitC (x : BitVec 32) : BitVec 32 := (x >>> 1) ^^^ (if x.getLsbD 0 then polyC else 0#32)
def bitsC : Nat → BitVec 32 → BitVec 32
  | 0, x => x
  | n + 1, x => bitC (bitsC n x)
def halfL : List Int := [0, 498536548, 997073096, 651767980, 1994146192, 1802195444, 1303535960, 1342533948, 3988292384, 4027552580, 3604390888, 3412177804, 2607071920, 2262029012, 2685067896, 3183342108]
def halfV : List Value := halfL.map fun n => .int .u32 n
theorem bitC_xor (x y : BitVec 32) : bitC (x ^^^ y) = bitC x ^^^ bitC y := by
  unfold bitC
  rw [BitVec.ushiftRight_xor_distrib, BitVec.getLsbD_xor]
  cases x.getLsbD 0 <;> cases y.getLsbD 0 <;> simp
  · ac_rfl
  · ac_rfl
  · rw [show x >>> 1 ^^^ polyC ^^^ (y >>> 1 ^^^ polyC) = (x >>> 1 ^^^ y >>> 1) ^^^ (polyC ^^^ polyC) by ac_rfl]; simp
theorem bitsC_xor (x y : BitVec 32) : ∀ n, bitsC n (x ^^^ y) = bitsC n x ^^^ bitsC n y
  | 0 => rfl
  | n + 1 => by rw [bitsC, bitsC_xor x y n, bitC_xor]; rfl
theorem bitC_even {x : BitVec 32} (h : x.getLsbD 0 = false) : bitC x = x >>> 1 := by
  unfold bitC
  rw [if_neg (by rw [h]; decide), BitVec.xor_zero]
theorem bitsC_even {x : BitVec 32} : ∀ n, (∀ i, i < n → x.getLsbD i = false) → bitsC n x = x >>> n
  | 0, _ => by simp [bitsC]
  | n + 1, h => by
    rw [bitsC, bitsC_even n fun i hi => h i (by omega), bitC_even (by rw [BitVec.getLsbD_ushiftRight]; simpa using h n (by omega)), BitVec.shiftRight_add]
def lowC (x : BitVec 32) : Nat := (x &&& 15#32).toNat
theorem lowC_lt (x : BitVec 32) : lowC x < 16 := by
  unfold lowC; rw [BitVec.toNat_and]
  have := Nat.and_le_right (n := x.toNat) (m := (15#32).toNat)
  have e : (15#32).toNat = 15 := rfl
  omega
theorem half_low : ∀ n, n < 16 → bitsC 4 (BitVec.ofNat 32 n) = BitVec.ofNat 32 (halfL.getD n 0).toNat := by decide +kernel
theorem bits4 (x : BitVec 32) : bitsC 4 x = (x >>> 4) ^^^ BitVec.ofNat 32 (halfL.getD (lowC x) 0).toNat := by
  have e : x = ((x >>> 4) <<< 4) ^^^ (x &&& 15#32) := by
    apply BitVec.eq_of_getLsbD_eq
    intro i hi
    rw [BitVec.getLsbD_xor, BitVec.getLsbD_shiftLeft, BitVec.getLsbD_ushiftRight, BitVec.getLsbD_and]
    by_cases h : i < 4
    · have h15 : (15#32).getLsbD i = true := by
        match i, h with
        | 0, _ | 1, _ | 2, _ | 3, _ => rfl
      simp [h, h15]
    · have h15 : (15#32).getLsbD i = false := by
        rw [show (15#32) = BitVec.ofNat 32 15 from rfl, BitVec.getLsbD_ofNat]
        have : Nat.testBit 15 i = false := Nat.testBit_lt_two_pow (Nat.lt_of_lt_of_le (by decide : 15 < 2 ^ 4) (Nat.pow_le_pow_right (by decide) (by omega)))
        simp [this]
      rw [h15, show 4 + (i - 4) = i by omega]
      cases x.getLsbD i <;> simp [h, hi]
  have e1 : bitsC 4 ((x >>> 4) <<< 4) = x >>> 4 := by
    rw [bitsC_even 4 fun i hi => by rw [BitVec.getLsbD_shiftLeft]; simp [hi]]
    apply BitVec.eq_of_getLsbD_eq
    intro i hi
    rw [BitVec.getLsbD_ushiftRight, BitVec.getLsbD_shiftLeft, BitVec.getLsbD_ushiftRight]
    by_cases h : 4 + i < 32
    · simp [h, show 4 + (4 + i - 4) = 4 + i by omega]
    · have : x.getLsbD (4 + i) = false := BitVec.getLsbD_of_ge _ _ (by omega)
      simp [h, this]
  have e2 : x &&& 15#32 = BitVec.ofNat 32 (lowC x) := by unfold lowC; simp
  rw [e, bitsC_xor, e1, ← e, e2, half_low _ (lowC_lt x)]
theorem bits8 (x : BitVec 32) : bitsC 8 x = bitsC 4 (bitsC 4 x) := rfl
def takeC (x : BitVec 32) (c : UInt8) : BitVec 32 := bitsC 8 (x ^^^ BitVec.ofNat 32 c.toNat)
def nextC (x : BitVec 32) (xs : List UInt8) : BitVec 32 := (xs.foldl takeC (x ^^^ 4294967295#32)) ^^^ 4294967295#32
def sumC (xs : List UInt8) : BitVec 32 := nextC 0#32 xs
theorem bitv_xor (x y : BitVec 32) : bitv .xor .u32 x.toNat y.toNat = ((x ^^^ y).toNat : Int) := by
  have e : ∀ z : BitVec 32, BitVec.ofInt IntKind.u32.bits (z.toNat : Int) = z := fun z => by
    show BitVec.ofInt 32 (z.toNat : Int) = z
    simp
  simp only [bitv, e]
  have hl : (x ^^^ y).toNat < 2 ^ 32 := (x ^^^ y).isLt
  have := wrap_in (k := .u32) (n := ((x ^^^ y).toNat : Int)) (by simp only [inK]; omega)
  exact this
theorem bitv_and (x y : BitVec 32) : bitv .and .u32 x.toNat y.toNat = ((x &&& y).toNat : Int) := by
  have e : ∀ z : BitVec 32, BitVec.ofInt IntKind.u32.bits (z.toNat : Int) = z := fun z => by
    show BitVec.ofInt 32 (z.toNat : Int) = z
    simp
  simp only [bitv, e]
  have hl : (x &&& y).toNat < 2 ^ 32 := (x &&& y).isLt
  have := wrap_in (k := .u32) (n := ((x &&& y).toNat : Int)) (by simp only [inK]; omega)
  exact this
theorem shr4 (x : BitVec 32) : (x.toNat : Int).fdiv (2 ^ min (4 : Int).toNat IntKind.u32.bits) = ((x >>> 4).toNat : Int) := by
  rw [BitVec.toNat_ushiftRight, Nat.shiftRight_eq_div_pow]
  have : (2 : Int) ^ min (4 : Int).toNat IntKind.u32.bits = 16 := by decide
  rw [this, Int.fdiv_eq_ediv_of_nonneg _ (by decide)]
  omega
theorem lowI (x : BitVec 32) : bitv .and .u32 x.toNat 15 = (lowC x : Int) := bitv_and x 15#32
theorem halfV_at {n : Nat} (h : n < 16) : halfV[0 + (n : Int).toNat * 1]? = some (.int .u32 (BitVec.ofNat 32 (halfL.getD n 0).toNat).toNat) := by
  have e : ∀ n, n < 16 → halfV[n]? = some (.int .u32 (BitVec.ofNat 32 (halfL.getD n 0).toNat).toNat) := by
    intro n h
    have hn : n = 0 ∨ n = 1 ∨ n = 2 ∨ n = 3 ∨ n = 4 ∨ n = 5 ∨ n = 6 ∨ n = 7 ∨ n = 8 ∨ n = 9 ∨ n = 10 ∨ n = 11 ∨ n = 12 ∨ n = 13 ∨ n = 14 ∨ n = 15 := by omega
    rcases hn with rfl | rfl | rfl | rfl | rfl | rfl | rfl | rfl | rfl | rfl | rfl | rfl | rfl | rfl | rfl | rfl
    all_goals rfl
  simpa using e n h
theorem takeC_half (y : BitVec 32) (c : UInt8) : takeC y c = (let z := y ^^^ BitVec.ofNat 32 c.toNat; let u := (z >>> 4) ^^^ BitVec.ofNat 32 (halfL.getD (lowC z) 0).toNat; (u >>> 4) ^^^ BitVec.ofNat 32 (halfL.getD (lowC u) 0).toNat) := by
  unfold takeC; rw [bits8, bits4, bits4]
end Go.Tg

