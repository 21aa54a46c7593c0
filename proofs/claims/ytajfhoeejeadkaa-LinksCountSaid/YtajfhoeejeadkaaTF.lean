/- Contracts of Go functions that the laws reach: what each call answers and leaves in memory, for all arguments within the bounds that each theorem names. -/
import Derived.Test.YtajfhoeejeadkaaInst
import Derived.Test.YtajfhoeejeadkaaAuto
import Derived.Test.YtajfhoeejeadkaaLZ
import Derived.Test.YtajfhoeejeadkaaArgs
import Derived.Test.YtajfhoeejeadkaaLift
set_option linter.unusedVariables false
set_option linter.unusedSimpArgs false
set_option maxRecDepth 100000
set_option maxHeartbeats 4000000
namespace Go.Tg
open Go Go.Proofs
structure AcT where
  kd : UInt8
  k : LkT
  n : Int
  how : Int
  at_ : UInt16
  by_ : UInt8
  v : Value
  b : List UInt8
def acL (x : AcT) : List Value := [.int .u8 x.kd.toNat, .int .u8 x.k.1.toNat, .int .u8 x.k.2.toNat, .int .i64 x.n, .int .i64 x.how, .int .u16 x.at_.toNat, .int .u8 x.by_.toNat, x.v]
def AcV (h : FH) (x : AcT) : Prop := BSv h x.v x.b ∧ -9223372036854775808 ≤ x.n ∧ x.n ≤ 9223372036854775807
def AcR (h : FH) (a : Option Addr) (c : Nat) (l : List AcT) : Prop := Sl h 8 a c (l.map acL) ∧ ∀ x ∈ l, AcV h x
section
variable {H : Type} {enc : TypeId × Value → H} {W : World} {sp : Nat → Bool}
theorem val_of1 {v : Value} {a : Option Addr} {n c : Nat} (e : v.cells.toList = [.slice a n c]) (h : ∃ a n c, v = .slice a n c) : v = .slice a n c := by
  obtain ⟨a', n', c', rfl⟩ := h
  simp [Value.cells] at e
  obtain ⟨rfl, rfl, rfl⟩ := e; rfl
theorem u8_of {n : Nat} (h : inK .u8 n) : ∃ x : UInt8, x.toNat = n := ⟨UInt8.ofNat n, by simp only [inK] at h; simp; omega⟩
theorem u16_of {n : Nat} (h : inK .u16 n) : ∃ x : UInt16, x.toNat = n := ⟨UInt16.ofNat n, by simp only [inK] at h; simp; omega⟩
theorem ac21_of {row : List Value} (h : Td enc Try.prog W sp 33 row) : ∃ x : AcT, row = acL x ∧ AcV (full W) x := by
  obtain ⟨hl, hf⟩ := h.struct (fs := [{ name := "Kind", type := 5, offset := 0, embedded := false, tag := "", pkgPath := "", byteOffset := 0 }, { name := "From", type := 5, offset := 1, embedded := false, tag := "", pkgPath := "", byteOffset := 1 }, { name := "To", type := 5, offset := 2, embedded := false, tag := "", pkgPath := "", byteOffset := 2 }, { name := "N", type := 3, offset := 3, embedded := false, tag := "", pkgPath := "", byteOffset := 8 }, { name := "How", type := 3, offset := 4, embedded := false, tag := "", pkgPath := "", byteOffset := 16 }, { name := "At", type := 30, offset := 5, embedded := false, tag := "", pkgPath := "", byteOffset := 24 }, { name := "By", type := 5, offset := 6, embedded := false, tag := "", pkgPath := "", byteOffset := 26 }, { name := "B", type := 31, offset := 7, embedded := false, tag := "", pkgPath := "", byteOffset := 32 }]) Try.underlying33
  rw [show Program.cellsOf Try.prog 33 = 8 from by kernel_rfl] at hl
  match row, hl with
  | [v0, v1, v2, v3, v4, v5, v6, v7], _ =>
    have m := @List.mem_cons_of_mem Field
    have z := fun (a : Field) (l : List Field) => List.mem_cons_self (a := a) (l := l)
    have h0 := hf _ (z _ _)
    have h1 := hf _ (m _ (z _ _))
    have h2 := hf _ (m _ (m _ (z _ _)))
    have h3 := hf _ (m _ (m _ (m _ (z _ _))))
    have h4 := hf _ (m _ (m _ (m _ (m _ (z _ _)))))
    have h5 := hf _ (m _ (m _ (m _ (m _ (m _ (z _ _))))))
    have h6 := hf _ (m _ (m _ (m _ (m _ (m _ (m _ (z _ _)))))))
    have h7 := hf _ (m _ (m _ (m _ (m _ (m _ (m _ (m _ (z _ _))))))))
    rw [show Program.cellsOf Try.prog _ = 1 from by kernel_rfl] at h0 h1 h2 h3 h4 h5 h6 h7
    obtain ⟨n0, e0, k0⟩ := h0.nat Try.underlying5 rfl
    obtain ⟨n1, e1, k1⟩ := h1.nat Try.underlying5 rfl
    obtain ⟨n2, e2, k2⟩ := h2.nat Try.underlying5 rfl
    obtain ⟨n3, e3, k3⟩ := h3.int Try.underlying3
    obtain ⟨n4, e4, k4⟩ := h4.int Try.underlying3
    obtain ⟨n5, e5, k5⟩ := h5.nat Try.underlying30 rfl
    obtain ⟨n6, e6, k6⟩ := h6.nat Try.underlying5 rfl
    obtain ⟨a, c, bs, e7, hr⟩ := h7.bytes Try.underlying31 Try.underlying5 (by kernel_rfl)
    simp at e0 e1 e2 e3 e4 e5 e6 e7
    subst e0; subst e1; subst e2; subst e3; subst e4; subst e5; subst e6; subst e7
    obtain ⟨x0, rfl⟩ := u8_of k0
    obtain ⟨x1, rfl⟩ := u8_of k1
    obtain ⟨x2, rfl⟩ := u8_of k2
    obtain ⟨x5, rfl⟩ := u16_of k5
    obtain ⟨x6, rfl⟩ := u8_of k6
    simp only [inK] at k3
    exact ⟨⟨x0, (x1, x2), n3, n4, x5, x6, .slice a bs.length c, bs⟩, rfl, ⟨a, c, rfl, hr⟩, by show _ ≤ n3; omega, by show n3 ≤ _; omega⟩
theorem acs21_of {cs : List Value} (h : Td enc Try.prog W sp 22 cs) : ∃ a c l, cs = [.slice a (List.length l) c] ∧ AcR (full W) a c l := by
  obtain ⟨a, c, rows, h1, h2, h3⟩ := h.slice Try.underlying22 (sz := 8) (by kernel_rfl) (by decide)
  have key : ∀ (rows : List (List Value)), (∀ r, r ∈ rows → Td enc Try.prog W sp 33 r) → ∃ l : List AcT, rows = l.map acL ∧ ∀ x ∈ l, AcV (full W) x := by
    intro rows
    induction rows with
    | nil => intro _; exact ⟨[], rfl, fun x h => (List.not_mem_nil h).elim⟩
    | cons r rows ih =>
      intro hr
      obtain ⟨l, h4, h5⟩ := ih fun x hx => hr x (by simp [hx])
      obtain ⟨x, rfl, hx⟩ := ac21_of (hr r (by simp))
      refine ⟨x :: l, by simp [h4], fun y hy => ?_⟩
      rcases List.mem_cons.1 hy with rfl | hy
      · exact hx
      · exact h5 y hy
  obtain ⟨l, rfl, h5⟩ := key rows h3
  exact ⟨a, c, l, by rw [h1, List.length_map], h2, h5⟩
end
def cntM (ls : LsM) (f t : Nat) : Nat := (lsF ls (UInt8.ofNat f, UInt8.ofNat t)).length
def sumT (ls : LsM) (f : Nat) : Nat → Nat
  | 0 => 0
  | t + 1 => sumT ls f t + cntM ls f t
def sumF (ls : LsM) : Nat → Nat
  | 0 => 0
  | f + 1 => sumF ls f + sumT ls f 3
theorem cntM_le {ls : LsM} (h : ls.length ≤ 1024) (f t : Nat) : cntM ls f t ≤ 1024 := Nat.le_trans (lsF_len _ _) h
theorem sumT_le {ls : LsM} (h : ls.length ≤ 1024) (f : Nat) : ∀ t, sumT ls f t ≤ 1024 * t
  | 0 => Nat.zero_le _
  | t + 1 => by have := sumT_le h f t; have := cntM_le h f t; unfold sumT; omega
theorem sumF_le {ls : LsM} (h : ls.length ≤ 1024) : ∀ f, sumF ls f ≤ 3072 * f
  | 0 => Nat.zero_le _
  | f + 1 => by have := sumF_le h f; have := sumT_le h f 3; unfold sumF; omega
theorem fault_lt {rp : Int} (h0 : 0 < rp) {k : LkT} (h : faultC rp k = 0) : (k.1.toNat : Int) < rp ∧ (k.2.toNat : Int) < rp := by
  unfold faultC at h
  by_cases hk : k = (0, 0)
  · subst hk
    exact ⟨h0, h0⟩
  · rw [if_neg hk] at h
    by_cases h1 : rp ≤ k.1.toNat ∨ rp ≤ k.2.toNat
    · rw [if_pos h1] at h; cases h
    · omega
theorem u8_lt3 {x : UInt8} (h : (x.toNat : Int) < 3) : x = 0 ∨ x = 1 ∨ x = 2 := by
  have : x.toNat = 0 ∨ x.toNat = 1 ∨ x.toNat = 2 := by omega
  rcases this with h | h | h
  · exact .inl (UInt8.toNat_inj.1 h)
  · exact .inr (.inl (UInt8.toNat_inj.1 h))
  · exact .inr (.inr (UInt8.toNat_inj.1 h))
theorem sum_all : ∀ {ls : LsM}, (∀ e ∈ ls, faultC 3 e.1 = 0) → sumF ls 3 = ls.length
  | [], _ => rfl
  | e :: l, h => by
    have ih := sum_all (ls := l) fun x hx => h x (List.mem_cons_of_mem _ hx)
    obtain ⟨h1, h2⟩ := fault_lt (by decide) (h e (List.mem_cons_self ..))
    obtain ⟨⟨a, b⟩, x⟩ := e
    have hc : ∀ f t, cntM ((((a, b), x) : LkT × List UInt8) :: l) f t = (if (a, b) = (UInt8.ofNat f, UInt8.ofNat t) then 1 else 0) + cntM l f t := fun f t => by
      unfold cntM
      by_cases hk : (a, b) = (UInt8.ofNat f, UInt8.ofNat t)
      · rw [if_pos hk, lsF_eq hk, List.length_cons]; omega
      · rw [if_neg hk, lsF_ne hk]; omega
    simp only [sumF, sumT, hc, List.length_cons] at ih ⊢
    rcases u8_lt3 h1 with rfl | rfl | rfl <;> rcases u8_lt3 h2 with rfl | rfl | rfl <;> simp <;> omega
theorem po_WaitsN (pb mb : Nat) (rp rm : Int) (ls : LsM) (es : List EnT) (clk : Nat) (f t : Nat) (hf : f < 3) (ht : t < 3) (hp : PoI rp rm ls es clk) {ws : World} {S : List Nat} {h0 h : FH} {L : List HA} {i : Nat} (w : World) (H : St ws S h0 h L w) (hi : L[i]? = some (poH pb mb rp rm ls.length es clk)) (w' : World) (hs : Sat (full w) w') :
    Spec Try.prog 18 #[pt pb, .int .u8 (f : Nat), .int .u8 (t : Nat)] w' [] (full w) (fun v h' L' => ∃ a' c' lv', v = .slice a' (cntM ls f t) c' ∧ L' = [vsH v lv', lvH lv']) := by
  have := po_WaitsA pb mb rp rm ls es clk (UInt8.ofNat f, UInt8.ofNat t) hp w H hi w' hs
  have e1 : (UInt8.ofNat f).toNat = f := by simp; omega
  have e2 : (UInt8.ofNat t).toNat = t := by simp; omega
  simp only [e1, e2] at this
  refine this.mono ?_
  rintro v h' L' ⟨a', c', lv', rfl, rfl, e⟩
  have hl : lv'.length = cntM ls f t := by rw [← List.length_map (f := fun x : Value × List UInt8 => x.2), e]; rfl
  exact ⟨a', c', lv', by rw [hl], rfl⟩
end Go.Tg

