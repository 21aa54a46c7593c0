/- Contracts of Go functions that the laws reach: what each call answers and leaves in memory, for all arguments within the bounds that each theorem names. -/
import Derived.Test.YtajfhoeejeadkaaInst
import Derived.Test.YtajfhoeejeadkaaAuto
import Derived.Test.YtajfhoeejeadkaaLZ
import Derived.Test.YtajfhoeejeadkaaArgs
import Derived.Test.YtajfhoeejeadkaaLift
import Derived.Test.YtajfhoeejeadkaaTB
set_option linter.unusedVariables false
set_option linter.unusedSimpArgs false
set_option maxRecDepth 100000
set_option maxHeartbeats 4000000
namespace Go.Tg
open Go Go.Proofs
structure AcT where
  kd : UInt8
  k : LkT
  n : Int
  how : Int
  at_ : UInt16
  by_ : UInt8
  v : Value
  b : List UInt8
def acL (x : AcT) : List Value := [.int .u8 x.kd.toNat, .int .u8 x.k.1.toNat, .int .u8 x.k.2.toNat, .int .i64 x.n, .int .i64 x.how, .int .u16 x.at_.toNat, .int .u8 x.by_.toNat, x.v]
def AcV (h : FH) (x : AcT) : Prop := BSv h x.v x.b ∧ -9223372036854775808 ≤ x.n ∧ x.n ≤ 9223372036854775807
def AcR (h : FH) (a : Option Addr) (c : Nat) (l : List AcT) : Prop := Sl h 8 a c (l.map acL) ∧ ∀ x ∈ l, AcV h x
section
variable {H : Type} {enc : TypeId × Value → H} {W : World} {sp : Nat → Bool}
theorem val_of1 {v : Value} {a : Option Addr} {n c : Nat} (e : v.cells.toList = [.slice a n c]) (h : ∃ a n c, v = .slice a n c) : v = .slice a n c := by
  obtain ⟨a', n', c', rfl⟩ := h
  simp [Value.cells] at e
  obtain ⟨rfl, rfl, rfl⟩ := e; rfl
theorem u8_of {n : Nat} (h : inK .u8 n) : ∃ x : UInt8, x.toNat = n := ⟨UInt8.ofNat n, by simp only [inK] at h; simp; omega⟩
theorem u16_of {n : Nat} (h : inK .u16 n) : ∃ x : UInt16, x.toNat = n := ⟨UInt16.ofNat n, by simp only [inK] at h; simp; omega⟩
theorem ac21_of {row : List Value} (h : Td enc Try.prog W sp 33 row) : ∃ x : AcT, row = acL x ∧ AcV (full W) x := by
  obtain ⟨hl, hf⟩ := h.struct (fs := [{ name := "Kind", type := 5, offset := 0, embedded := false, tag := "", pkgPath := "", byteOffset := 0 }, { name := "From", type := 5, offset := 1, embedded := false, tag := "", pkgPath := "", byteOffset := 1 }, { name := "To", type := 5, offset := 2, embedded := false, tag := "", pkgPath := "", byteOffset := 2 }, { name := "N", type := 3, offset := 3, embedded := false, tag := "", pkgPath := "", byteOffset := 8 }, { name := "How", type := 3, offset := 4, embedded := false, tag := "", pkgPath := "", byteOffset := 16 }, { name := "At", type := 30, offset := 5, embedded := false, tag := "", pkgPath := "", byteOffset := 24 }, { name := "By", type := 5, offset := 6, embedded := false, tag := "", pkgPath := "", byteOffset := 26 }, { name := "B", type := 31, offset := 7, embedded := false, tag := "", pkgPath := "", byteOffset := 32 }]) Try.underlying33
  rw [show Program.cellsOf Try.prog 33 = 8 from by kernel_rfl] at hl
  match row, hl with
  | [v0, v1, v2, v3, v4, v5, v6, v7], _ =>
    have m := @List.mem_cons_of_mem Field
    have z := fun (a : Field) (l : List Field) => List.mem_cons_self (a := a) (l := l)
    have h0 := hf _ (z _ _)
    have h1 := hf _ (m _ (z _ _))
    have h2 := hf _ (m _ (m _ (z _ _)))
    have h3 := hf _ (m _ (m _ (m _ (z _ _))))
    have h4 := hf _ (m _ (m _ (m _ (m _ (z _ _)))))
    have h5 := hf _ (m _ (m _ (m _ (m _ (m _ (z _ _))))))
    have h6 := hf _ (m _ (m _ (m _ (m _ (m _ (m _ (z _ _)))))))
    have h7 := hf _ (m _ (m _ (m _ (m _ (m _ (m _ (m _ (z _ _))))))))
    rw [show Program.cellsOf Try.prog _ = 1 from by kernel_rfl] at h0 h1 h2 h3 h4 h5 h6 h7
    obtain ⟨n0, e0, k0⟩ := h0.nat Try.underlying5 rfl
    obtain ⟨n1, e1, k1⟩ := h1.nat Try.underlying5 rfl
    obtain ⟨n2, e2, k2⟩ := h2.nat Try.underlying5 rfl
    obtain ⟨n3, e3, k3⟩ := h3.int Try.underlying3
    obtain ⟨n4, e4, k4⟩ := h4.int Try.underlying3
    obtain ⟨n5, e5, k5⟩ := h5.nat Try.underlying30 rfl
    obtain ⟨n6, e6, k6⟩ := h6.nat Try.underlying5 rfl
    obtain ⟨a, c, bs, e7, hr⟩ := h7.bytes Try.underlying31 Try.underlying5 (by kernel_rfl)
    simp at e0 e1 e2 e3 e4 e5 e6 e7
    subst e0; subst e1; subst e2; subst e3; subst e4; subst e5; subst e6; subst e7
    obtain ⟨x0, rfl⟩ := u8_of k0
    obtain ⟨x1, rfl⟩ := u8_of k1
    obtain ⟨x2, rfl⟩ := u8_of k2
    obtain ⟨x5, rfl⟩ := u16_of k5
    obtain ⟨x6, rfl⟩ := u8_of k6
    simp only [inK] at k3
    exact ⟨⟨x0, (x1, x2), n3, n4, x5, x6, .slice a bs.length c, bs⟩, rfl, ⟨a, c, rfl, hr⟩, by show _ ≤ n3; omega, by show n3 ≤ _; omega⟩
theorem acs21_of {cs : List Value} (h : Td enc Try.prog W sp 22 cs) : ∃ a c l, cs = [.slice a (List.length l) c] ∧ AcR (full W) a c l := by
  obtain ⟨a, c, rows, h1, h2, h3⟩ := h.slice Try.underlying22 (sz := 8) (by kernel_rfl) (by decide)
  have key : ∀ (rows : List (List Value)), (∀ r, r ∈ rows → Td enc Try.prog W sp 33 r) → ∃ l : List AcT, rows = l.map acL ∧ ∀ x ∈ l, AcV (full W) x := by
    intro rows
    induction rows with
    | nil => intro _; exact ⟨[], rfl, fun x h => (List.not_mem_nil h).elim⟩
    | cons r rows ih =>
      intro hr
      obtain ⟨l, h4, h5⟩ := ih fun x hx => hr x (by simp [hx])
      obtain ⟨x, rfl, hx⟩ := ac21_of (hr r (by simp))
      refine ⟨x :: l, by simp [h4], fun y hy => ?_⟩
      rcases List.mem_cons.1 hy with rfl | hy
      · exact hx
      · exact h5 y hy
  obtain ⟨l, rfl, h5⟩ := key rows h3
  exact ⟨a, c, l, by rw [h1, List.length_map], h2, h5⟩
end
end Go.Tg

set_option linter.unusedVariables false
set_option linter.unusedSimpArgs false
set_option maxRecDepth 100000
set_option maxHeartbeats 4000000
namespace Go.Tg
open Go Go.Proofs
structure RL where
  k : LkT
  v : Value
  x : List UInt8
def rlC (e : RL) : List Value := [.int .u8 e.k.1.toNat, .int .u8 e.k.2.toNat, e.v]
theorem rlC_len (ls : List RL) : ∀ r, r ∈ ls.map rlC → r.length = 3 := by
  intro r hr
  obtain ⟨x, -, rfl⟩ := List.mem_map.1 hr
  rfl
def RLs (h : FH) (a : Option Addr) (c : Nat) (ls : List RL) : Prop := Sl h 3 a c (ls.map rlC) ∧ ∀ e ∈ ls, BSv h e.v e.x
theorem RLs.mono {h h' : FH} {a : Option Addr} {c : Nat} {ls : List RL} (hle : FLe h h') (r : RLs h a c ls) : RLs h' a c ls := ⟨Sl.mono hle r.1, fun e he => (r.2 e he).mono hle⟩
theorem RLs.full {ws w : World} {S : List Nat} {h0 h : FH} {L : List HA} {a : Option Addr} {c : Nat} {ls : List RL} (r : RLs h a c ls) (H : St ws S h0 h L w) : RLs (Go.Tg.full w) a c ls := r.mono H.sat.le
theorem RLs.one {h : FH} {a : Option Addr} {c : Nat} {ls : List RL} (r : RLs h a c ls) : ∀ u ∈ (ls.map rlC).flatten, u.oneCell' = true := by
  intro u hu
  obtain ⟨l, h1, h2⟩ := List.mem_flatten.1 hu
  obtain ⟨e, he, rfl⟩ := List.mem_map.1 h1
  obtain ⟨a, c, e9, -⟩ := r.2 e he
  simp only [rlC, List.mem_cons, List.not_mem_nil, or_false] at h2
  rcases h2 with rfl | rfl | rfl
  · rfl
  · rfl
  · rw [e9]; rfl
abbrev poR (a : Option Addr) (n c : Nat) (rp rm : Int) : List Value := [.slice a n c, .int .i64 rp, .int .i64 rm]
def onC (rp : Int) (k : LkT) : Prop := (k.1.toNat : Int) < rp ∧ (k.2.toNat : Int) < rp
instance (rp : Int) (k : LkT) : Decidable (onC rp k) := by unfold onC; infer_instance
theorem r21_on (a : Option Addr) (n c : Nat) (rp rm : Int) (k : LkT) (w : World) : SpecV Try.prog 22 #[.agg (poR a n c rp rm).toArray, .int .u8 k.1.toNat, .int .u8 k.2.toNat] w (.bool (decide (onC rp k))) := by
  refine specV_of fun h0 hs H => ?_
  have g1 : (poR a n c rp rm)[0 + 1]? = some (.int .i64 rp) := rfl
  have u1 := k.1.toNat_lt; have u2 := k.2.toNat_lt
  refine calls_of Try.func22 rfl Try.ntmps22 (by simp) ?_
  by_cases h1 : onC rp k
  · rw [decide_eq_true h1]
    unfold onC at h1
    repeat' (first | ((first | refine WL.p rfl ?_ | refine WL.u ?_ | refine WL.g rfl rfl ?_ | refine WL.gu rfl ?_); first | refine pvQ ?_ | (refine opk 3 rfl ?_; (refine ost_cmp rfl rfl rfl rfl (fun hc => ?_) (fun hc => ?_) <;> (simp only [cmpP] at hc; try exact prIQ))) | (refine opk 4 rfl ?_; (refine ost_cmp rfl rfl rfl rfl (fun hc => ?_) (fun hc => ?_) <;> (simp only [cmpP] at hc; try exact prIQ))) | (refine opk 9 rfl ?_; (refine ost_boxq H rfl ?_; clear H; intro bk wk H))) | refine Wc.seq ?_ | refine then_n ?_ | refine WL.nil ?_ | refine Wc.region ?_ | refine Wc.block ?_ | refine then_r ?_ | refine then_e ?_ | refine inb_e rfl ?_ | refine inb_o rfl ?_ | refine inb_n ?_ | refine inb_r ?_ | refine Wc.skip ?_ | refine Wc.exit ?_ | refine Wc.ret ?_ | refine Wc.cond_true rfl ?_ | refine Wc.cond_false rfl ?_ | refine WL.skp rfl rfl ?_ | refine WL.sku rfl ?_)
    all_goals first | ((first | refine fn_ret1 (v := .bool _) rfl rfl ⟨?_, H.fr⟩ | refine fn_ret1 (v := .int _ _) rfl rfl ⟨?_, H.fr⟩ | refine fn_ret1 (v := .string _) rfl rfl ⟨?_, H.fr⟩); rfl) | (exfalso; omega)
  · rw [decide_eq_false h1]
    unfold onC at h1
    repeat' (first | ((first | refine WL.p rfl ?_ | refine WL.u ?_ | refine WL.g rfl rfl ?_ | refine WL.gu rfl ?_); first | refine pvQ ?_ | (refine opk 3 rfl ?_; (refine ost_cmp rfl rfl rfl rfl (fun hc => ?_) (fun hc => ?_) <;> (simp only [cmpP] at hc; try exact prIQ))) | (refine opk 4 rfl ?_; (refine ost_cmp rfl rfl rfl rfl (fun hc => ?_) (fun hc => ?_) <;> (simp only [cmpP] at hc; try exact prIQ))) | (refine opk 9 rfl ?_; (refine ost_boxq H rfl ?_; clear H; intro bk wk H))) | refine Wc.seq ?_ | refine then_n ?_ | refine WL.nil ?_ | refine Wc.region ?_ | refine Wc.block ?_ | refine then_r ?_ | refine then_e ?_ | refine inb_e rfl ?_ | refine inb_o rfl ?_ | refine inb_n ?_ | refine inb_r ?_ | refine Wc.skip ?_ | refine Wc.exit ?_ | refine Wc.ret ?_ | refine Wc.cond_true rfl ?_ | refine Wc.cond_false rfl ?_ | refine WL.skp rfl rfl ?_ | refine WL.sku rfl ?_)
    all_goals first | ((first | refine fn_ret1 (v := .bool _) rfl rfl ⟨?_, H.fr⟩ | refine fn_ret1 (v := .int _ _) rfl rfl ⟨?_, H.fr⟩ | refine fn_ret1 (v := .string _) rfl rfl ⟨?_, H.fr⟩); rfl) | (exfalso; omega)
def findV (k : LkT) : List RL → Int → Nat → Int
  | [], _, _ => -1
  | e :: l, n, i => if e.k = k then (if n = 0 then (i : Int) else findV k l (n - 1) (i + 1)) else findV k l n (i + 1)
theorem findV_cons (k : LkT) (e : RL) (l : List RL) (n : Int) (i : Nat) : findV k (e :: l) n i = if e.k = k then (if n = 0 then (i : Int) else findV k l (n - 1) (i + 1)) else findV k l n (i + 1) := rfl
theorem wrap_sub1 (n : Int) : IntKind.i64.wrap (IntKind.i64.wrap n - 1) = IntKind.i64.wrap (n - 1) := by
  simp only [IntKind.wrap_i64]; omega
theorem wrap_zero {n : Int} (h1 : -9223372036854777856 ≤ n) (h2 : n ≤ 9223372036854775807) : IntKind.i64.wrap n = 0 ↔ n = 0 := by
  rw [IntKind.wrap_i64]; omega
theorem r21_find (k : LkT) (q : Int) (q1 : -9223372036854775808 ≤ q) (q2 : q ≤ 9223372036854775807) (rp rm : Int) (h0 : FH) (a : Option Addr) (c : Nat) (ls : List RL) (w : World) (hs : Sat h0 w) (hL : RLs h0 a c ls) (hl : ls.length ≤ 2000) :
    SpecV Try.prog 23 #[.agg (poR a ls.length c rp rm).toArray, .int .u8 k.1.toNat, .int .u8 k.2.toNat, .int .i64 q] w (.int .i64 (findV k ls q 0)) := by
  have H := St.start hs
  have hS := hL.1
  have hln := hS.lenM
  have g0 : (poR a ls.length c rp rm)[0 + 0]? = some (.slice a ls.length c) := rfl
  unfold SpecV
  refine calls_of Try.func23 rfl Try.ntmps23 (by simp) ?_
  repeat' (first | ((first | refine WL.p rfl ?_ | refine WL.u ?_ | refine WL.g rfl rfl ?_ | refine WL.gu rfl ?_); first | refine pvQ ?_ | (refine opk 3 rfl ?_; (refine ost_cmp rfl rfl rfl rfl (fun hc => ?_) (fun hc => ?_) <;> (simp only [cmpP] at hc; try exact prIQ))) | (refine opk 4 rfl ?_; (refine ost_cmp rfl rfl rfl rfl (fun hc => ?_) (fun hc => ?_) <;> (simp only [cmpP] at hc; try exact prIQ))) | (refine opk 9 rfl ?_; (refine ost_boxq H rfl ?_; clear H; intro bk wk H))) | refine Wc.seq ?_ | refine then_n ?_ | refine WL.nil ?_ | refine Wc.region ?_ | refine Wc.block ?_ | refine then_r ?_ | refine then_e ?_ | refine inb_e rfl ?_ | refine inb_o rfl ?_ | refine inb_n ?_ | refine inb_r ?_ | refine Wc.skip ?_ | refine Wc.exit ?_ | refine Wc.ret ?_ | refine Wc.cond_true rfl ?_ | refine Wc.cond_false rfl ?_ | refine WL.skp rfl rfl ?_ | refine WL.sku rfl ?_)
  obtain ⟨bp, ebp⟩ := H.nameB idx0
  subst ebp
  refine Wc.loopE (fun s0 m s w' => ∃ (i : Nat) (n' : Int), m = ls.length - i ∧ i ≤ ls.length ∧ Agree [3, 8, 9, 10, 11, 12, 13, 14, 15, 16, 17, 18, 19, 20, 21, 22, 23, 24, 25, 26, 27, 28, 29, 30, 31, 32, 33, 34, 35, 36, 37, 38, 39] s s0 ∧ s 9 = .int .i64 i ∧ s 3 = .int .i64 (IntKind.i64.wrap n') ∧ q - i ≤ n' ∧ n' ≤ q ∧ findV k ls q 0 = findV k (ls.drop i) n' i ∧
    St w [] h0 h0 [.blk bp (.cells (poR a ls.length c rp rm).toArray 29 (0, 0))] w') ls.length ⟨0, q, rfl, by omega, Agree.refl _ _, rfl, by rw [wrap_in (k := .i64) (by simp only [inK]; omega)]; rfl, by omega, by omega, rfl, H⟩ ?_
  clear H
  rintro m s w' ⟨i, n', rfl, hi, hA9, e1, e2, hn1, hn2, hf, H⟩
  obtain ⟨j, rfl⟩ := hA9.env2 e1 e2
  clear hA9 e1 e2
  by_cases hlt : i < ls.length
  · obtain ⟨b, off, l, T, fr, e1, eb, eg⟩ := hS.getM (by decide) (Nat.lt_of_le_of_lt (Nat.zero_le _) hlt)
    subst e1
    have g9 := eg (i : Int).toNat i hlt (by omega)
    have gA : l[off + (i : Int).toNat * 3 + 0]? = some (.int .u8 ls[i].k.1.toNat) := row_cell g9 (q := 0) (by simp [rlC])
    have gB : l[off + (i : Int).toNat * 3 + 1]? = some (.int .u8 ls[i].k.2.toNat) := row_cell g9 (q := 1) (by simp [rlC])
    rw [List.drop_eq_getElem_cons hlt] at hf
    rw [findV_cons] at hf
    clear eg g9
    by_cases hk : ls[i].k = k
    · rw [if_pos hk] at hf
      rw [hk] at gA gB
      by_cases hz : n' = 0
      · rw [if_pos hz] at hf
        subst hz
        rw [hf]
        have hw0 : IntKind.i64.wrap 0 = 0 := by decide
        repeat' (first | ((first | refine WL.p rfl ?_ | refine WL.u ?_ | refine WL.g rfl rfl ?_ | refine WL.gu rfl ?_); first | refine pvQ ?_ | (refine opk 3 rfl ?_; (refine ost_cmp rfl rfl rfl rfl (fun hc => ?_) (fun hc => ?_) <;> (simp only [cmpP] at hc; try exact prIQ))) | (refine opk 4 rfl ?_; (refine ost_cmp rfl rfl rfl rfl (fun hc => ?_) (fun hc => ?_) <;> (simp only [cmpP] at hc; try exact prIQ))) | (refine opk 9 rfl ?_; (refine ost_boxq H rfl ?_; clear H; intro bk wk H))) | refine Wc.seq ?_ | refine then_n ?_ | refine WL.nil ?_ | refine Wc.region ?_ | refine Wc.block ?_ | refine then_r ?_ | refine then_e ?_ | refine inb_e rfl ?_ | refine inb_o rfl ?_ | refine inb_n ?_ | refine inb_r ?_ | refine Wc.skip ?_ | refine Wc.exit ?_ | refine Wc.ret ?_ | refine Wc.cond_true rfl ?_ | refine Wc.cond_false rfl ?_ | refine WL.skp rfl rfl ?_ | refine WL.sku rfl ?_)
        all_goals first | (exfalso; omega) | exact fn_ret1 (v := .int _ _) rfl rfl ⟨rfl, H.fr⟩
      · rw [if_neg hz] at hf
        have hw0 : IntKind.i64.wrap n' ≠ 0 := fun h => hz ((wrap_zero (by omega) (by omega)).1 h)
        repeat' (first | ((first | refine WL.p rfl ?_ | refine WL.u ?_ | refine WL.g rfl rfl ?_ | refine WL.gu rfl ?_); first | (refine opk 5 rfl ?_; (refine ost_sub rfl rfl rfl ?_; rw [wrap_sub1])) | refine pvQ ?_ | (refine opk 3 rfl ?_; (refine ost_cmp rfl rfl rfl rfl (fun hc => ?_) (fun hc => ?_) <;> (simp only [cmpP] at hc; try exact prIQ))) | (refine opk 4 rfl ?_; (refine ost_cmp rfl rfl rfl rfl (fun hc => ?_) (fun hc => ?_) <;> (simp only [cmpP] at hc; try exact prIQ))) | (refine opk 9 rfl ?_; (refine ost_boxq H rfl ?_; clear H; intro bk wk H))) | refine Wc.seq ?_ | refine then_n ?_ | refine WL.nil ?_ | refine Wc.region ?_ | refine Wc.block ?_ | refine then_r ?_ | refine then_e ?_ | refine inb_e rfl ?_ | refine inb_o rfl ?_ | refine inb_n ?_ | refine inb_r ?_ | refine Wc.skip ?_ | refine Wc.exit ?_ | refine Wc.ret ?_ | refine Wc.cond_true rfl ?_ | refine Wc.cond_false rfl ?_ | refine WL.skp rfl rfl ?_ | refine WL.sku rfl ?_)
        all_goals first | (exfalso; omega) | skip
        exact ⟨ls.length - (i + 1), by omega, i + 1, n' - 1, rfl, by omega, by (repeat' (first | exact Agree.refl _ _ | exact Agree.havoc | refine Agree.upd rfl ?_ | refine Agree.hav2 rfl ?_)), rfl, rfl, by omega, by omega, hf, H⟩
    · rw [if_neg hk] at hf
      have hkk : ls[i].k.1.toNat ≠ k.1.toNat ∨ ls[i].k.2.toNat ≠ k.2.toNat := Classical.byContradiction fun h => hk (Prod.ext (UInt8.toNat_inj.1 (by omega)) (UInt8.toNat_inj.1 (by omega)))
      generalize ls[i].k.1.toNat = u at gA hkk
      generalize ls[i].k.2.toNat = v at gB hkk
      repeat' (first | ((first | refine WL.p rfl ?_ | refine WL.u ?_ | refine WL.g rfl rfl ?_ | refine WL.gu rfl ?_); first | refine pvQ ?_ | (refine opk 3 rfl ?_; (refine ost_cmp rfl rfl rfl rfl (fun hc => ?_) (fun hc => ?_) <;> (simp only [cmpP] at hc; try exact prIQ))) | (refine opk 4 rfl ?_; (refine ost_cmp rfl rfl rfl rfl (fun hc => ?_) (fun hc => ?_) <;> (simp only [cmpP] at hc; try exact prIQ))) | (refine opk 9 rfl ?_; (refine ost_boxq H rfl ?_; clear H; intro bk wk H))) | refine Wc.seq ?_ | refine then_n ?_ | refine WL.nil ?_ | refine Wc.region ?_ | refine Wc.block ?_ | refine then_r ?_ | refine then_e ?_ | refine inb_e rfl ?_ | refine inb_o rfl ?_ | refine inb_n ?_ | refine inb_r ?_ | refine Wc.skip ?_ | refine Wc.exit ?_ | refine Wc.ret ?_ | refine Wc.cond_true rfl ?_ | refine Wc.cond_false rfl ?_ | refine WL.skp rfl rfl ?_ | refine WL.sku rfl ?_)
      all_goals first | (exfalso; omega) | skip
      all_goals exact ⟨ls.length - (i + 1), by omega, i + 1, n', rfl, by omega, by (repeat' (first | exact Agree.refl _ _ | exact Agree.havoc | refine Agree.upd rfl ?_ | refine Agree.hav2 rfl ?_)), rfl, rfl, by omega, by omega, hf, H⟩
  · rw [List.drop_eq_nil_of_le (by omega)] at hf
    rw [hf]
    repeat' (first | ((first | refine WL.p rfl ?_ | refine WL.u ?_ | refine WL.g rfl rfl ?_ | refine WL.gu rfl ?_); first | refine pvQ ?_ | (refine opk 3 rfl ?_; (refine ost_cmp rfl rfl rfl rfl (fun hc => ?_) (fun hc => ?_) <;> (simp only [cmpP] at hc; try exact prIQ))) | (refine opk 4 rfl ?_; (refine ost_cmp rfl rfl rfl rfl (fun hc => ?_) (fun hc => ?_) <;> (simp only [cmpP] at hc; try exact prIQ))) | (refine opk 9 rfl ?_; (refine ost_boxq H rfl ?_; clear H; intro bk wk H))) | refine Wc.seq ?_ | refine then_n ?_ | refine WL.nil ?_ | refine Wc.region ?_ | refine Wc.block ?_ | refine then_r ?_ | refine then_e ?_ | refine inb_e rfl ?_ | refine inb_o rfl ?_ | refine inb_n ?_ | refine inb_r ?_ | refine Wc.skip ?_ | refine Wc.exit ?_ | refine Wc.ret ?_ | refine Wc.cond_true rfl ?_ | refine Wc.cond_false rfl ?_ | refine WL.skp rfl rfl ?_ | refine WL.sku rfl ?_)
    exact fn_ret1 (v := .int _ _) rfl rfl ⟨rfl, H.fr⟩
def editR (ls : List RL) (i : Nat) (by_ : List RL) : List RL := ls.take i ++ by_ ++ ls.drop (i + 1)
def edK (ls : List RL) (i : Nat) (by_ : List RL) (k : Nat) : List RL := if k ≤ i then ls.take k else ls.take i ++ by_ ++ (ls.take k).drop (i + 1)
theorem edK_lt {ls : List RL} {i k : Nat} {by_ : List RL} (h : k < ls.length) (hk : k ≠ i) : edK ls i by_ (k + 1) = edK ls i by_ k ++ [ls[k]] := by
  have ht : ls.take (k + 1) = ls.take k ++ [ls[k]] := by rw [List.take_add_one, List.getElem?_eq_getElem h]; rfl
  unfold edK
  by_cases h1 : k + 1 ≤ i
  · rw [if_pos h1, if_pos (by omega), ht]
  · rw [if_neg h1, if_neg (by omega), ht, List.drop_append_of_le_length (by rw [List.length_take]; omega)]
    simp
theorem edK_at {ls : List RL} {i : Nat} {by_ : List RL} (h : i < ls.length) : edK ls i by_ (i + 1) = edK ls i by_ i ++ by_ := by
  unfold edK
  rw [if_neg (by omega), if_pos (Nat.le_refl _), List.drop_eq_nil_of_le (by rw [List.length_take]; omega), List.append_nil]
theorem edK_end {ls : List RL} {i : Nat} {by_ : List RL} (h : i < ls.length) : edK ls i by_ ls.length = editR ls i by_ := by
  unfold edK editR
  rw [if_neg (by omega), List.take_length]
theorem edK_len (ls : List RL) (i : Nat) (by_ : List RL) (k : Nat) : (edK ls i by_ k).length ≤ ls.length + by_.length := by
  unfold edK
  split
  · rw [List.length_take]; omega
  · simp only [List.length_append, List.length_take, List.length_drop]; omega
theorem r21_edit (h0 : FH) (a : Option Addr) (c : Nat) (ls : List RL) (i : Nat) (hi : i < ls.length) (a2 : Option Addr) (c2 : Nat) (by_ : List RL) (w : World) (hs : Sat h0 w) (hL : RLs h0 a c ls) (hB : RLs h0 a2 c2 by_) (hl : ls.length ≤ 2000) (hbl : by_.length ≤ 2000) :
    Spec Try.prog 24 #[.slice a ls.length c, .int .i64 i, .slice a2 by_.length c2] w [] h0 (fun v h' L' => ∃ a' c', v = .slice a' (editR ls i by_).length c' ∧ L' = [ownR v 39 3 ((editR ls i by_).map rlC)]) := by
  have H := St.start hs
  have hS := hL.1
  have hln := hS.lenM
  have hbm : (by_.map rlC).length = by_.length := List.length_map ..
  unfold Spec
  refine calls_of Try.func24 rfl Try.ntmps24 (by simp) ?_
  repeat' (first | ((first | refine WL.p rfl ?_ | refine WL.u ?_); first | refine pvQ ?_ | (refine opk 3 rfl ?_; (refine ost_cmp rfl rfl rfl rfl (fun hc => ?_) (fun hc => ?_) <;> (simp only [cmpP] at hc; try exact prIQ))) | (refine opk 4 rfl ?_; (refine ost_cmp rfl rfl rfl rfl (fun hc => ?_) (fun hc => ?_) <;> (simp only [cmpP] at hc; try exact prIQ))) | (refine opk 9 rfl ?_; (refine ost_build1 H rfl rfl rfl evQ lsQ rfl ?_; clear H; intro bk wk H))) | refine Wc.seq ?_ | refine then_n ?_ | refine WL.nil ?_ | refine Wc.region ?_ | refine Wc.block ?_ | refine then_r ?_ | refine then_e ?_ | refine inb_e rfl ?_ | refine inb_o rfl ?_ | refine inb_n ?_ | refine inb_r ?_ | refine Wc.skip ?_ | refine Wc.exit ?_ | refine Wc.ret ?_ | refine Wc.cond_true rfl ?_ | refine Wc.cond_false rfl ?_)
  have H2 : St w [] h0 h0 [ownR (.slice none ((edK ls i by_ 0).map rlC).length 0) 39 3 ((edK ls i by_ 0).map rlC)] w := by
    have : edK ls i by_ 0 = [] := by unfold edK; rw [if_pos (Nat.zero_le _)]; rfl
    rw [this]; exact H.nilOwn 39 3
  refine Wc.loopE (fun s0 m s w' => ∃ (k : Nat) (a1 : Option Addr) (c1 : Nat), m = ls.length - k ∧ k ≤ ls.length ∧ Agree [7, 8, 9, 10, 11, 12, 13, 14, 15, 16, 17, 18, 19, 20, 21, 22, 23, 24, 25, 26, 27] s s0 ∧ s 8 = .int .i64 k ∧ s 7 = .slice a1 ((edK ls i by_ k).map rlC).length c1 ∧
    St w [] h0 h0 [ownR (.slice a1 ((edK ls i by_ k).map rlC).length c1) 39 3 ((edK ls i by_ k).map rlC)] w') ls.length ⟨0, none, 0, rfl, by omega, Agree.refl _ _, rfl, by unfold edK; rw [if_pos (Nat.zero_le _)]; rfl, H2⟩ ?_
  clear H H2
  rintro m s w' ⟨k, a1, c1, rfl, hk, hA9, e1, e2, H⟩
  obtain ⟨j, rfl⟩ := hA9.env2 e1 e2
  clear hA9 e1 e2
  have hkl := edK_len ls i by_ k
  have hkm : ((edK ls i by_ k).map rlC).length = (edK ls i by_ k).length := List.length_map ..
  have hr1 := rlC_len (edK ls i by_ k)
  by_cases hlt : k < ls.length
  · by_cases hki : k = i
    · subst hki
      have hst : (edK ls k by_ (k + 1)).map rlC = (edK ls k by_ k).map rlC ++ by_.map rlC := by rw [edK_at hi, List.map_append]
      generalize (edK ls k by_ k).map rlC = R at H hst hkm hr1 ⊢
      rw [show by_.length = (by_.map rlC).length from hbm.symm]
      repeat' (first | ((first | refine WL.p rfl ?_ | refine WL.u ?_); first | (refine opk 1 rfl ?_; (refine ost_appRs (rows := R) (more := by_.map rlC) H rfl rfl rfl (by (exact ixQ)) (hB.1.full H) (by rfl) (by decide) hB.one rfl (by rw [hbm]; omega) ?_; clear H; intro aa ca wk H; simp only [List.set_cons_zero, List.set_cons_succ] at H)) | refine pvQ ?_ | (refine opk 3 rfl ?_; (refine ost_cmp rfl rfl rfl rfl (fun hc => ?_) (fun hc => ?_) <;> (simp only [cmpP] at hc; try exact prIQ))) | (refine opk 4 rfl ?_; (refine ost_cmp rfl rfl rfl rfl (fun hc => ?_) (fun hc => ?_) <;> (simp only [cmpP] at hc; try exact prIQ))) | (refine opk 9 rfl ?_; (refine ost_build1 H rfl rfl rfl evQ lsQ rfl ?_; clear H; intro bk wk H))) | refine Wc.seq ?_ | refine then_n ?_ | refine WL.nil ?_ | refine Wc.region ?_ | refine Wc.block ?_ | refine then_r ?_ | refine then_e ?_ | refine inb_e rfl ?_ | refine inb_o rfl ?_ | refine inb_n ?_ | refine inb_r ?_ | refine Wc.skip ?_ | refine Wc.exit ?_ | refine Wc.ret ?_ | refine Wc.cond_true rfl ?_ | refine Wc.cond_false rfl ?_)
      rw [← hst] at H
      exact ⟨ls.length - (k + 1), by omega, k + 1, aa, ca, rfl, by omega, by (repeat' (first | exact Agree.refl _ _ | exact Agree.havoc | refine Agree.upd rfl ?_ | refine Agree.hav2 rfl ?_)), rfl, by rw [hst]; rfl, H⟩
    · have hst : (edK ls i by_ (k + 1)).map rlC = (edK ls i by_ k).map rlC ++ [rlC ls[k]] := by rw [edK_lt hlt hki, List.map_append]; rfl
      obtain ⟨b, off, l, T, fr, e1, eb, eg⟩ := hS.getM (by decide) (Nat.lt_of_le_of_lt (Nat.zero_le _) hlt)
      subst e1
      have g9 := eg (k : Int).toNat k hlt (by omega)
      have lr : (rlC ls[k]).length = 3 := rfl
      have hro := hL.one
      have hr9 : ∀ u ∈ rlC ls[k], u.oneCell' = true := fun u hu => hro u (List.mem_flatten.2 ⟨_, List.mem_map.2 ⟨_, List.getElem_mem hlt, rfl⟩, hu⟩)
      clear eg hro
      generalize rlC ls[k] = row at g9 hst lr hr9
      generalize (edK ls i by_ k).map rlC = R at H hst hkm hr1 ⊢
      repeat' (first | ((first | refine WL.p rfl ?_ | refine WL.u ?_); first | (refine opk 1 rfl ?_; (refine ost_appR (rows := R) (row := row) H rfl rfl rfl (by (exact ixQ)) (by (exact ixQ)) (by rfl) (by decide) lr hr9 rfl (by omega) ?_; clear H; intro aa ca wk H; simp only [List.set_cons_zero, List.set_cons_succ] at H)) | (refine opk 9 rfl ?_; (refine ost_buildR (rows := [row]) H rfl (by decide) rfl (by rfl) (evP1 vxQ) (.cons rfl .nil) rfl (by simpa using lr) ?_; clear H; intro bk wk H)) | refine pvQ ?_ | (refine opk 3 rfl ?_; (refine ost_cmp rfl rfl rfl rfl (fun hc => ?_) (fun hc => ?_) <;> (simp only [cmpP] at hc; try exact prIQ))) | (refine opk 4 rfl ?_; (refine ost_cmp rfl rfl rfl rfl (fun hc => ?_) (fun hc => ?_) <;> (simp only [cmpP] at hc; try exact prIQ))) | (refine opk 9 rfl ?_; (refine ost_build1 H rfl rfl rfl evQ lsQ rfl ?_; clear H; intro bk wk H))) | refine Wc.seq ?_ | refine then_n ?_ | refine WL.nil ?_ | refine Wc.region ?_ | refine Wc.block ?_ | refine then_r ?_ | refine then_e ?_ | refine inb_e rfl ?_ | refine inb_o rfl ?_ | refine inb_n ?_ | refine inb_r ?_ | refine Wc.skip ?_ | refine Wc.exit ?_ | refine Wc.ret ?_ | refine Wc.cond_true rfl ?_ | refine Wc.cond_false rfl ?_)
      rw [← hst] at H
      exact ⟨ls.length - (k + 1), by omega, k + 1, aa, ca, rfl, by omega, by (repeat' (first | exact Agree.refl _ _ | exact Agree.havoc | refine Agree.upd rfl ?_ | refine Agree.hav2 rfl ?_)), rfl, by rw [hst]; rfl, H.picks [1] rfl (by decide)⟩
  · obtain rfl : k = ls.length := by omega
    rw [edK_end hi] at H ⊢
    repeat' (first | ((first | refine WL.p rfl ?_ | refine WL.u ?_); first | refine pvQ ?_ | (refine opk 3 rfl ?_; (refine ost_cmp rfl rfl rfl rfl (fun hc => ?_) (fun hc => ?_) <;> (simp only [cmpP] at hc; try exact prIQ))) | (refine opk 4 rfl ?_; (refine ost_cmp rfl rfl rfl rfl (fun hc => ?_) (fun hc => ?_) <;> (simp only [cmpP] at hc; try exact prIQ))) | (refine opk 9 rfl ?_; (refine ost_build1 H rfl rfl rfl evQ lsQ rfl ?_; clear H; intro bk wk H))) | refine Wc.seq ?_ | refine then_n ?_ | refine WL.nil ?_ | refine Wc.region ?_ | refine Wc.block ?_ | refine then_r ?_ | refine then_e ?_ | refine inb_e rfl ?_ | refine inb_o rfl ?_ | refine inb_n ?_ | refine inb_r ?_ | refine Wc.skip ?_ | refine Wc.exit ?_ | refine Wc.ret ?_ | refine Wc.cond_true rfl ?_ | refine Wc.cond_false rfl ?_)
    exact fn_ret1 (v := .slice _ _ _) rfl rfl ⟨_, _, H, a1, c1, by rw [List.length_map], rfl⟩
theorem r21_turned (h0 : FH) (k : LkT) (a : Option Addr) (c : Nat) (x : List UInt8) (at_ : UInt16) (by_ : UInt8) (w : World) (hs : Sat h0 w) (hr : BS h0 a c x) (hx : x.length ≤ 1000000) :
    Spec Try.prog 25 #[.agg (ltL k (.slice a x.length c)).toArray, .int .u16 at_.toNat, .int .u8 by_.toNat] w [] h0 (fun v h' L' => ∃ a' c', v = .agg (ltL k (.slice a' (turnB at_ by_ x).length c')).toArray ∧ L' = [own8 (.slice a' (turnB at_ by_ x).length c') 5 (turnB at_ by_ x)]) := by
  have H := St.start hs
  have hat := at_.toNat_lt
  have q2 : (ltL k (.slice a x.length c))[0 + 2]? = some (.slice a x.length c) := rfl
  have lk3 : (ltL k (.slice a x.length c)).length = 3 := rfl
  unfold Spec
  refine calls_of Try.func25 rfl Try.ntmps25 (by simp) ?_
  by_cases hxz : x.length = 0
  · have hx0 : x = [] := List.eq_nil_of_length_eq_zero hxz
    subst hx0
    rw [turnB_nil]
    repeat' (first | ((first | refine WL.p rfl ?_ | refine WL.u ?_); first | (refine opk 1 rfl ?_; (refine ost_app8 (xs := []) H rfl rfl rfl (by (exact ixQ)) (hr.full H) (by (try simp only [List.length_nil, List.length_append, List.length_cons, List.length_singleton]); omega) ?_; clear H; intro aa ca wk H; simp only [List.set_cons_zero, List.set_cons_succ, List.nil_append] at H)) | refine pvQ ?_ | (refine opk 3 rfl ?_; (refine ost_cmp rfl rfl rfl rfl (fun hc => ?_) (fun hc => ?_) <;> (simp only [cmpP] at hc; try exact prIQ))) | (refine opk 4 rfl ?_; (refine ost_cmp rfl rfl rfl rfl (fun hc => ?_) (fun hc => ?_) <;> (simp only [cmpP] at hc; try exact prIQ))) | (refine opk 8 rfl ?_; first | (refine ost_store1 H rfl rfl vlQ gvQ ixQ (by first | decide | (simp; omega) | (simp; done) | omega) ?_; clear H; intro wk H; simp only [List.set_cons_zero, List.set_cons_succ, Nat.reduceAdd] at H) | (refine ost_storeW H rfl rfl rfl rfl lQ ixQ lQ okQ ?_; clear H; intro wk H; simp only [List.set_cons_zero, List.set_cons_succ, Nat.reduceAdd] at H)) | (refine opk 9 rfl ?_; first | (refine ost_boxq H rfl ?_; clear H; intro bk wk H) | (refine ost_allocA H rfl ?_; clear H; intro bk wk H) | (refine ost_build1 H rfl rfl rfl evQ lsQ rfl ?_; clear H; intro bk wk H))) | refine Wc.seq ?_ | refine then_n ?_ | refine WL.nil ?_ | refine Wc.region ?_ | refine Wc.block ?_ | refine then_r ?_ | refine then_e ?_ | refine inb_e rfl ?_ | refine inb_o rfl ?_ | refine inb_n ?_ | refine inb_r ?_ | refine Wc.skip ?_ | refine Wc.exit ?_ | refine Wc.ret ?_ | refine Wc.cond_true rfl ?_ | refine Wc.cond_false rfl ?_)
    all_goals first | (exfalso; simp at hc; done) | exact fn_ret1 rfl (rv_cellA rfl rfl H.bI lQ) ⟨_, _, H.pick 0 rfl, aa, ca, rfl, rfl⟩
  · have hm := Nat.mod_lt at_.toNat (show 0 < x.length by omega)
    have hts := turnB_set (by_ := by_) (at_ := at_) (x := x) rfl hm
    have hmi : (((at_.toNat : Nat) : Int) % ((x.length : Nat) : Int)).toNat = at_.toNat % x.length := by omega
    have hmi2 : ((at_.toNat : Nat) : Int) % ((x.length : Nat) : Int) < x.length := by omega
    have hmi3 : 0 ≤ ((at_.toNat : Nat) : Int) % ((x.length : Nat) : Int) := by omega
    repeat' (first | ((first | refine WL.p rfl ?_ | refine WL.u ?_); first | (refine opk 1 rfl ?_; (refine ost_app8 (xs := []) H rfl rfl rfl (by (exact ixQ)) (hr.full H) (by (try simp only [List.length_nil, List.length_append, List.length_cons, List.length_singleton]); omega) ?_; clear H; intro aa ca wk H; simp only [List.set_cons_zero, List.set_cons_succ, List.nil_append] at H)) | refine pvQ ?_ | (refine opk 3 rfl ?_; (refine ost_cmp rfl rfl rfl rfl (fun hc => ?_) (fun hc => ?_) <;> (simp only [cmpP] at hc; try exact prIQ))) | (refine opk 4 rfl ?_; (refine ost_cmp rfl rfl rfl rfl (fun hc => ?_) (fun hc => ?_) <;> (simp only [cmpP] at hc; try exact prIQ))) | (refine opk 8 rfl ?_; first | (refine ost_store1 H rfl rfl vlQ gvQ ixQ (by first | decide | (simp; omega) | (simp; done) | omega) ?_; clear H; intro wk H; simp only [List.set_cons_zero, List.set_cons_succ, Nat.reduceAdd] at H) | (refine ost_storeW H rfl rfl rfl rfl lQ ixQ lQ okQ ?_; clear H; intro wk H; simp only [List.set_cons_zero, List.set_cons_succ, Nat.reduceAdd] at H)) | (refine opk 9 rfl ?_; first | (refine ost_boxq H rfl ?_; clear H; intro bk wk H) | (refine ost_allocA H rfl ?_; clear H; intro bk wk H) | (refine ost_build1 H rfl rfl rfl evQ lsQ rfl ?_; clear H; intro bk wk H))) | refine Wc.seq ?_ | refine then_n ?_ | refine WL.nil ?_ | refine Wc.region ?_ | refine Wc.block ?_ | refine then_r ?_ | refine then_e ?_ | refine inb_e rfl ?_ | refine inb_o rfl ?_ | refine inb_n ?_ | refine inb_r ?_ | refine Wc.skip ?_ | refine Wc.exit ?_ | refine Wc.ret ?_ | refine Wc.cond_true rfl ?_ | refine Wc.cond_false rfl ?_)
    all_goals first | (exfalso; simp only [List.nil_append] at hc; omega) | skip
    simp only [List.nil_append] at H ⊢
    have hmx8 : ca ≤ maxLen := by
      obtain ⟨_, _, e1, _, h2, _⟩ := H.ownRd (i := 0) rfl
      injection e1 with _ _ e3
      omega
    obtain ⟨g8, cur8, rfl, hnc8, hcl8, hct8, H9⟩ := H.ownBlk (i := 0) rfl (by omega)
    clear H; have H := H9; clear H9
    rw [Nat.mul_one] at hcl8 hct8
    simp only [List.set_cons_zero, List.set_cons_succ] at H
    have gb : cur8[0 + (((at_.toNat : Nat) : Int) % ((x.length : Nat) : Int)).toNat * 1]? = some (.int .u8 x[at_.toNat % x.length].toNat) := by
      rw [hmi]
      have h1 := congrArg (fun l => l[at_.toNat % x.length]?) hct8
      simp only [List.getElem?_take, if_pos hm, cB_get hm] at h1
      rw [show 0 + at_.toNat % x.length * 1 = at_.toNat % x.length by omega]
      exact h1
    repeat' (first | ((first | refine WL.p rfl ?_ | refine WL.u ?_); first | refine pvQ ?_ | (refine opk 3 rfl ?_; (refine ost_cmp rfl rfl rfl rfl (fun hc => ?_) (fun hc => ?_) <;> (simp only [cmpP] at hc; try exact prIQ))) | (refine opk 4 rfl ?_; (refine ost_cmp rfl rfl rfl rfl (fun hc => ?_) (fun hc => ?_) <;> (simp only [cmpP] at hc; try exact prIQ))) | (refine opk 8 rfl ?_; first | (refine ost_store1 H rfl rfl vlQ gvQ ixQ (by first | decide | (simp; omega) | (simp; done) | omega) ?_; clear H; intro wk H; simp only [List.set_cons_zero, List.set_cons_succ, Nat.reduceAdd] at H) | (refine ost_storeW H rfl rfl rfl rfl lQ ixQ lQ okQ ?_; clear H; intro wk H; simp only [List.set_cons_zero, List.set_cons_succ, Nat.reduceAdd] at H)) | (refine opk 9 rfl ?_; first | (refine ost_boxq H rfl ?_; clear H; intro bk wk H) | (refine ost_allocA H rfl ?_; clear H; intro bk wk H) | (refine ost_build1 H rfl rfl rfl evQ lsQ rfl ?_; clear H; intro bk wk H))) | refine Wc.seq ?_ | refine then_n ?_ | refine WL.nil ?_ | refine Wc.region ?_ | refine Wc.block ?_ | refine then_r ?_ | refine then_e ?_ | refine inb_e rfl ?_ | refine inb_o rfl ?_ | refine inb_n ?_ | refine inb_r ?_ | refine Wc.skip ?_ | refine Wc.exit ?_ | refine Wc.ret ?_ | refine Wc.cond_true rfl ?_ | refine Wc.cond_false rfl ?_)
    rw [hmi, show 0 + at_.toNat % x.length * 1 = at_.toNat % x.length by omega, bitv_xor8] at H
    have hcl9 : (cur8.set (at_.toNat % x.length) (.int .u8 (x[at_.toNat % x.length] ^^^ by_).toNat)).length = ca := by rw [List.length_set]; exact hcl8
    have H1 := H.blkOwnB (i := 0) rfl hcl9 (n := x.length) hnc8 hmx8
    have hct9 : (cur8.set (at_.toNat % x.length) (.int .u8 (x[at_.toNat % x.length] ^^^ by_).toNat)).take x.length = cB (turnB at_ by_ x) := by
      rw [List.take_set, hct8, hts]
      unfold cB
      rw [List.map_set]; rfl
    rw [hct9] at H1
    refine fn_ret1 rfl (rv_cellA rfl rfl H.bI lQ) ⟨_, _, H1.pick 0 rfl, some ⟨g8, 0, none⟩, ca, by rw [turnB_len], by unfold own8; rw [turnB_len]⟩
end Go.Tg

set_option linter.unusedVariables false
set_option linter.unusedSimpArgs false
set_option maxRecDepth 100000
set_option maxHeartbeats 8000000
namespace Go.Tg
open Go Go.Proofs
def RL.p (e : RL) : LkT × List UInt8 := (e.k, e.x)
theorem find_pos (k : LkT) : ∀ (ls : List RL) (q : Int) (s : Nat), findV k ls q s = match posM k (ls.map RL.p) q with | none => -1 | some i => ((s + i : Nat) : Int)
  | [], q, s => rfl
  | e :: l, q, s => by
    rw [findV_cons, List.map_cons, posM_cons]
    by_cases he : e.k = k
    · rw [if_pos he, if_pos (show (RL.p e).1 = k from he)]
      by_cases hq : q = 0
      · rw [if_pos hq, if_pos hq]; rfl
      · rw [if_neg hq, if_neg hq, find_pos k l (q - 1) (s + 1)]
        cases posM k (l.map RL.p) (q - 1) with
        | none => rfl
        | some i => exact congrArg Nat.cast (show s + 1 + i = s + (i + 1) by omega)
    · rw [if_neg he, if_neg (show ¬ (RL.p e).1 = k from he), find_pos k l q (s + 1)]
      cases posM k (l.map RL.p) q with
      | none => rfl
      | some i => exact congrArg Nat.cast (show s + 1 + i = s + (i + 1) by omega)
theorem on_fault {rp : Int} (h : 2 ≤ rp) (k : LkT) : onC rp k ↔ faultC rp k = 0 := by
  unfold onC faultC
  by_cases hk : k = (0, 0)
  · subst hk
    simp; omega
  · rw [if_neg hk]
    by_cases h1 : rp ≤ k.1.toNat ∨ rp ≤ k.2.toNat
    · rw [if_pos h1]; omega
    · rw [if_neg h1]; omega
theorem fault_two {rp : Int} {k : LkT} (h : faultC rp k ≠ 0) : faultC rp k = 2 := (faultC_cases rp k).resolve_left h
theorem edit_p (ls : List RL) (i : Nat) (b : List RL) : (editR ls i b).map RL.p = edM (ls.map RL.p) i (b.map RL.p) := by
  unfold editR edM; simp
theorem r21_Send (rp rm : Int) (hok : okR rp rm) (h0 : FH) (a : Option Addr) (c : Nat) (ls : List RL) (k : LkT) (av : Option Addr) (cv : Nat) (x : List UInt8) (w : World) (hs : Sat h0 w) (hL : RLs h0 a c ls) (hx : BS h0 av cv x) (hl : ls.length ≤ 1024) :
    Spec Try.prog 14 #[.agg (poR a ls.length c rp rm).toArray, .agg (ltL k (.slice av x.length cv)).toArray] w [] h0 (fun v h' L' => ∃ a' c' ls', v = .tuple #[.agg (poR a' ls'.length c' rp rm).toArray, .int .i64 (sendM rp rm (ls.map RL.p) k x).1] ∧ L' = [] ∧ RLs h' a' c' ls' ∧ ls'.map RL.p = (sendM rp rm (ls.map RL.p) k x).2) := by
  have H := St.start hs
  have hS := hL.1
  have hln := hS.lenM
  have hlm : (ls.map RL.p).length = ls.length := List.length_map ..
  have hlr : (ls.map rlC).length = ls.length := List.length_map ..
  have g0 : (poR a (ls.map rlC).length c rp rm)[0 + 0]? = some (.slice a (ls.map rlC).length c) := rfl
  have g2 : (poR a (ls.map rlC).length c rp rm)[0 + 2]? = some (.int .i64 rm) := rfl
  have lp3 : (poR a (ls.map rlC).length c rp rm).length = 3 := rfl
  have q0 : (ltL k (.slice av x.length cv))[0 + 0]? = some (.int .u8 k.1.toNat) := rfl
  have q1 : (ltL k (.slice av x.length cv))[0 + 1]? = some (.int .u8 k.2.toNat) := rfl
  have q2 : (ltL k (.slice av x.length cv))[0 + 2]? = some (.slice av x.length cv) := rfl
  have lk3 : (ltL k (.slice av x.length cv)).length = 3 := rfl
  have hon := on_fault hok.1 k
  have hsd : sendM rp rm (ls.map RL.p) k x = if faultC rp k ≠ 0 then (2, ls.map RL.p) else if 5000 < x.length then (2, ls.map RL.p) else if rm ≤ ls.length then (10, ls.map RL.p) else (0, ls.map RL.p ++ [(k, x)]) := by
    unfold sendM sendC
    rw [hlm]
    by_cases h1 : faultC rp k ≠ 0
    · rw [if_pos h1, if_neg h1, if_pos h1, fault_two h1]
    · rw [if_neg h1, if_neg h1]
      by_cases h2 : 5000 < x.length
      · rw [if_pos h2, if_neg (by decide), if_pos h2]
      · rw [if_neg h2, if_neg h2]
        by_cases h3 : rm ≤ ls.length
        · rw [if_pos h3, if_neg (by decide), if_pos h3]
        · rw [if_neg h3, if_pos rfl, if_neg h3]
  rw [show ls.length = (ls.map rlC).length from hlr.symm]
  unfold Spec
  refine calls_of Try.func14 rfl Try.ntmps14 (by simp) ?_
  by_cases h1 : faultC rp k ≠ 0
  · rw [if_pos h1] at hsd
    rw [hsd]
    have hcon : decide (onC rp k) = false := decide_eq_false fun h => h1 (hon.1 h)
    have cO := fun w => hcon ▸ r21_on a (ls.map rlC).length c rp rm k w
    repeat' (first | ((first | refine WL.p rfl ?_ | refine WL.u ?_ | refine WL.g rfl rfl ?_ | refine WL.gu rfl ?_); first | (refine opk 1 rfl ?_; (refine ost_V H rfl (cO _) rfl ?_; clear H; intro wk H)) | refine pvQ ?_ | (refine opk 3 rfl ?_; (refine ost_cmp rfl rfl rfl rfl (fun hc => ?_) (fun hc => ?_) <;> (simp only [cmpP] at hc; try exact prIQ))) | (refine opk 4 rfl ?_; (refine ost_cmp rfl rfl rfl rfl (fun hc => ?_) (fun hc => ?_) <;> (simp only [cmpP] at hc; try exact prIQ))) | (refine opk 8 rfl ?_; first | (refine ost_store1 H rfl rfl vlQ gvQ ixQ (by first | decide | (simp; omega) | (simp; done) | omega) ?_; clear H; intro wk H; simp only [List.set_cons_zero, List.set_cons_succ, Nat.reduceAdd] at H) | (refine ost_storeW H rfl rfl rfl rfl lQ ixQ lQ okQ ?_; clear H; intro wk H; simp only [List.set_cons_zero, List.set_cons_succ, Nat.reduceAdd] at H)) | (refine opk 9 rfl ?_; first | (refine ost_boxq H rfl ?_; clear H; intro bk wk H) | (refine ost_allocA H rfl ?_; clear H; intro bk wk H) | (refine ost_build1 H rfl rfl rfl evQ lsQ rfl ?_; clear H; intro bk wk H))) | refine Wc.seq ?_ | refine then_n ?_ | refine WL.nil ?_ | refine Wc.region ?_ | refine Wc.block ?_ | refine then_r ?_ | refine then_e ?_ | refine inb_e rfl ?_ | refine inb_o rfl ?_ | refine inb_n ?_ | refine inb_r ?_ | refine Wc.skip ?_ | refine Wc.exit ?_ | refine Wc.ret ?_ | refine Wc.cond_true rfl ?_ | refine Wc.cond_false rfl ?_ | refine WL.skp rfl rfl ?_ | refine WL.sku rfl ?_)
    all_goals first | (exfalso; omega) | exact fn_ret2 (v2 := .int _ _) rfl (rv_cellA rfl rfl H.bI lQ) rfl ⟨_, _, H.picks (L' := []) [] rfl (by decide), a, c, ls, by rw [hlr], rfl, hL, rfl⟩
  rw [if_neg h1] at hsd
  have hcon : decide (onC rp k) = true := decide_eq_true (hon.2 (Classical.not_not.1 h1))
  have cO := fun w => hcon ▸ r21_on a (ls.map rlC).length c rp rm k w
  by_cases h2 : 5000 < x.length
  · rw [if_pos h2] at hsd
    rw [hsd]
    repeat' (first | ((first | refine WL.p rfl ?_ | refine WL.u ?_ | refine WL.g rfl rfl ?_ | refine WL.gu rfl ?_); first | (refine opk 1 rfl ?_; (refine ost_V H rfl (cO _) rfl ?_; clear H; intro wk H)) | refine pvQ ?_ | (refine opk 3 rfl ?_; (refine ost_cmp rfl rfl rfl rfl (fun hc => ?_) (fun hc => ?_) <;> (simp only [cmpP] at hc; try exact prIQ))) | (refine opk 4 rfl ?_; (refine ost_cmp rfl rfl rfl rfl (fun hc => ?_) (fun hc => ?_) <;> (simp only [cmpP] at hc; try exact prIQ))) | (refine opk 8 rfl ?_; first | (refine ost_store1 H rfl rfl vlQ gvQ ixQ (by first | decide | (simp; omega) | (simp; done) | omega) ?_; clear H; intro wk H; simp only [List.set_cons_zero, List.set_cons_succ, Nat.reduceAdd] at H) | (refine ost_storeW H rfl rfl rfl rfl lQ ixQ lQ okQ ?_; clear H; intro wk H; simp only [List.set_cons_zero, List.set_cons_succ, Nat.reduceAdd] at H)) | (refine opk 9 rfl ?_; first | (refine ost_boxq H rfl ?_; clear H; intro bk wk H) | (refine ost_allocA H rfl ?_; clear H; intro bk wk H) | (refine ost_build1 H rfl rfl rfl evQ lsQ rfl ?_; clear H; intro bk wk H))) | refine Wc.seq ?_ | refine then_n ?_ | refine WL.nil ?_ | refine Wc.region ?_ | refine Wc.block ?_ | refine then_r ?_ | refine then_e ?_ | refine inb_e rfl ?_ | refine inb_o rfl ?_ | refine inb_n ?_ | refine inb_r ?_ | refine Wc.skip ?_ | refine Wc.exit ?_ | refine Wc.ret ?_ | refine Wc.cond_true rfl ?_ | refine Wc.cond_false rfl ?_ | refine WL.skp rfl rfl ?_ | refine WL.sku rfl ?_)
    all_goals first | (exfalso; omega) | exact fn_ret2 (v2 := .int _ _) rfl (rv_cellA rfl rfl H.bI lQ) rfl ⟨_, _, H.picks (L' := []) [] rfl (by decide), a, c, ls, by rw [hlr], rfl, hL, rfl⟩
  rw [if_neg h2] at hsd
  by_cases h3 : rm ≤ ls.length
  · rw [if_pos h3] at hsd
    rw [hsd]
    repeat' (first | ((first | refine WL.p rfl ?_ | refine WL.u ?_ | refine WL.g rfl rfl ?_ | refine WL.gu rfl ?_); first | (refine opk 1 rfl ?_; (refine ost_V H rfl (cO _) rfl ?_; clear H; intro wk H)) | refine pvQ ?_ | (refine opk 3 rfl ?_; (refine ost_cmp rfl rfl rfl rfl (fun hc => ?_) (fun hc => ?_) <;> (simp only [cmpP] at hc; try exact prIQ))) | (refine opk 4 rfl ?_; (refine ost_cmp rfl rfl rfl rfl (fun hc => ?_) (fun hc => ?_) <;> (simp only [cmpP] at hc; try exact prIQ))) | (refine opk 8 rfl ?_; first | (refine ost_store1 H rfl rfl vlQ gvQ ixQ (by first | decide | (simp; omega) | (simp; done) | omega) ?_; clear H; intro wk H; simp only [List.set_cons_zero, List.set_cons_succ, Nat.reduceAdd] at H) | (refine ost_storeW H rfl rfl rfl rfl lQ ixQ lQ okQ ?_; clear H; intro wk H; simp only [List.set_cons_zero, List.set_cons_succ, Nat.reduceAdd] at H)) | (refine opk 9 rfl ?_; first | (refine ost_boxq H rfl ?_; clear H; intro bk wk H) | (refine ost_allocA H rfl ?_; clear H; intro bk wk H) | (refine ost_build1 H rfl rfl rfl evQ lsQ rfl ?_; clear H; intro bk wk H))) | refine Wc.seq ?_ | refine then_n ?_ | refine WL.nil ?_ | refine Wc.region ?_ | refine Wc.block ?_ | refine then_r ?_ | refine then_e ?_ | refine inb_e rfl ?_ | refine inb_o rfl ?_ | refine inb_n ?_ | refine inb_r ?_ | refine Wc.skip ?_ | refine Wc.exit ?_ | refine Wc.ret ?_ | refine Wc.cond_true rfl ?_ | refine Wc.cond_false rfl ?_ | refine WL.skp rfl rfl ?_ | refine WL.sku rfl ?_)
    all_goals first | (exfalso; omega) | exact fn_ret2 (v2 := .int _ _) rfl (rv_cellA rfl rfl H.bI lQ) rfl ⟨_, _, H.picks (L' := []) [] rfl (by decide), a, c, ls, by rw [hlr], rfl, hL, rfl⟩
  rw [if_neg h3] at hsd
  rw [hsd]
  have hro := hL.one
  have hr1 := rlC_len ls
  have hst : (ls ++ [(⟨k, .slice av x.length cv, x⟩ : RL)]).map rlC = ls.map rlC ++ [ltL k (.slice av x.length cv)] := by rw [List.map_append]; rfl
  have hmp : (ls ++ [(⟨k, .slice av x.length cv, x⟩ : RL)]).map RL.p = ls.map RL.p ++ [(k, x)] := by rw [List.map_append]; rfl
  have hln2 : (ls ++ [(⟨k, .slice av x.length cv, x⟩ : RL)]).length = ls.length + 1 := by simp
  have hr9 : ∀ u ∈ ltL k (.slice av x.length cv), u.oneCell' = true := allOne_of rfl
  have hall : ∀ {h' : FH}, FLe h0 h' → ∀ e ∈ ls ++ [(⟨k, .slice av x.length cv, x⟩ : RL)], BSv h' e.v e.x := fun hle e he => by
    rcases List.mem_append.1 he with h9 | h9
    · exact (hL.2 e h9).mono hle
    · obtain rfl := List.mem_singleton.1 h9
      exact ⟨av, cv, rfl, hx.mono hle⟩
  generalize ltL k (.slice av x.length cv) = row at q0 q1 q2 lk3 hst hr9 ⊢
  have hM : Sl h0 3 a c (ls.map rlC) := hS
  generalize hR : ls.map rlC = R at hM hro hr1 hst hlr g0 g2 lp3 cO ⊢
  repeat' (first | ((first | refine WL.p rfl ?_ | refine WL.u ?_ | refine WL.g rfl rfl ?_ | refine WL.gu rfl ?_); first | (refine opk 1 rfl ?_; first | (refine ost_V H rfl (cO _) rfl ?_; clear H; intro wk H) | (refine ost_appRs (rows := []) (more := R) H rfl rfl rfl (by (exact ixQ)) (Sl.mono H.sat.le hM) (by rfl) (by decide) hro rfl (by simp; omega) ?_; clear H; intro aa ca wk H; simp only [List.set_cons_zero, List.set_cons_succ, List.nil_append] at H) | (refine ost_appR (rows := R) (row := row) H rfl rfl rfl (by (exact ixQ)) (by (exact ixQ)) (by rfl) (by decide) lk3 hr9 rfl (by omega) ?_; clear H; intro aa ca wk H; simp only [List.set_cons_zero, List.set_cons_succ] at H)) | (refine opk 9 rfl ?_; first | (refine ost_buildR (rows := []) H rfl (by decide) rfl (by rfl) evP_nil .nil rfl (by simp) ?_; clear H; intro bk wk H) | (refine ost_buildR (rows := [row]) H rfl (by decide) rfl (by rfl) (evP1 vxQ) (.cons rfl .nil) rfl (by simpa using lk3) ?_; clear H; intro bk wk H)) | refine pvQ ?_ | (refine opk 3 rfl ?_; (refine ost_cmp rfl rfl rfl rfl (fun hc => ?_) (fun hc => ?_) <;> (simp only [cmpP] at hc; try exact prIQ))) | (refine opk 4 rfl ?_; (refine ost_cmp rfl rfl rfl rfl (fun hc => ?_) (fun hc => ?_) <;> (simp only [cmpP] at hc; try exact prIQ))) | (refine opk 8 rfl ?_; first | (refine ost_store1 H rfl rfl vlQ gvQ ixQ (by first | decide | (simp; omega) | (simp; done) | omega) ?_; clear H; intro wk H; simp only [List.set_cons_zero, List.set_cons_succ, Nat.reduceAdd] at H) | (refine ost_storeW H rfl rfl rfl rfl lQ ixQ lQ okQ ?_; clear H; intro wk H; simp only [List.set_cons_zero, List.set_cons_succ, Nat.reduceAdd] at H)) | (refine opk 9 rfl ?_; first | (refine ost_boxq H rfl ?_; clear H; intro bk wk H) | (refine ost_allocA H rfl ?_; clear H; intro bk wk H) | (refine ost_build1 H rfl rfl rfl evQ lsQ rfl ?_; clear H; intro bk wk H))) | refine Wc.seq ?_ | refine then_n ?_ | refine WL.nil ?_ | refine Wc.region ?_ | refine Wc.block ?_ | refine then_r ?_ | refine then_e ?_ | refine inb_e rfl ?_ | refine inb_o rfl ?_ | refine inb_n ?_ | refine inb_r ?_ | refine Wc.skip ?_ | refine Wc.exit ?_ | refine Wc.ret ?_ | refine Wc.cond_true rfl ?_ | refine Wc.cond_false rfl ?_ | refine WL.skp rfl rfl ?_ | refine WL.sku rfl ?_)
  all_goals first | (exfalso; omega) | skip
  have hRl : (R ++ [row]).length = (ls ++ [(⟨k, .slice av x.length cv, x⟩ : RL)]).length := by rw [← hst, List.length_map]
  obtain ⟨a5, c5, h5, e5, hle5, hS5, H9⟩ := (H.front 1 rfl).freezeR (by rw [← hst]; exact rlC_len _)
  injection e5 with e51 e52 e53
  subst e51; subst e53
  clear H
  have H := H9
  clear H9
  simp only [List.eraseIdx_cons_zero, List.eraseIdx_cons_succ] at H
  rw [← hst] at hS5
  refine fn_ret2 (v2 := .int _ _) rfl (rv_cellA rfl rfl H.bI lQ) rfl ⟨_, _, H.picks (L' := []) [] rfl (by decide), aa, ca, ls ++ [(⟨k, .slice av x.length cv, x⟩ : RL)], by rw [hRl], rfl, ⟨hS5, hall hle5⟩, hmp⟩
theorem r21_Waits (rp rm : Int) (h0 : FH) (a : Option Addr) (c : Nat) (ls : List RL) (k : LkT) (w : World) (hs : Sat h0 w) (hL : RLs h0 a c ls) (hl : ls.length ≤ 1024) :
    Spec Try.prog 19 #[.agg (poR a ls.length c rp rm).toArray, .int .u8 k.1.toNat, .int .u8 k.2.toNat] w [] h0 (fun v h' L' => ∃ a' c' lv', v = .slice a' lv'.length c' ∧ L' = [] ∧ LsF h' a' c' lv' ∧ lv'.map (·.2) = lsF (ls.map RL.p) k) := by
  have H := St.start hs
  have hS := hL.1
  have hln := hS.lenM
  have g0 : (poR a ls.length c rp rm)[0 + 0]? = some (.slice a ls.length c) := rfl
  unfold Spec
  refine calls_of Try.func19 rfl Try.ntmps19 (by simp) ?_
  repeat' (first | ((first | refine WL.p rfl ?_ | refine WL.u ?_ | refine WL.g rfl rfl ?_ | refine WL.gu rfl ?_); first | refine pvQ ?_ | (refine opk 3 rfl ?_; (refine ost_cmp rfl rfl rfl rfl (fun hc => ?_) (fun hc => ?_) <;> (simp only [cmpP] at hc; try exact prIQ))) | (refine opk 4 rfl ?_; (refine ost_cmp rfl rfl rfl rfl (fun hc => ?_) (fun hc => ?_) <;> (simp only [cmpP] at hc; try exact prIQ))) | (refine opk 9 rfl ?_; first | (refine ost_boxq H rfl ?_; clear H; intro bk wk H) | (refine ost_build1 H rfl rfl rfl evQ lsQ rfl ?_; clear H; intro bk wk H))) | refine Wc.seq ?_ | refine then_n ?_ | refine WL.nil ?_ | refine Wc.region ?_ | refine Wc.block ?_ | refine then_r ?_ | refine then_e ?_ | refine inb_e rfl ?_ | refine inb_o rfl ?_ | refine inb_n ?_ | refine inb_r ?_ | refine Wc.skip ?_ | refine Wc.exit ?_ | refine Wc.ret ?_ | refine Wc.cond_true rfl ?_ | refine Wc.cond_false rfl ?_ | refine WL.skp rfl rfl ?_ | refine WL.sku rfl ?_)
  obtain ⟨bp, ebp⟩ := H.nameB idx0
  subst ebp
  have H2 : St w [] h0 h0 [ownR (.slice none (([] : List (Value × List UInt8)).map fun x => [x.1]).length 0) 31 1 (([] : List (Value × List UInt8)).map fun x => [x.1]), .blk bp (.cells (poR a ls.length c rp rm).toArray 29 (0, 0))] _ := H.nilOwn 31 1
  refine Wc.loopE (fun s0 m s w' => ∃ (i : Nat) (lv' : List (Value × List UInt8)) (a1 : Option Addr) (c1 : Nat), m = ls.length - i ∧ i ≤ ls.length ∧ Agree [7, 8, 9, 10, 11, 12, 13, 14, 15, 16, 17, 18, 19, 20, 21, 22, 23, 24, 25, 26, 27, 28, 29, 30, 31, 32, 33, 34, 35, 36, 37, 38, 39, 40, 41, 42] s s0 ∧ s 8 = .int .i64 i ∧ s 7 = .slice a1 (lv'.map fun x => [x.1]).length c1 ∧ lv'.map (·.2) = lsF ((ls.take i).map RL.p) k ∧ (∀ x ∈ lv', BSv h0 x.1 x.2) ∧
    St w [] h0 h0 [ownR (.slice a1 (lv'.map fun x => [x.1]).length c1) 31 1 (lv'.map fun x => [x.1]), .blk bp (.cells (poR a ls.length c rp rm).toArray 29 (0, 0))] w') ls.length ⟨0, [], none, 0, rfl, by omega, Agree.refl _ _, rfl, rfl, rfl, fun x h => (List.not_mem_nil h).elim, H2⟩ ?_
  clear H H2
  rintro m s w' ⟨i, lv', a1, c1, rfl, hi, hA9, e1, e2, hlv, hbv, H⟩
  obtain ⟨j, rfl⟩ := hA9.env2 e1 e2
  clear hA9 e1 e2
  have hrl : (lv'.map fun x => [x.1]).length = lv'.length := List.length_map ..
  have hll : lv'.length ≤ i := by
    have h1 := congrArg List.length hlv
    have h2 := lsF_len ((ls.take i).map RL.p) k
    rw [List.length_map] at h1
    rw [List.length_map, List.length_take] at h2
    omega
  by_cases hlt : i < ls.length
  · obtain ⟨b, off, l, T, fr, e1, eb, eg⟩ := hS.getM (by decide) (Nat.lt_of_le_of_lt (Nat.zero_le _) hlt)
    subst e1
    have g9 := eg (i : Int).toNat i hlt (by omega)
    have gA : l[off + (i : Int).toNat * 3 + 0]? = some (.int .u8 ls[i].k.1.toNat) := row_cell g9 (q := 0) (by simp [rlC])
    have gB : l[off + (i : Int).toNat * 3 + 1]? = some (.int .u8 ls[i].k.2.toNat) := row_cell g9 (q := 1) (by simp [rlC])
    have gC : l[off + (i : Int).toNat * 3 + 2]? = some ls[i].v := row_cell g9 (q := 2) (by simp [rlC])
    obtain ⟨a8, c8, e8, hr8⟩ := hL.2 _ (List.getElem_mem hlt)
    have hst : (ls.take (i + 1)).map RL.p = (ls.take i).map RL.p ++ [RL.p ls[i]] := by
      rw [List.take_add_one, List.getElem?_eq_getElem hlt, List.map_append]; rfl
    clear eg g9
    by_cases hk : ls[i].k = k
    · have hst2 : lsF ((ls.take (i + 1)).map RL.p) k = lsF ((ls.take i).map RL.p) k ++ [ls[i].x] := by
        rw [hst, lsF_app, lsF_eq (show (RL.p ls[i]).1 = k from hk)]; rfl
      rw [hk] at gA gB
      rw [e8] at gC
      generalize ls[i].x = x at gC hr8 hst2
      have hr1 := rows_one lv'
      have hR2 : (lv' ++ [(Value.slice a8 x.length c8, x)]).map (fun x => [x.1]) = lv'.map (fun x => [x.1]) ++ [[Value.slice a8 x.length c8]] := by rw [List.map_append]; rfl
      generalize lv'.map (fun x => [x.1]) = R at H hrl hr1 hR2 ⊢
      repeat' (first | ((first | refine WL.p rfl ?_ | refine WL.u ?_ | refine WL.g rfl rfl ?_ | refine WL.gu rfl ?_); first | (refine opk 1 rfl ?_; (refine ost_appR (rows := R) (row := [Value.slice a8 x.length c8]) H rfl rfl rfl (by (exact ixQ)) (by (exact ixQ)) (by rfl) (by first | simp; done | exact Nat.succ_pos _) rfl (allOne_of rfl) rfl (by omega) ?_; clear H; intro aa ca wk H; simp only [List.set_cons_zero, List.set_cons_succ] at H)) | (refine opk 9 rfl ?_; (refine ost_buildR (rows := [[Value.slice a8 x.length c8]]) H rfl (by decide) rfl (by rfl) (evP1 vxQ) (.cons rfl .nil) rfl (fun r hr => by rw [List.mem_singleton.1 hr]; rfl) ?_; clear H; intro bk wk H)) | refine pvQ ?_ | (refine opk 3 rfl ?_; (refine ost_cmp rfl rfl rfl rfl (fun hc => ?_) (fun hc => ?_) <;> (simp only [cmpP] at hc; try exact prIQ))) | (refine opk 4 rfl ?_; (refine ost_cmp rfl rfl rfl rfl (fun hc => ?_) (fun hc => ?_) <;> (simp only [cmpP] at hc; try exact prIQ))) | (refine opk 9 rfl ?_; first | (refine ost_boxq H rfl ?_; clear H; intro bk wk H) | (refine ost_build1 H rfl rfl rfl evQ lsQ rfl ?_; clear H; intro bk wk H))) | refine Wc.seq ?_ | refine then_n ?_ | refine WL.nil ?_ | refine Wc.region ?_ | refine Wc.block ?_ | refine then_r ?_ | refine then_e ?_ | refine inb_e rfl ?_ | refine inb_o rfl ?_ | refine inb_n ?_ | refine inb_r ?_ | refine Wc.skip ?_ | refine Wc.exit ?_ | refine Wc.ret ?_ | refine Wc.cond_true rfl ?_ | refine Wc.cond_false rfl ?_ | refine WL.skp rfl rfl ?_ | refine WL.sku rfl ?_)
      all_goals first | (exfalso; omega) | skip
      rw [← hR2] at H
      refine ⟨ls.length - (i + 1), by omega, i + 1, lv' ++ [(Value.slice a8 x.length c8, x)], aa, ca, rfl, by omega, by (repeat' (first | exact Agree.refl _ _ | exact Agree.havoc | refine Agree.upd rfl ?_ | refine Agree.hav2 rfl ?_)), rfl, by rw [hR2]; rfl, by rw [List.map_append, hlv, hst2]; rfl, fun y hy => ?_, H.picks [1, 2] rfl (by decide)⟩
      rcases List.mem_append.1 hy with h9 | h9
      · exact hbv y h9
      · obtain rfl := List.mem_singleton.1 h9
        exact ⟨a8, c8, rfl, hr8⟩
    · have hst2 : lsF ((ls.take (i + 1)).map RL.p) k = lsF ((ls.take i).map RL.p) k := by
        rw [hst, lsF_app, lsF_ne (show ¬ (RL.p ls[i]).1 = k from hk), lsF_nil, List.append_nil]
      have hkk : ls[i].k.1.toNat ≠ k.1.toNat ∨ ls[i].k.2.toNat ≠ k.2.toNat := Classical.byContradiction fun h => hk (Prod.ext (UInt8.toNat_inj.1 (by omega)) (UInt8.toNat_inj.1 (by omega)))
      generalize ls[i].k.1.toNat = u at gA hkk
      generalize ls[i].k.2.toNat = v at gB hkk
      repeat' (first | ((first | refine WL.p rfl ?_ | refine WL.u ?_ | refine WL.g rfl rfl ?_ | refine WL.gu rfl ?_); first | refine pvQ ?_ | (refine opk 3 rfl ?_; (refine ost_cmp rfl rfl rfl rfl (fun hc => ?_) (fun hc => ?_) <;> (simp only [cmpP] at hc; try exact prIQ))) | (refine opk 4 rfl ?_; (refine ost_cmp rfl rfl rfl rfl (fun hc => ?_) (fun hc => ?_) <;> (simp only [cmpP] at hc; try exact prIQ))) | (refine opk 9 rfl ?_; first | (refine ost_boxq H rfl ?_; clear H; intro bk wk H) | (refine ost_build1 H rfl rfl rfl evQ lsQ rfl ?_; clear H; intro bk wk H))) | refine Wc.seq ?_ | refine then_n ?_ | refine WL.nil ?_ | refine Wc.region ?_ | refine Wc.block ?_ | refine then_r ?_ | refine then_e ?_ | refine inb_e rfl ?_ | refine inb_o rfl ?_ | refine inb_n ?_ | refine inb_r ?_ | refine Wc.skip ?_ | refine Wc.exit ?_ | refine Wc.ret ?_ | refine Wc.cond_true rfl ?_ | refine Wc.cond_false rfl ?_ | refine WL.skp rfl rfl ?_ | refine WL.sku rfl ?_)
      all_goals first | (exfalso; omega) | skip
      all_goals exact ⟨ls.length - (i + 1), by omega, i + 1, lv', a1, c1, rfl, by omega, by (repeat' (first | exact Agree.refl _ _ | exact Agree.havoc | refine Agree.upd rfl ?_ | refine Agree.hav2 rfl ?_)), rfl, rfl, by rw [hlv, hst2], hbv, H⟩
  · obtain rfl : i = ls.length := by omega
    rw [List.take_length] at hlv
    repeat' (first | ((first | refine WL.p rfl ?_ | refine WL.u ?_ | refine WL.g rfl rfl ?_ | refine WL.gu rfl ?_); first | refine pvQ ?_ | (refine opk 3 rfl ?_; (refine ost_cmp rfl rfl rfl rfl (fun hc => ?_) (fun hc => ?_) <;> (simp only [cmpP] at hc; try exact prIQ))) | (refine opk 4 rfl ?_; (refine ost_cmp rfl rfl rfl rfl (fun hc => ?_) (fun hc => ?_) <;> (simp only [cmpP] at hc; try exact prIQ))) | (refine opk 9 rfl ?_; first | (refine ost_boxq H rfl ?_; clear H; intro bk wk H) | (refine ost_build1 H rfl rfl rfl evQ lsQ rfl ?_; clear H; intro bk wk H))) | refine Wc.seq ?_ | refine then_n ?_ | refine WL.nil ?_ | refine Wc.region ?_ | refine Wc.block ?_ | refine then_r ?_ | refine then_e ?_ | refine inb_e rfl ?_ | refine inb_o rfl ?_ | refine inb_n ?_ | refine inb_r ?_ | refine Wc.skip ?_ | refine Wc.exit ?_ | refine Wc.ret ?_ | refine Wc.cond_true rfl ?_ | refine Wc.cond_false rfl ?_ | refine WL.skp rfl rfl ?_ | refine WL.sku rfl ?_)
    obtain ⟨a5, c5, h5, e5, hle5, hS5, H9⟩ := H.freezeR (rows_one lv')
    injection e5 with e51 e52 e53
    subst e51; subst e53
    exact fn_ret1 (v := .slice _ _ _) rfl rfl ⟨_, _, H9.picks (L' := []) [] rfl (by decide), a1, c1, lv', by rw [hrl], rfl, ⟨hS5, fun x hx => (hbv x hx).mono hle5⟩, hlv⟩
end Go.Tg

