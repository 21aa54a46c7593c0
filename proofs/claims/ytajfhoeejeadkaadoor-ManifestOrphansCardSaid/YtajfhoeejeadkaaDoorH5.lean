/- Contracts of Go functions that the laws reach: what each call answers and leaves in memory, for all arguments within the bounds that each theorem names. -/
import Derived.Test.YtajfhoeejeadkaaDoorInst
import Derived.Test.YtajfhoeejeadkaaDoorAuto
import Derived.Test.YtajfhoeejeadkaaDoorL5
set_option linter.unusedVariables false
set_option linter.unusedSimpArgs false
set_option maxRecDepth 100000
set_option maxHeartbeats 4000000
namespace Go.Tg
open Go Go.Proofs
section
variable {H : Type} {enc : TypeId × Value → H} {W : World} {sp : Nat → Bool}
theorem man_of {cs : List Value} (h : Td enc Tryd.prog W sp 93 cs) : ∃ (m : ManT) (A : MAd), cs = mnV m A ∧ MnR (full W) m A := by
  obtain ⟨hl, hf⟩ := h.struct (fs := [{ name := "Version", type := 91, offset := 0, embedded := false, tag := "", pkgPath := "", byteOffset := 0 }, { name := "Floor", type := 65, offset := 1, embedded := false, tag := "", pkgPath := "", byteOffset := 8 }, { name := "Base", type := 28, offset := 17, embedded := false, tag := "", pkgPath := "", byteOffset := 72 }, { name := "Segs", type := 24, offset := 18, embedded := false, tag := "", pkgPath := "", byteOffset := 80 }, { name := "Next", type := 28, offset := 19, embedded := false, tag := "", pkgPath := "", byteOffset := 104 }]) Tryd.underlying93
  rw [show Program.cellsOf Tryd.prog 93 = 20 from by kernel_rfl] at hl
  match cs, hl with
  | [v0, v1, v2, v3, v4, v5, v6, v7, v8, v9, v10, v11, v12, v13, v14, v15, v16, v17, v18, v19], _ =>
    have h0 := hf _ (List.mem_cons_self ..)
    have h1 := hf _ (List.mem_cons_of_mem _ (List.mem_cons_self ..))
    have h2 := hf _ (List.mem_cons_of_mem _ (List.mem_cons_of_mem _ (List.mem_cons_self ..)))
    have h3 := hf _ (List.mem_cons_of_mem _ (List.mem_cons_of_mem _ (List.mem_cons_of_mem _ (List.mem_cons_self ..))))
    have h4 := hf _ (List.mem_cons_of_mem _ (List.mem_cons_of_mem _ (List.mem_cons_of_mem _ (List.mem_cons_of_mem _ (List.mem_cons_self ..)))))
    rw [show Program.cellsOf Tryd.prog _ = 1 from by kernel_rfl] at h0 h2 h3 h4
    rw [show Program.cellsOf Tryd.prog _ = 16 from by kernel_rfl] at h1
    obtain ⟨n0, e0, k0⟩ := h0.nat Tryd.underlying91 rfl
    obtain ⟨v, e1⟩ := vec_of h1
    obtain ⟨n2, e2, k2⟩ := h2.nat Tryd.underlying28 rfl
    obtain ⟨a, c, rows, e3, r3, t3⟩ := h3.slice Tryd.underlying24 (sz := 1) (by kernel_rfl) (by decide)
    obtain ⟨n4, e4, k4⟩ := h4.nat Tryd.underlying28 rfl
    obtain ⟨segs, rfl⟩ := rows_map cKid fun r hr => kid_of (t3 r hr)
    simp only [inK] at k0 k2 k4
    simp only [List.drop_zero, List.drop_succ_cons, List.take_succ_cons, List.take_zero, List.cons.injEq, and_true] at e0 e1 e2 e3 e4
    subst e0; subst e2; subst e3; subst e4
    refine ⟨⟨UInt64.ofNat n0, v, UInt32.ofNat n2, segs, UInt32.ofNat n4⟩, ⟨a, c⟩, ?_, r3⟩
    unfold mnV mnL
    rw [← e1]
    simp
    omega
end
end Go.Tg

set_option linter.unusedVariables false
set_option linter.unusedSimpArgs false
set_option maxRecDepth 100000
set_option maxHeartbeats 4000000
namespace Go.Tg
open Go Go.Proofs
section
variable {H : Type} {enc : TypeId × Value → H} {W : World} {sp : Nat → Bool}
theorem str_of {row : List Value} (h : Td enc Tryd.prog W sp 9 row) : ∃ s, row = cStr s := by
  obtain ⟨s, e, -⟩ := h.str Tryd.underlying9
  exact ⟨s, e⟩
theorem strs_of {cs : List Value} (h : Td enc Tryd.prog W sp 107 cs) : ∃ (a : Option Addr) (c : Nat) (l : List (List UInt8)), cs = [.slice a l.length c] ∧ Sl (full W) 1 a c (l.map cStr) := by
  obtain ⟨a, c, rows, e, r, t⟩ := h.slice Tryd.underlying107 (sz := 1) (by kernel_rfl) (by decide)
  obtain ⟨l, rfl⟩ := rows_mapO cStr fun r hr => str_of (t r hr)
  exact ⟨a, c, l, by rw [e, List.length_map], r⟩
end
theorem need_mem {m : ManT} {x : List UInt8} : x ∈ needM m ↔ x = manW ∨ (∃ s ∈ m.segs, x = segW s.toNat) ∨ (m.base.toNat ≠ 0 ∧ x = baseW m.base.toNat) := by
  unfold needM
  simp only [List.mem_append, List.mem_singleton, List.mem_map]
  constructor
  · rintro ((h | ⟨s, hs, rfl⟩) | h)
    · exact .inl h
    · exact .inr (.inl ⟨s, hs, rfl⟩)
    · split at h
      · cases h
      · exact .inr (.inr ⟨‹_›, List.mem_singleton.1 h⟩)
  · rintro (h | ⟨s, hs, rfl⟩ | ⟨h1, h2⟩)
    · exact .inl (.inl h)
    · exact .inl (.inr ⟨s, hs, rfl⟩)
    · rw [if_neg h1]; exact .inr (List.mem_singleton.2 h2)
theorem r16_needed (m : ManT) (A : MAd) (x : List UInt8) (h0 : FH) (w : World) (hs : Sat h0 w) (hT : Pow h0) (hP : MnR h0 m A) : SpecV Tryd.prog 107 #[.agg (mnV m A).toArray, .string (bstr x)] w (.bool (decide (x ∈ needM m))) := by
  have H := St.start hs
  have hm := @need_mem m x
  have hX : ∀ q, decide (x ∈ needM m) = q ↔ (q = true ↔ x ∈ needM m) := fun q => by cases q <;> simp
  generalize hR : decide (x ∈ needM m) = R
  have hR := (hX R).1 hR
  rw [hm] at hR
  clear hX hm
  obtain ⟨ver, flr, base, segs, next⟩ := m
  obtain ⟨a, c⟩ := A
  rw [show mnV ⟨ver, flr, base, segs, next⟩ ⟨a, c⟩ = mnL ver flr base segs.length next a c from rfl]
  have lm := mnL_len ver flr base segs.length next a c
  have q17 := mnL_17 ver flr base segs.length next a c
  have q18 := mnL_18 ver flr base segs.length next a c
  have u1 := base.toNat_lt
  have hP : Sl h0 1 a c (segs.map cKid) := hP
  have qc := hP.lenM
  have hBN := r16_BaseName base h0
  dsimp only at hR
  unfold SpecV
  refine calls_of Tryd.func107 rfl Tryd.ntmps107 (by simp) ?_
  repeat' (first | ((first | refine WL.p rfl ?_ | refine WL.u ?_ | refine WL.g rfl rfl ?_ | refine WL.gu rfl ?_); first | refine pvQ ?_ | (refine opk 3 rfl ?_; first | (refine ost_cmp rfl rfl rfl rfl (fun hc => ?_) (fun hc => ?_) <;> (simp only [cmpP] at hc; try exact prIQ)) | (refine ost_streqB rfl rfl rfl (fun hc => ?_) (fun hc => ?_) <;> try exact prEQ) | (refine ost_strneB rfl rfl rfl (fun hc => ?_) (fun hc => ?_) <;> try exact prEQ) | (refine ost_streq rfl rfl rfl (fun hc => ?_) (fun hc => ?_) <;> try exact absurd rfl hc) | (refine ost_strne rfl rfl rfl (fun hc => ?_) (fun hc => ?_))) | (refine opk 4 rfl ?_; (refine ost_cmp rfl rfl rfl rfl (fun hc => ?_) (fun hc => ?_) <;> (simp only [cmpP] at hc; try exact prIQ))) | (refine opk 9 rfl ?_; (refine ost_boxq H rfl ?_; clear H; intro bk wk H))) | refine Wc.seq ?_ | refine then_n ?_ | refine WL.nil ?_ | refine Wc.region ?_ | refine Wc.block ?_ | refine then_r ?_ | refine then_e ?_ | refine inb_e rfl ?_ | refine inb_o rfl ?_ | refine inb_n ?_ | refine inb_r ?_ | refine Wc.skip ?_ | refine Wc.exit ?_ | refine Wc.ret ?_ | refine Wc.cond_true rfl ?_ | refine Wc.cond_false rfl ?_ | refine WL.skp rfl rfl ?_ | refine WL.sku rfl ?_)
  obtain ⟨bm, ebm⟩ := H.nameB idx0
  subst ebm
  refine Wc.loopE (fun s0 n s w' => ∃ k : Nat, n = segs.length - k ∧ k ≤ segs.length ∧ Agree [4, 5, 6, 7, 8, 9, 10, 11, 12, 13, 14, 15, 16, 17, 18, 19, 20] s s0 ∧ s 5 = .int .i64 k ∧ (∀ j (h : j < segs.length), j < k → x ≠ segW segs[j].toNat) ∧
    St w [] h0 h0 [.blk bm (.cells (mnL ver flr base segs.length next a c).toArray 93 (0, 0))] w') segs.length ⟨0, rfl, by omega, Agree.refl _ _, rfl, fun j _ h => absurd h (by omega), H⟩ ?_
  clear H
  rintro n s w' ⟨k, rfl, hk, hA9, e1, hno, H⟩
  obtain ⟨j, rfl⟩ := hA9.env1 e1
  clear hA9 e1
  by_cases hlt : k < segs.length
  · obtain ⟨b', off, l, T, fr, e1, eb, eg⟩ := hP.getM (by decide) (Nat.lt_of_le_of_lt (Nat.zero_le _) hlt)
    subst e1
    have g1 : l[off + (k : Int).toNat * 1]? = some (.int .u32 segs[k].toNat) := row_cell (eg (k : Int).toNat k hlt (by omega)) (q := 0) (by simp [cKid])
    clear eg
    have hSN := r16_SegName segs[k] h0
    by_cases hx : x = segW segs[k].toNat
    · have hRt : R = true := hR.2 (.inr (.inl ⟨segs[k], List.getElem_mem hlt, hx⟩))
      subst hRt
      repeat' (first | ((first | refine WL.p rfl ?_ | refine WL.u ?_ | refine WL.g rfl rfl ?_ | refine WL.gu rfl ?_); first | (refine opk 1 rfl ?_; (refine ost_V H rfl (hSN _ H.sat hT) rfl ?_; clear H; intro wk H)) | (refine opk 3 rfl ?_; (refine ost_streqD (q := true) (a := x) (b := segW segs[k].toNat) rfl rfl rfl (by simp [hx]) ?_)) | refine pvQ ?_ | (refine opk 3 rfl ?_; first | (refine ost_cmp rfl rfl rfl rfl (fun hc => ?_) (fun hc => ?_) <;> (simp only [cmpP] at hc; try exact prIQ)) | (refine ost_streqB rfl rfl rfl (fun hc => ?_) (fun hc => ?_) <;> try exact prEQ) | (refine ost_strneB rfl rfl rfl (fun hc => ?_) (fun hc => ?_) <;> try exact prEQ) | (refine ost_streq rfl rfl rfl (fun hc => ?_) (fun hc => ?_) <;> try exact absurd rfl hc) | (refine ost_strne rfl rfl rfl (fun hc => ?_) (fun hc => ?_))) | (refine opk 4 rfl ?_; (refine ost_cmp rfl rfl rfl rfl (fun hc => ?_) (fun hc => ?_) <;> (simp only [cmpP] at hc; try exact prIQ))) | (refine opk 9 rfl ?_; (refine ost_boxq H rfl ?_; clear H; intro bk wk H))) | refine Wc.seq ?_ | refine then_n ?_ | refine WL.nil ?_ | refine Wc.region ?_ | refine Wc.block ?_ | refine then_r ?_ | refine then_e ?_ | refine inb_e rfl ?_ | refine inb_o rfl ?_ | refine inb_n ?_ | refine inb_r ?_ | refine Wc.skip ?_ | refine Wc.exit ?_ | refine Wc.ret ?_ | refine Wc.cond_true rfl ?_ | refine Wc.cond_false rfl ?_ | refine WL.skp rfl rfl ?_ | refine WL.sku rfl ?_)
      (first | refine fn_ret1 (v := .bool _) rfl rfl ⟨?_, H.fr⟩ | refine fn_ret1 (v := .int _ _) rfl rfl ⟨?_, H.fr⟩ | refine fn_ret1 (v := .string _) rfl rfl ⟨?_, H.fr⟩); rfl
    · repeat' (first | ((first | refine WL.p rfl ?_ | refine WL.u ?_ | refine WL.g rfl rfl ?_ | refine WL.gu rfl ?_); first | (refine opk 1 rfl ?_; (refine ost_V H rfl (hSN _ H.sat hT) rfl ?_; clear H; intro wk H)) | (refine opk 3 rfl ?_; (refine ost_streqD (q := false) (a := x) (b := segW segs[k].toNat) rfl rfl rfl (by simp [hx]) ?_)) | refine pvQ ?_ | (refine opk 3 rfl ?_; first | (refine ost_cmp rfl rfl rfl rfl (fun hc => ?_) (fun hc => ?_) <;> (simp only [cmpP] at hc; try exact prIQ)) | (refine ost_streqB rfl rfl rfl (fun hc => ?_) (fun hc => ?_) <;> try exact prEQ) | (refine ost_strneB rfl rfl rfl (fun hc => ?_) (fun hc => ?_) <;> try exact prEQ) | (refine ost_streq rfl rfl rfl (fun hc => ?_) (fun hc => ?_) <;> try exact absurd rfl hc) | (refine ost_strne rfl rfl rfl (fun hc => ?_) (fun hc => ?_))) | (refine opk 4 rfl ?_; (refine ost_cmp rfl rfl rfl rfl (fun hc => ?_) (fun hc => ?_) <;> (simp only [cmpP] at hc; try exact prIQ))) | (refine opk 9 rfl ?_; (refine ost_boxq H rfl ?_; clear H; intro bk wk H))) | refine Wc.seq ?_ | refine then_n ?_ | refine WL.nil ?_ | refine Wc.region ?_ | refine Wc.block ?_ | refine then_r ?_ | refine then_e ?_ | refine inb_e rfl ?_ | refine inb_o rfl ?_ | refine inb_n ?_ | refine inb_r ?_ | refine Wc.skip ?_ | refine Wc.exit ?_ | refine Wc.ret ?_ | refine Wc.cond_true rfl ?_ | refine Wc.cond_false rfl ?_ | refine WL.skp rfl rfl ?_ | refine WL.sku rfl ?_)
      exact ⟨segs.length - (k + 1), by omega, k + 1, rfl, by omega, by (repeat' (first | exact Agree.refl _ _ | exact Agree.havoc | refine Agree.upd rfl ?_ | refine Agree.hav2 rfl ?_)), rfl, fun j h1 h2 => (by
        by_cases e : j = k
        · subst e; exact hx
        · exact hno j h1 (by omega)), H⟩
  · have hno2 : ¬ ∃ s ∈ segs, x = segW s.toNat := fun ⟨s, h1, h2⟩ => by
      obtain ⟨j, h3, rfl⟩ := List.getElem_of_mem h1
      exact hno j h3 (by omega) h2
    by_cases hx : x = manW
    · have hRt : R = true := hR.2 (.inl hx)
      subst hRt
      repeat' (first | ((first | refine WL.p rfl ?_ | refine WL.u ?_ | refine WL.g rfl rfl ?_ | refine WL.gu rfl ?_); first | (refine opk 3 rfl ?_; (refine ost_streqD (q := true) (a := x) (b := manW) rfl rfl rfl (by simp [hx]) ?_)) | refine pvQ ?_ | (refine opk 3 rfl ?_; first | (refine ost_cmp rfl rfl rfl rfl (fun hc => ?_) (fun hc => ?_) <;> (simp only [cmpP] at hc; try exact prIQ)) | (refine ost_streqB rfl rfl rfl (fun hc => ?_) (fun hc => ?_) <;> try exact prEQ) | (refine ost_strneB rfl rfl rfl (fun hc => ?_) (fun hc => ?_) <;> try exact prEQ) | (refine ost_streq rfl rfl rfl (fun hc => ?_) (fun hc => ?_) <;> try exact absurd rfl hc) | (refine ost_strne rfl rfl rfl (fun hc => ?_) (fun hc => ?_))) | (refine opk 4 rfl ?_; (refine ost_cmp rfl rfl rfl rfl (fun hc => ?_) (fun hc => ?_) <;> (simp only [cmpP] at hc; try exact prIQ))) | (refine opk 9 rfl ?_; (refine ost_boxq H rfl ?_; clear H; intro bk wk H))) | refine Wc.seq ?_ | refine then_n ?_ | refine WL.nil ?_ | refine Wc.region ?_ | refine Wc.block ?_ | refine then_r ?_ | refine then_e ?_ | refine inb_e rfl ?_ | refine inb_o rfl ?_ | refine inb_n ?_ | refine inb_r ?_ | refine Wc.skip ?_ | refine Wc.exit ?_ | refine Wc.ret ?_ | refine Wc.cond_true rfl ?_ | refine Wc.cond_false rfl ?_ | refine WL.skp rfl rfl ?_ | refine WL.sku rfl ?_)
      (first | refine fn_ret1 (v := .bool _) rfl rfl ⟨?_, H.fr⟩ | refine fn_ret1 (v := .int _ _) rfl rfl ⟨?_, H.fr⟩ | refine fn_ret1 (v := .string _) rfl rfl ⟨?_, H.fr⟩); rfl
    · by_cases hb : base.toNat = 0
      · have hRf : R = false := by
          cases R with
          | false => rfl
          | true => rcases hR.1 rfl with h | h | h
                    · exact absurd h hx
                    · exact absurd h hno2
                    · exact absurd hb h.1
        subst hRf
        repeat' (first | ((first | refine WL.p rfl ?_ | refine WL.u ?_ | refine WL.g rfl rfl ?_ | refine WL.gu rfl ?_); first | (refine opk 3 rfl ?_; (refine ost_streqD (q := false) (a := x) (b := manW) rfl rfl rfl (by simp [hx]) ?_)) | refine pvQ ?_ | (refine opk 3 rfl ?_; first | (refine ost_cmp rfl rfl rfl rfl (fun hc => ?_) (fun hc => ?_) <;> (simp only [cmpP] at hc; try exact prIQ)) | (refine ost_streqB rfl rfl rfl (fun hc => ?_) (fun hc => ?_) <;> try exact prEQ) | (refine ost_strneB rfl rfl rfl (fun hc => ?_) (fun hc => ?_) <;> try exact prEQ) | (refine ost_streq rfl rfl rfl (fun hc => ?_) (fun hc => ?_) <;> try exact absurd rfl hc) | (refine ost_strne rfl rfl rfl (fun hc => ?_) (fun hc => ?_))) | (refine opk 4 rfl ?_; (refine ost_cmp rfl rfl rfl rfl (fun hc => ?_) (fun hc => ?_) <;> (simp only [cmpP] at hc; try exact prIQ))) | (refine opk 9 rfl ?_; (refine ost_boxq H rfl ?_; clear H; intro bk wk H))) | refine Wc.seq ?_ | refine then_n ?_ | refine WL.nil ?_ | refine Wc.region ?_ | refine Wc.block ?_ | refine then_r ?_ | refine then_e ?_ | refine inb_e rfl ?_ | refine inb_o rfl ?_ | refine inb_n ?_ | refine inb_r ?_ | refine Wc.skip ?_ | refine Wc.exit ?_ | refine Wc.ret ?_ | refine Wc.cond_true rfl ?_ | refine Wc.cond_false rfl ?_ | refine WL.skp rfl rfl ?_ | refine WL.sku rfl ?_)
        (first | refine fn_ret1 (v := .bool _) rfl rfl ⟨?_, H.fr⟩ | refine fn_ret1 (v := .int _ _) rfl rfl ⟨?_, H.fr⟩ | refine fn_ret1 (v := .string _) rfl rfl ⟨?_, H.fr⟩); rfl
      · by_cases hbx : x = baseW base.toNat
        · have hRt : R = true := hR.2 (.inr (.inr ⟨hb, hbx⟩))
          subst hRt
          repeat' (first | ((first | refine WL.p rfl ?_ | refine WL.u ?_ | refine WL.g rfl rfl ?_ | refine WL.gu rfl ?_); first | (refine opk 1 rfl ?_; (refine ost_V H rfl (hBN _ H.sat hT) rfl ?_; clear H; intro wk H)) | (refine opk 3 rfl ?_; first | (refine ost_streqD (q := false) (a := x) (b := manW) rfl rfl rfl (by simp [hx]) ?_) | (refine ost_streqD (q := true) (a := x) (b := baseW base.toNat) rfl rfl rfl (by simp [hbx]) ?_)) | refine pvQ ?_ | (refine opk 3 rfl ?_; first | (refine ost_cmp rfl rfl rfl rfl (fun hc => ?_) (fun hc => ?_) <;> (simp only [cmpP] at hc; try exact prIQ)) | (refine ost_streqB rfl rfl rfl (fun hc => ?_) (fun hc => ?_) <;> try exact prEQ) | (refine ost_strneB rfl rfl rfl (fun hc => ?_) (fun hc => ?_) <;> try exact prEQ) | (refine ost_streq rfl rfl rfl (fun hc => ?_) (fun hc => ?_) <;> try exact absurd rfl hc) | (refine ost_strne rfl rfl rfl (fun hc => ?_) (fun hc => ?_))) | (refine opk 4 rfl ?_; (refine ost_cmp rfl rfl rfl rfl (fun hc => ?_) (fun hc => ?_) <;> (simp only [cmpP] at hc; try exact prIQ))) | (refine opk 9 rfl ?_; (refine ost_boxq H rfl ?_; clear H; intro bk wk H))) | refine Wc.seq ?_ | refine then_n ?_ | refine WL.nil ?_ | refine Wc.region ?_ | refine Wc.block ?_ | refine then_r ?_ | refine then_e ?_ | refine inb_e rfl ?_ | refine inb_o rfl ?_ | refine inb_n ?_ | refine inb_r ?_ | refine Wc.skip ?_ | refine Wc.exit ?_ | refine Wc.ret ?_ | refine Wc.cond_true rfl ?_ | refine Wc.cond_false rfl ?_ | refine WL.skp rfl rfl ?_ | refine WL.sku rfl ?_)
          (first | refine fn_ret1 (v := .bool _) rfl rfl ⟨?_, H.fr⟩ | refine fn_ret1 (v := .int _ _) rfl rfl ⟨?_, H.fr⟩ | refine fn_ret1 (v := .string _) rfl rfl ⟨?_, H.fr⟩); rfl
        · have hRf : R = false := by
            cases R with
            | false => rfl
            | true => rcases hR.1 rfl with h | h | h
                      · exact absurd h hx
                      · exact absurd h hno2
                      · exact absurd h.2 hbx
          subst hRf
          repeat' (first | ((first | refine WL.p rfl ?_ | refine WL.u ?_ | refine WL.g rfl rfl ?_ | refine WL.gu rfl ?_); first | (refine opk 1 rfl ?_; (refine ost_V H rfl (hBN _ H.sat hT) rfl ?_; clear H; intro wk H)) | (refine opk 3 rfl ?_; first | (refine ost_streqD (q := false) (a := x) (b := manW) rfl rfl rfl (by simp [hx]) ?_) | (refine ost_streqD (q := false) (a := x) (b := baseW base.toNat) rfl rfl rfl (by simp [hbx]) ?_)) | refine pvQ ?_ | (refine opk 3 rfl ?_; first | (refine ost_cmp rfl rfl rfl rfl (fun hc => ?_) (fun hc => ?_) <;> (simp only [cmpP] at hc; try exact prIQ)) | (refine ost_streqB rfl rfl rfl (fun hc => ?_) (fun hc => ?_) <;> try exact prEQ) | (refine ost_strneB rfl rfl rfl (fun hc => ?_) (fun hc => ?_) <;> try exact prEQ) | (refine ost_streq rfl rfl rfl (fun hc => ?_) (fun hc => ?_) <;> try exact absurd rfl hc) | (refine ost_strne rfl rfl rfl (fun hc => ?_) (fun hc => ?_))) | (refine opk 4 rfl ?_; (refine ost_cmp rfl rfl rfl rfl (fun hc => ?_) (fun hc => ?_) <;> (simp only [cmpP] at hc; try exact prIQ))) | (refine opk 9 rfl ?_; (refine ost_boxq H rfl ?_; clear H; intro bk wk H))) | refine Wc.seq ?_ | refine then_n ?_ | refine WL.nil ?_ | refine Wc.region ?_ | refine Wc.block ?_ | refine then_r ?_ | refine then_e ?_ | refine inb_e rfl ?_ | refine inb_o rfl ?_ | refine inb_n ?_ | refine inb_r ?_ | refine Wc.skip ?_ | refine Wc.exit ?_ | refine Wc.ret ?_ | refine Wc.cond_true rfl ?_ | refine Wc.cond_false rfl ?_ | refine WL.skp rfl rfl ?_ | refine WL.sku rfl ?_)
          (first | refine fn_ret1 (v := .bool _) rfl rfl ⟨?_, H.fr⟩ | refine fn_ret1 (v := .int _ _) rfl rfl ⟨?_, H.fr⟩ | refine fn_ret1 (v := .string _) rfl rfl ⟨?_, H.fr⟩); rfl
def orK (m : ManT) (l : List (List UInt8)) (k : Nat) : List (List UInt8) := orphM m (l.take k)
theorem orK_succ (m : ManT) {l : List (List UInt8)} {k : Nat} (h : k < l.length) : orK m l (k + 1) = orK m l k ++ (if decide (l[k] ∈ needM m) = true then [] else [l[k]]) := by
  unfold orK orphM
  rw [fl_succ h]
  by_cases h : l[k] ∈ needM m <;> simp [h]
theorem orK_len (m : ManT) (l : List (List UInt8)) (k : Nat) : (orK m l k).length ≤ l.length := by
  unfold orK orphM
  exact Nat.le_trans (List.length_filter_le _ _) (by rw [List.length_take]; omega)
theorem r16_Orphans (m : ManT) (A : MAd) (h0 : FH) (w : World) (hs : Sat h0 w) (hT : Pow h0) (hP : MnR h0 m A) (an : Option Addr) (cn : Nat) (l : List (List UInt8)) (hN : Sl h0 1 an cn (l.map cStr)) (hl : l.length ≤ 1000) :
    Spec Tryd.prog 56 #[.agg (mnV m A).toArray, .slice an l.length cn] w [] h0 (fun v h' L' => ∃ a' c', v = .slice a' (orphM m l).length c' ∧ L' = [ownS v (orphM m l)]) := by
  have H := St.start hs
  have lm := mnV_len m A
  have qn := hN.lenM
  unfold Spec
  refine calls_of Tryd.func56 rfl Tryd.ntmps56 (by simp) ?_
  repeat' (first | ((first | refine WL.p rfl ?_ | refine WL.u ?_); first | refine pvQ ?_ | (refine opk 3 rfl ?_; (refine ost_cmp rfl rfl rfl rfl (fun hc => ?_) (fun hc => ?_) <;> (simp only [cmpP] at hc; try exact prIQ))) | (refine opk 4 rfl ?_; (refine ost_cmp rfl rfl rfl rfl (fun hc => ?_) (fun hc => ?_) <;> (simp only [cmpP] at hc; try exact prIQ))) | (refine opk 9 rfl ?_; first | (refine ost_boxq H rfl ?_; clear H; intro bk wk H) | (refine ost_build1 H rfl rfl rfl evQ lsQ rfl ?_; clear H; intro bk wk H))) | refine Wc.seq ?_ | refine then_n ?_ | refine WL.nil ?_ | refine Wc.region ?_ | refine Wc.block ?_ | refine then_r ?_ | refine then_e ?_ | refine inb_e rfl ?_ | refine inb_o rfl ?_ | refine inb_n ?_ | refine inb_r ?_ | refine Wc.skip ?_ | refine Wc.exit ?_ | refine Wc.ret ?_ | refine Wc.cond_true rfl ?_ | refine Wc.cond_false rfl ?_ | (refine Wc.drawn (id := 5) 5 (by kernel_rfl) ?_) | (refine rgs_nil ?_; intro vs wk hE; replace H := H.ext hE; clear hE) | (refine RGs.bq (fun _ => rfl) rfl (by intro vs w hE hP; have H := H.ext hE; first | exact dbQ | fail) (fun hc => ?_) (fun hc => ?_) <;> ((try simp only [cmpP, decide_eq_true_eq, decide_eq_false_iff_not, dcd_iff, dcd_no] at hc); try exact prDQ)) | refine RGs.pq (fun _ => rfl) rfl (by intro vs w hE hP; have H := H.ext hE; first | exact dvQ | fail) ?_)
  obtain ⟨bm, ebm⟩ := H.nameB idx0
  subst ebm
  replace H : St w [] h0 h0 [ownR (.slice none ((orK m l 0).map cStr).length 0) 9 1 ((orK m l 0).map cStr), .blk bm (.cells (mnV m A).toArray 93 (0, 0))] wk := H.nilOwn 9 1
  refine Wc.loopE (fun s0 n s w' => ∃ (k : Nat) (a1 : Option Addr) (c1 : Nat), n = l.length - k ∧ k ≤ l.length ∧ Agree [5, 6, 7, 8, 9, 10, 11, 12, 13, 14, 15, 16, 17, 18, 19, 20, 21, 22, 23, 24, 25, 26] s s0 ∧ s 6 = .int .i64 k ∧ s 5 = .slice a1 ((orK m l k).map cStr).length c1 ∧
    St w [] h0 h0 [ownR (.slice a1 ((orK m l k).map cStr).length c1) 9 1 ((orK m l k).map cStr), .blk bm (.cells (mnV m A).toArray 93 (0, 0))] w') l.length ⟨0, none, 0, rfl, by omega, Agree.refl _ _, rfl, rfl, H⟩ ?_
  clear H
  rintro n s w' ⟨k, a1, c1, rfl, hk, hA9, e1, e2, H⟩
  obtain ⟨j, rfl⟩ := hA9.env2 e1 e2
  clear hA9 e1 e2
  by_cases hlt : k < l.length
  · obtain ⟨b', off, L, T, fr, e1, eb, eg⟩ := hN.getM (by decide) (Nat.lt_of_le_of_lt (Nat.zero_le _) hlt)
    subst e1
    have g1 : L[off + (k : Int).toNat * 1]? = some (.string (bstr l[k])) := row_cell (eg (k : Int).toNat k hlt (by omega)) (q := 0) (by simp [cStr])
    clear eg
    have hND := r16_needed m A l[k] h0
    have hsu := orK_succ m hlt
    have hkl := orK_len m l k
    have hkm : ((orK m l k).map cStr).length = (orK m l k).length := List.length_map ..
    have hr1 := rows_cStr (orK m l k)
    cases hq : decide (l[k] ∈ needM m) with
    | true =>
      rw [hq] at hND hsu
      rw [if_pos rfl, List.append_nil] at hsu
      repeat' (first | ((first | refine WL.p rfl ?_ | refine WL.u ?_); first | (refine opk 1 rfl ?_; (refine ost_V H rfl (hND _ H.sat hT hP) rfl ?_; clear H; intro wk H)) | refine pvQ ?_ | (refine opk 3 rfl ?_; (refine ost_cmp rfl rfl rfl rfl (fun hc => ?_) (fun hc => ?_) <;> (simp only [cmpP] at hc; try exact prIQ))) | (refine opk 4 rfl ?_; (refine ost_cmp rfl rfl rfl rfl (fun hc => ?_) (fun hc => ?_) <;> (simp only [cmpP] at hc; try exact prIQ))) | (refine opk 9 rfl ?_; first | (refine ost_boxq H rfl ?_; clear H; intro bk wk H) | (refine ost_build1 H rfl rfl rfl evQ lsQ rfl ?_; clear H; intro bk wk H))) | refine Wc.seq ?_ | refine then_n ?_ | refine WL.nil ?_ | refine Wc.region ?_ | refine Wc.block ?_ | refine then_r ?_ | refine then_e ?_ | refine inb_e rfl ?_ | refine inb_o rfl ?_ | refine inb_n ?_ | refine inb_r ?_ | refine Wc.skip ?_ | refine Wc.exit ?_ | refine Wc.ret ?_ | refine Wc.cond_true rfl ?_ | refine Wc.cond_false rfl ?_ | (refine Wc.drawn (id := 5) 5 (by kernel_rfl) ?_) | (refine rgs_nil ?_; intro vs wk hE; replace H := H.ext hE; clear hE) | (refine RGs.bq (fun _ => rfl) rfl (by intro vs w hE hP; have H := H.ext hE; first | exact dbQ | fail) (fun hc => ?_) (fun hc => ?_) <;> ((try simp only [cmpP, decide_eq_true_eq, decide_eq_false_iff_not, dcd_iff, dcd_no] at hc); try exact prDQ)) | refine RGs.pq (fun _ => rfl) rfl (by intro vs w hE hP; have H := H.ext hE; first | exact dvQ | fail) ?_)
      exact ⟨l.length - (k + 1), by omega, k + 1, a1, c1, rfl, by omega, by (repeat' (first | exact Agree.refl _ _ | exact Agree.havoc | refine Agree.upd rfl ?_ | refine Agree.hav2 rfl ?_)), rfl, by rw [hsu]; rfl, by rw [hsu]; exact H⟩
    | false =>
      rw [hq] at hND hsu
      rw [if_neg (by decide)] at hsu
      have hsu2 : (orK m l (k + 1)).map cStr = (orK m l k).map cStr ++ [[Value.string (bstr l[k])]] := by rw [hsu, List.map_append]; rfl
      clear hsu
      generalize (orK m l k).map cStr = R at H hsu2 hkm hr1 ⊢
      repeat' (first | ((first | refine WL.p rfl ?_ | refine WL.u ?_); first | (refine opk 1 rfl ?_; first | (refine ost_appR (rows := R) (row := [Value.string (bstr l[k])]) H rfl rfl rfl (by (exact ixQ)) (by (exact ixQ)) (by rfl) (by first | simp; done | exact Nat.succ_pos _) rfl (allOne_of rfl) rfl (by omega) ?_; clear H; intro aa ca wk H; simp only [List.set_cons_zero, List.set_cons_succ] at H) | (refine ost_V H rfl (hND _ H.sat hT hP) rfl ?_; clear H; intro wk H)) | (refine opk 9 rfl ?_; (refine ost_buildR (rows := [[Value.string (bstr l[k])]]) H rfl (by decide) rfl (by rfl) (evP1 vxQ) (.cons rfl .nil) rfl (fun r hr => by rw [List.mem_singleton.1 hr]; rfl) ?_; clear H; intro bk wk H)) | refine pvQ ?_ | (refine opk 3 rfl ?_; (refine ost_cmp rfl rfl rfl rfl (fun hc => ?_) (fun hc => ?_) <;> (simp only [cmpP] at hc; try exact prIQ))) | (refine opk 4 rfl ?_; (refine ost_cmp rfl rfl rfl rfl (fun hc => ?_) (fun hc => ?_) <;> (simp only [cmpP] at hc; try exact prIQ))) | (refine opk 9 rfl ?_; first | (refine ost_boxq H rfl ?_; clear H; intro bk wk H) | (refine ost_build1 H rfl rfl rfl evQ lsQ rfl ?_; clear H; intro bk wk H))) | refine Wc.seq ?_ | refine then_n ?_ | refine WL.nil ?_ | refine Wc.region ?_ | refine Wc.block ?_ | refine then_r ?_ | refine then_e ?_ | refine inb_e rfl ?_ | refine inb_o rfl ?_ | refine inb_n ?_ | refine inb_r ?_ | refine Wc.skip ?_ | refine Wc.exit ?_ | refine Wc.ret ?_ | refine Wc.cond_true rfl ?_ | refine Wc.cond_false rfl ?_ | (refine Wc.drawn (id := 5) 5 (by kernel_rfl) ?_) | (refine rgs_nil ?_; intro vs wk hE; replace H := H.ext hE; clear hE) | (refine RGs.bq (fun _ => rfl) rfl (by intro vs w hE hP; have H := H.ext hE; first | exact dbQ | fail) (fun hc => ?_) (fun hc => ?_) <;> ((try simp only [cmpP, decide_eq_true_eq, decide_eq_false_iff_not, dcd_iff, dcd_no] at hc); try exact prDQ)) | refine RGs.pq (fun _ => rfl) rfl (by intro vs w hE hP; have H := H.ext hE; first | exact dvQ | fail) ?_)
      rw [← hsu2] at H
      exact ⟨l.length - (k + 1), by omega, k + 1, aa, ca, rfl, by omega, by (repeat' (first | exact Agree.refl _ _ | exact Agree.havoc | refine Agree.upd rfl ?_ | refine Agree.hav2 rfl ?_)), rfl, by rw [hsu2]; rfl, H.picks [1, 2] rfl (by decide)⟩
  · obtain rfl : k = l.length := by omega
    have e9 : orK m l l.length = orphM m l := by unfold orK; rw [List.take_length]
    rw [e9] at H ⊢
    repeat' (first | ((first | refine WL.p rfl ?_ | refine WL.u ?_); first | refine pvQ ?_ | (refine opk 3 rfl ?_; (refine ost_cmp rfl rfl rfl rfl (fun hc => ?_) (fun hc => ?_) <;> (simp only [cmpP] at hc; try exact prIQ))) | (refine opk 4 rfl ?_; (refine ost_cmp rfl rfl rfl rfl (fun hc => ?_) (fun hc => ?_) <;> (simp only [cmpP] at hc; try exact prIQ))) | (refine opk 9 rfl ?_; first | (refine ost_boxq H rfl ?_; clear H; intro bk wk H) | (refine ost_build1 H rfl rfl rfl evQ lsQ rfl ?_; clear H; intro bk wk H))) | refine Wc.seq ?_ | refine then_n ?_ | refine WL.nil ?_ | refine Wc.region ?_ | refine Wc.block ?_ | refine then_r ?_ | refine then_e ?_ | refine inb_e rfl ?_ | refine inb_o rfl ?_ | refine inb_n ?_ | refine inb_r ?_ | refine Wc.skip ?_ | refine Wc.exit ?_ | refine Wc.ret ?_ | refine Wc.cond_true rfl ?_ | refine Wc.cond_false rfl ?_ | (refine Wc.drawn (id := 5) 5 (by kernel_rfl) ?_) | (refine rgs_nil ?_; intro vs wk hE; replace H := H.ext hE; clear hE) | (refine RGs.bq (fun _ => rfl) rfl (by intro vs w hE hP; have H := H.ext hE; first | exact dbQ | fail) (fun hc => ?_) (fun hc => ?_) <;> ((try simp only [cmpP, decide_eq_true_eq, decide_eq_false_iff_not, dcd_iff, dcd_no] at hc); try exact prDQ)) | refine RGs.pq (fun _ => rfl) rfl (by intro vs w hE hP; have H := H.ext hE; first | exact dvQ | fail) ?_)
    exact fn_ret1 (v := .slice _ _ _) rfl rfl ⟨_, _, H.pick 0 rfl, a1, c1, by rw [List.length_map], by unfold ownS ownR; rw [sV_flat, List.length_map]⟩
end Go.Tg

