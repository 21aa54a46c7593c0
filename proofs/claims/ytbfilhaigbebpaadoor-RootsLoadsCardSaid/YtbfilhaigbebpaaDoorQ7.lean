/- Contracts of Go functions that the laws reach: what each call answers and leaves in memory, for all arguments within the bounds that each theorem names. -/
import Derived.Test.YtbfilhaigbebpaaDoorInst
import Derived.Test.YtbfilhaigbebpaaDoorAuto
import Derived.Test.YtbfilhaigbebpaaDoorL2
import Derived.Test.YtbfilhaigbebpaaDoorW6
import Derived.Test.YtbfilhaigbebpaaDoorC4
import Derived.Test.YtbfilhaigbebpaaDoorQ6
set_option linter.unusedVariables false
set_option linter.unusedSimpArgs false
set_option maxRecDepth 100000
set_option maxHeartbeats 4000000
namespace Go.Tg
open Go Go.Proofs
def numsO (o : OpT) (k : Nat) : Nat := if k = 0 then o.dot.rep.toNat else if k = 1 then o.dot.seq.toNat else if k = 2 then o.kind.toNat else if k = 3 then o.cart.toNat else if k = 4 then o.item.toNat else if k = 5 then o.qty.toNat else o.tick.toNat
theorem numsO_lt (o : OpT) (k : Nat) : numsO o k < 4294967296 := by
  have h1 := o.dot.rep.toNat_lt; have h2 := o.dot.seq.toNat_lt; have h3 := o.kind.toNat_lt; have h4 := o.cart.toNat_lt; have h5 := o.item.toNat_lt; have h6 := o.qty.toNat_lt; have h7 := o.tick.toNat_lt
  unfold numsO; repeat' split
  all_goals omega
def putsO (o : OpT) (k : Nat) : List UInt8 := ((List.range k).map fun i => putB (numsO o i)).flatten
def encO (o : OpT) : List UInt8 := putsO o 7 ++ fieldB (encV o.ctx)
end Go.Tg

set_option linter.unusedVariables false
set_option linter.unusedSimpArgs false
set_option maxRecDepth 100000
set_option maxHeartbeats 4000000
namespace Go.Tg
open Go Go.Proofs
structure TkT where
  e : Int
  xs : List UInt8
  bad : Bool
def tkN (t : TkT) : Nat := (numE t.e t.xs).1
def tkS (t : TkT) (bits : Nat) : TkT := ⟨(numE t.e t.xs).2.2.1, (numE t.e t.xs).2.2.2, t.bad || !(decide ((numE t.e t.xs).2.1 = 0) && decide (tkN t / 2 ^ bits = 0))⟩
theorem tk_sound {t : TkT} {bits : Nat} (hb : (tkS t bits).bad = false) (he : (tkS t bits).e = 0) (hb9 : 0 < 2 ^ bits) : t.bad = false ∧ t.e = 0 ∧ t.xs = putB (tkN t) ++ (tkS t bits).xs ∧ tkN t < 2 ^ bits := by
  simp only [tkS, Bool.or_eq_false_iff, Bool.not_eq_false', Bool.and_eq_true, decide_eq_true_eq] at hb
  obtain ⟨h1, h2, h3⟩ := hb
  have h0 : t.e = 0 := Classical.byContradiction fun h => by rw [numE_err h] at h2; exact h h2
  refine ⟨h1, h0, ?_, by rcases Nat.div_eq_zero_iff.1 h3 with h | h <;> omega⟩
  have := numE_inv (xs := t.xs) (by rw [h0] at h2; exact h2)
  unfold tkN tkS; rw [h0]; exact this
theorem tk_full {t : TkT} {bits n : Nat} {r : List UInt8} (he : t.e = 0) (hb : t.bad = false) (hx : t.xs = putB n ++ r) (hn : n < 18446744073709551616) (hn2 : n < 2 ^ bits) : tkN t = n ∧ tkS t bits = ⟨0, r, false⟩ := by
  have h1 := numE_putB n hn r
  rw [← hx, ← he] at h1
  have h2 : tkN t = n := by unfold tkN; rw [h1]
  refine ⟨h2, ?_⟩
  unfold tkS; rw [h2, h1, hb, he, Nat.div_eq_of_lt hn2]; rfl
def zeroO : OpT := ⟨⟨0, 0⟩, 0, 0, 0, 0, 0, fun _ => 0⟩
def DecO (b : List UInt8) (x : OpT) (e : Int) : Prop := (e = 0 ∧ rightO x 16 = true ∧ encO x = b) ∨ (e = 5 ∧ x = zeroO ∧ ∀ u, rightO u 16 = true → encO u ≠ b)
theorem nums_inj {u v : OpT} : ∀ (d k : Nat), 7 - k = d → k ≤ 7 → (r s : List UInt8) → ((List.range (7 - k)).map fun i => putB (numsO u (k + i))).flatten ++ r = ((List.range (7 - k)).map fun i => putB (numsO v (k + i))).flatten ++ s → (∀ i, k ≤ i → i < 7 → numsO u i = numsO v i) ∧ r = s
  | 0, k, h1, h2, r, s, h => by
    obtain rfl : k = 7 := by omega
    exact ⟨fun i _ _ => by omega, h⟩
  | d + 1, k, h1, h2, r, s, h => by
    rw [h1, List.range_succ_eq_map] at h
    simp only [List.map_cons, List.map_map, List.flatten_cons, Nat.add_zero, List.append_assoc] at h
    have hu := numsO_lt u k; have hv := numsO_lt v k
    obtain ⟨h3, h4⟩ := putB_app_inj (by omega) (by omega) h
    obtain ⟨h5, h6⟩ := nums_inj d (k + 1) (by omega) (by omega) r s (by
      rw [show 7 - (k + 1) = d by omega]
      simpa [Function.comp_def, Nat.add_assoc, Nat.add_comm 1] using h4)
    exact ⟨fun i h7 h8 => by
      by_cases hik : i = k
      · subst hik; exact h3
      · exact h5 i (by omega) h8, h6⟩
theorem encO_inj {u v : OpT} (h : encO u = encO v) : u = v := by
  have h0 : ((List.range (7 - 0)).map fun i => putB (numsO u (0 + i))).flatten ++ fieldB (encV u.ctx) = ((List.range (7 - 0)).map fun i => putB (numsO v (0 + i))).flatten ++ fieldB (encV v.ctx) := by
    simpa [encO, putsO] using h
  obtain ⟨h1, h2⟩ := nums_inj 7 0 rfl (by omega) _ _ h0
  have hu := encV_len u.ctx; have hv := encV_len v.ctx
  obtain ⟨h3, h4⟩ := putB_app_inj (by omega) (by omega) h2
  have h5 := encV_inj h4
  have e0 := h1 0 (by omega) (by omega); have e1 := h1 1 (by omega) (by omega); have e2 := h1 2 (by omega) (by omega); have e3 := h1 3 (by omega) (by omega)
  have e4 := h1 4 (by omega) (by omega); have e5 := h1 5 (by omega) (by omega); have e6 := h1 6 (by omega) (by omega)
  simp only [numsO] at e0 e1 e2 e3 e4 e5 e6
  simp at e0 e1 e2 e3 e4 e5 e6
  obtain ⟨⟨_, _⟩, _, _, _, _, _, _⟩ := u
  obtain ⟨⟨_, _⟩, _, _, _, _, _, _⟩ := v
  simp_all [UInt8.toNat_inj, UInt16.toNat_inj, UInt32.toNat_inj]
theorem DecO.unique {b : List UInt8} {x y : OpT} {e f : Int} (h : DecO b x e) (k : DecO b y f) : x = y ∧ e = f := by
  rcases h with ⟨h1, h2, h3⟩ | ⟨h1, h2, h3⟩ <;> rcases k with ⟨k1, k2, k3⟩ | ⟨k1, k2, k3⟩
  · exact ⟨encO_inj (h3.trans k3.symm), h1.trans k1.symm⟩
  · exact absurd h3 (k3 _ h2)
  · exact absurd k3 (h3 _ k2)
  · exact ⟨h2.trans k2.symm, h1.trans k1.symm⟩
theorem u8_wrap (y : Nat) : Value.int .u8 (IntKind.u8.wrap y) = .int .u8 (UInt8.ofNat y).toNat := by
  simp [IntKind.wrap, IntKind.bits, IntKind.signed]
theorem u16_wrap (y : Nat) : Value.int .u16 (IntKind.u16.wrap y) = .int .u16 (UInt16.ofNat y).toNat := by
  simp [IntKind.wrap, IntKind.bits, IntKind.signed]
theorem u32_wrap2 (y : Nat) : Value.int .u32 (IntKind.u32.wrap y) = .int .u32 (UInt32.ofNat y).toNat := by
  simp [IntKind.wrap, IntKind.bits, IntKind.signed]
end Go.Tg

set_option linter.unusedVariables false
set_option linter.unusedSimpArgs false
set_option maxRecDepth 100000
set_option maxHeartbeats 4000000
namespace Go.Tg
open Go Go.Proofs
theorem r13_Encode (p : PageT) (A : PAd) (h0 : FH) (w : World) (hs : Sat h0 w) (hP : PgR h0 p A) :
    Spec Tryd.prog 48 #[.agg (pgV p A).toArray] w [] h0 (fun v h' L' => ∃ a' c', v = .tuple #[.slice a' (outP p).1.length c', .int .i64 (outP p).2] ∧ h' = h0 ∧ L' = [own8 (.slice a' (outP p).1.length c') 5 (outP p).1]) := by
  have H := St.start hs
  have hR := r13_Right p A h0
  have hB := r13_bytes p A h0
  have hF : ∀ q, rightP p = q → outP p = if q = true then (encP p, 0) else ([], 15) := fun q h => by unfold outP; rw [h]
  generalize rightP p = q at hR hB hF
  rw [hF q rfl]
  clear hF
  have hB : ∀ (w : World), Sat h0 w → q = true → Spec Tryd.prog 65 #[.agg (pgV p A).toArray] w [] h0 (fun v h' L' => ∃ a' c', v = .slice a' (encP p).length c' ∧ h' = h0 ∧ L' = [own8 v 5 (encP p)]) := fun w hs hq => hB w hs hP hq
  generalize encP p = E at hB ⊢
  obtain ⟨lf, ks, ls, ds⟩ := p
  obtain ⟨ak, ck, al, cl, ad, cd⟩ := A
  have e : pgV ⟨lf, ks, ls, ds⟩ ⟨ak, ck, al, cl, ad, cd⟩ = pgL lf ks.length ls.length ds.length ak ck al cl ad cd := rfl
  rw [e] at hR hB ⊢
  have lp : (pgL lf ks.length ls.length ds.length ak ck al cl ad cd).length = 4 := rfl
  unfold Spec
  refine calls_of Tryd.func48 rfl Tryd.ntmps48 (by simp) ?_
  cases q with
  | false =>
    repeat' (first | ((first | refine WL.p rfl ?_ | refine WL.u ?_); first | (refine opk 1 rfl ?_; (refine ost_V H rfl (hR _ H.sat hP) rfl ?_; clear H; intro wk H)) | refine pvQ ?_ | (refine opk 9 rfl ?_; (refine ost_boxq H rfl ?_; clear H; intro bk wk H))) | refine Wc.seq ?_ | refine then_n ?_ | refine WL.nil ?_ | refine Wc.region ?_ | refine Wc.block ?_ | refine then_r ?_ | refine then_e ?_ | refine inb_e rfl ?_ | refine inb_o rfl ?_ | refine inb_n ?_ | refine inb_r ?_ | refine Wc.skip ?_ | refine Wc.exit ?_ | refine Wc.ret ?_ | refine Wc.cond_true rfl ?_ | refine Wc.cond_false rfl ?_)
    exact fn_ret2 (v1 := .slice _ _ _) (v2 := .int _ _) rfl rfl rfl ⟨_, _, (H.nil8 5).pick 0 rfl, _, _, rfl, rfl, rfl⟩
  | true =>
    repeat' (first | ((first | refine WL.p rfl ?_ | refine WL.u ?_); first | (refine opk 1 rfl ?_; first | (refine ost_V H rfl (hR _ H.sat hP) rfl ?_; clear H; intro wk H) | (refine ost_Sk H rfl (hB _ H.sat rfl) rfl ?_; clear H; rintro vk wk hfk Lk ⟨a1, c1, rfl, rfl, rfl⟩ hle H; simp only [List.cons_append, List.nil_append] at H)) | refine pvQ ?_ | (refine opk 9 rfl ?_; (refine ost_boxq H rfl ?_; clear H; intro bk wk H))) | refine Wc.seq ?_ | refine then_n ?_ | refine WL.nil ?_ | refine Wc.region ?_ | refine Wc.block ?_ | refine then_r ?_ | refine then_e ?_ | refine inb_e rfl ?_ | refine inb_o rfl ?_ | refine inb_n ?_ | refine inb_r ?_ | refine Wc.skip ?_ | refine Wc.exit ?_ | refine Wc.ret ?_ | refine Wc.cond_true rfl ?_ | refine Wc.cond_false rfl ?_)
    exact fn_ret2 (v1 := .slice _ _ _) (v2 := .int _ _) rfl rfl rfl ⟨_, _, H.pick 0 rfl, _, _, rfl, rfl, rfl⟩
abbrev tkp (bt b : Nat) (t : TkT) (a : Option Addr) (c : Nat) : HA := .both (.blk bt (.cells [pt b, .bool t.bad].toArray 119 (0, 0))) (rdr b true t.e a t.xs.length c)
theorem tkp_num (bits : Nat) (bt b : Nat) (t : TkT) (a : Option Addr) (c : Nat) (g : FH) (w : World) (HO : St w (tkp bt b t a c).fp g g [tkp bt b t a c] w) (hr : BS g a c t.xs) (hb : bits < 64) :
    Spec Tryd.prog 40 #[pt bt, .int .i64 bits] w (tkp bt b t a c).fp g (fun v' h' L' => v' = .int .u32 (UInt32.ofNat (tkN t)).toNat ∧ h' = g ∧ ∃ a' c', BS g a' c' (tkS t bits).xs ∧ L' = [tkp bt b (tkS t bits) a' c']) := by
  have H := HO.split
  have hn := numE_lt t.e t.xs
  have hu := u32_wrap2 (numE t.e t.xs).1
  unfold Spec
  refine calls_of Tryd.func40 rfl Tryd.ntmps40 (by simp) ?_
  repeat' (first | ((first | refine WL.p rfl ?_ | refine WL.u ?_ | refine WL.g rfl rfl ?_ | refine WL.gu rfl ?_); first | (refine opk 1 rfl ?_; (refine ost_H (A := rdr _ _ _ _ _ _) H rfl (by (exact ixQ)) (fun HO => rd_Num _ _ _ _ _ _ _ HO hr) rfl ?_; clear H; rintro vk wk hfk Lk ⟨rfl, rfl, a2, c2, hr2, rfl⟩ hle H; simp only [List.cons_append, List.nil_append, List.eraseIdx_cons_zero, List.eraseIdx_cons_succ] at H)) | (refine opk 6 rfl ?_; (refine ost_conv rfl rfl ?_)) | refine pvQ ?_ | (refine opk 3 rfl ?_; (refine ost_cmp rfl rfl rfl rfl (fun hc => ?_) (fun hc => ?_) <;> (simp only [cmpP] at hc; try exact prIQ))) | (refine opk 4 rfl ?_; (refine ost_cmp rfl rfl rfl rfl (fun hc => ?_) (fun hc => ?_) <;> (simp only [cmpP] at hc; try exact prIQ))) | (refine opk 8 rfl ?_; (refine ost_store1 H rfl rfl vlQ gvQ ixQ (by first | decide | (simp; omega) | (simp; done) | omega) ?_; clear H; intro wk H; simp only [List.set_cons_zero, List.set_cons_succ, Nat.reduceAdd] at H))) | refine Wc.seq ?_ | refine then_n ?_ | refine WL.nil ?_ | refine Wc.region ?_ | refine Wc.block ?_ | refine then_r ?_ | refine then_e ?_ | refine inb_e rfl ?_ | refine inb_o rfl ?_ | refine inb_n ?_ | refine inb_r ?_ | refine Wc.skip ?_ | refine Wc.exit ?_ | refine Wc.ret ?_ | refine Wc.cond_true rfl ?_ | refine Wc.cond_false rfl ?_ | refine WL.skp rfl rfl ?_ | refine WL.sku rfl ?_)
  all_goals
    have hd : ((numE t.e t.xs).1 : Int).fdiv (2 ^ min (bits : Int).toNat IntKind.u64.bits) = ((tkN t / 2 ^ bits : Nat) : Int) := by
      rw [show min (bits : Int).toNat IntKind.u64.bits = bits by (have : IntKind.u64.bits = 64 := rfl); omega, Int.fdiv_eq_ediv_of_nonneg _ (Int.le_of_lt (Int.pow_pos (by decide)))]
      unfold tkN; simp
    simp only [hd] at *
  · have e : (tkS t bits).bad = true := by simp_all [tkS]
    exact fn_ret1 (v := .int _ _) rfl rfl ⟨_, _, (H.pick2 1 0 rfl rfl (by decide)).join, hu, rfl, a2, c2, hr2, by simp only [tkp]; rw [e]; rfl⟩
  · have e : (tkS t bits).bad = true := by
      have : tkN t / 2 ^ bits ≠ 0 := by omega
      simp [tkS, this]
    exact fn_ret1 (v := .int _ _) rfl rfl ⟨_, _, (H.pick2 1 0 rfl rfl (by decide)).join, hu, rfl, a2, c2, hr2, by simp only [tkp]; rw [e]; rfl⟩
  · have e : (tkS t bits).bad = t.bad := by
      have h1 : tkN t / 2 ^ bits = 0 := by omega
      have h2 : (numE t.e t.xs).2.1 = 0 := by omega
      simp [tkS, h1, h2]
    exact fn_ret1 (v := .int _ _) rfl rfl ⟨_, _, (H.pick2 1 0 rfl rfl (by decide)).join, hu, rfl, a2, c2, hr2, by simp only [tkp]; rw [e]; rfl⟩
end Go.Tg

