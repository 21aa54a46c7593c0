/- Contracts of Go functions that the laws reach: what each call answers and leaves in memory, for all arguments within the bounds that each theorem names. -/
import Derived.Test.YtbfilhaigbebpaaDoorInst
import Derived.Test.YtbfilhaigbebpaaDoorAuto
import Derived.Test.YtbfilhaigbebpaaDoorC1
import Derived.Test.YtbfilhaigbebpaaDoorW7
import Derived.Test.YtbfilhaigbebpaaDoorO2
import Derived.Test.YtbfilhaigbebpaaDoorW6
set_option linter.unusedVariables false
set_option linter.unusedSimpArgs false
set_option maxRecDepth 100000
set_option maxHeartbeats 4000000
namespace Go.Tg
open Go Go.Proofs
theorem getL_inv : ∀ (b p : List UInt8) (acc n k : Nat), acc = valL p → (∀ x, x ∈ p → 128 ≤ x.toNat) → p.length ≤ 9 → getL p.length acc b = (n, k, 0) → n < 18446744073709551616 → ∃ m, p ++ b.take m = putB n ∧ k = p.length + m ∧ m ≤ b.length
  | [], p, acc, n, k, _, _, _, h, _ => by simp [getL] at h
  | c :: r, p, acc, n, k, ha, hp, h9, h, hn => by
    have hc2 := c.toNat_lt
    unfold getL at h
    split at h
    · simp at h
    · rename_i h1
      split at h
      · rename_i h2
        have h10 : p.length ≠ 9 := fun e => h1 (.inr ⟨e, by omega⟩)
        obtain ⟨m, h3, h4, h5⟩ := getL_inv r (p ++ [c]) (acc + c.toNat % 128 * 128 ^ p.length) n k (by rw [valL_app, ha]) (fun x hx => by
          rw [List.mem_append] at hx
          rcases hx with hx | hx
          · exact hp x hx
          · simp at hx; rw [hx]; exact h2) (by simp; omega) (by rw [List.length_append, List.length_singleton]; exact h) hn
        refine ⟨m + 1, ?_, by rw [h4]; simp; omega, by simp; exact h5⟩
        rw [← h3]; simp
      · rename_i h2
        split at h
        · simp at h
        · rename_i h3
          simp only [Prod.mk.injEq] at h
          obtain ⟨e1, e2, _⟩ := h
          refine ⟨1, ?_, e2.symm, by simp⟩
          have := (putB_iff (xs := p) (c := c) (n := n) h9 hp (by omega) (by rw [valL_app, ← e1, ha]) hn).2 h3
          rw [this]; simp
theorem getB_inv {b : List UInt8} {n k : Nat} (h : getB b = (n, k, 0)) : b = putB n ++ b.drop k := by
  have hn : n < 18446744073709551616 := by have := getB_lt b; rw [h] at this; exact this
  obtain ⟨m, h1, h2, h3⟩ := getL_inv b [] 0 n k rfl (by simp) (by simp) h hn
  simp at h1 h2
  subst h2
  rw [← h1, List.take_append_drop]
theorem numE_inv {xs : List UInt8} (h : (numE 0 xs).2.1 = 0) : xs = putB (numE 0 xs).1 ++ (numE 0 xs).2.2.2 := by
  unfold numE at h ⊢
  rw [if_neg (by simp)] at h ⊢
  by_cases hg : (getB xs).2.2 = 0
  · rw [if_neg (by simpa using hg)]
    exact getB_inv (by rw [← hg])
  · rw [if_pos hg] at h
    exfalso; simp at h; exact hg h
theorem numE_err {e : Int} {xs : List UInt8} (h : e ≠ 0) : numE e xs = (0, e, e, xs) := by unfold numE; rw [if_pos h]
theorem numE_err2 {xs : List UInt8} (h : (numE 0 xs).2.1 ≠ 0) : (numE 0 xs).2.2.1 ≠ 0 ∧ (numE 0 xs).1 = 0 := by
  unfold numE at h ⊢
  rw [if_neg (by simp)] at h ⊢
  by_cases hg : (getB xs).2.2 = 0
  · rw [if_neg (by simpa using hg)] at h; simp at h
  · rw [if_pos hg]; exact ⟨by simpa using hg, rfl⟩
theorem putB_app_inj {a b : Nat} (ha : a < 18446744073709551616) (hb : b < 18446744073709551616) {r s : List UInt8} (h : putB a ++ r = putB b ++ s) : a = b ∧ r = s := by
  have h1 := numE_putB a ha r
  rw [h, numE_putB b hb s] at h1
  simp at h1
  exact ⟨h1.1.symm, h1.2.symm⟩
theorem topN_zero : ∀ (k : Nat) (v : V16) (i : Nat), topN k v ≤ i → i < k → (atV v i).toNat = 0
  | 0, v, i, _, h => absurd h (by omega)
  | k + 1, v, i, h1, h2 => by
    unfold topN at h1
    split at h1
    · by_cases hi : i = k
      · subst hi; assumption
      · exact topN_zero k v i h1 (by omega)
    · omega
def tailN (v : V16) (n k : Nat) : List UInt8 := ((List.range (n - k)).map fun i => putB (atV v (k + i)).toNat).flatten
theorem tailN_step {v : V16} {n k : Nat} (h : k < n) : tailN v n k = putB (atV v k).toNat ++ tailN v n (k + 1) := by
  unfold tailN
  rw [show n - k = (n - (k + 1)) + 1 by omega, List.range_succ_eq_map]
  simp only [List.map_cons, List.map_map, List.flatten_cons, Nat.add_zero]
  congr 3
  funext i
  simp only [Function.comp]
  rw [show k + i.succ = k + 1 + i by omega]
theorem tailN_end (v : V16) (n : Nat) : tailN v n n = [] := by simp [tailN]
theorem encN_tail (v : V16) (n : Nat) : ∀ k, k ≤ n → encN v n n = encN v n k ++ tailN v n k := by
  intro k hk
  have : ∀ d k, n - k = d → k ≤ n → encN v n n = encN v n k ++ tailN v n k := by
    intro d
    induction d with
    | zero => intro k h1 h2; obtain rfl : k = n := by omega
              rw [tailN_end, List.append_nil]
    | succ d ih =>
      intro k h1 h2
      rw [ih (k + 1) (by omega) (by omega), encN_succ, List.append_assoc, ← tailN_step (by omega)]
  exact this _ k rfl hk
theorem encV_tail (v : V16) : encV v = putB (topN 16 v) ++ tailN v (topN 16 v) 0 := by
  rw [encV, encN_tail v _ 0 (by omega), encN_zero]
theorem V16_ext {u v : V16} (h : ∀ i, i < 16 → (atV u i).toNat = (atV v i).toNat) : u = v := by
  funext i
  have := h i.val i.isLt
  rw [atV_lt u i.isLt, atV_lt v i.isLt] at this
  exact UInt32.toNat_inj.1 this
theorem atV_b (v : V16) (i : Nat) : (atV v i).toNat < 18446744073709551616 := by have := (atV v i).toNat_lt; omega
theorem tailN_inj {u v : V16} {n : Nat} : ∀ (d k : Nat), n - k = d → k ≤ n → tailN u n k = tailN v n k → ∀ i, k ≤ i → i < n → (atV u i).toNat = (atV v i).toNat
  | 0, k, h1, h2, _, i, h3, h4 => by omega
  | d + 1, k, h1, h2, h, i, h3, h4 => by
    have e1 := tailN_step (v := u) (n := n) (k := k) (by omega)
    have e2 := tailN_step (v := v) (n := n) (k := k) (by omega)
    rw [e1, e2] at h
    obtain ⟨h5, h6⟩ := putB_app_inj (atV_b _ _) (atV_b _ _) h
    by_cases hi : i = k
    · subst hi; exact h5
    · exact tailN_inj d (k + 1) (by omega) (by omega) h6 i (by omega) h4
theorem encV_inj {u v : V16} (h : encV u = encV v) : u = v := by
  rw [encV_tail, encV_tail] at h
  have hu := topN_le 16 u; have hv := topN_le 16 v
  obtain ⟨h1, h2⟩ := putB_app_inj (by omega) (by omega) h
  rw [h1] at h2
  apply V16_ext
  intro i hi
  by_cases hl : i < topN 16 v
  · exact tailN_inj _ 0 rfl (by omega) h2 i (by omega) hl
  · rw [topN_zero 16 u i (by omega) hi, topN_zero 16 v i (by omega) hi]
theorem encV_len (v : V16) : (encV v).length ≤ 187 := by
  have := encN_len v (topN 16 v) (topN 16 v)
  have := topN_le 16 v
  rw [encV]; omega
def DecV (b : List UInt8) (x : V16) (e : Int) : Prop := (e = 0 ∧ encV x = b) ∨ (e = 5 ∧ x = (fun _ => 0) ∧ ∀ u, encV u ≠ b)
theorem DecV.unique {b : List UInt8} {x y : V16} {e f : Int} (h : DecV b x e) (k : DecV b y f) : x = y ∧ e = f := by
  rcases h with ⟨rfl, h⟩ | ⟨rfl, rfl, h⟩ <;> rcases k with ⟨rfl, k⟩ | ⟨rfl, rfl, k⟩
  · exact ⟨encV_inj (h.trans k.symm), rfl⟩
  · exact absurd h (k _)
  · exact absurd k (h _)
  · exact ⟨rfl, rfl⟩
end Go.Tg

set_option linter.unusedVariables false
set_option linter.unusedSimpArgs false
set_option maxRecDepth 100000
set_option maxHeartbeats 4000000
namespace Go.Tg
open Go Go.Proofs
def le4 (x : BitVec 32) : List UInt8 := [UInt8.ofNat x.toNat, UInt8.ofNat (x.toNat / 256), UInt8.ofNat (x.toNat / 65536), UInt8.ofNat (x.toNat / 16777216)]
theorem le4_len (x : BitVec 32) : (le4 x).length = 4 := rfl
def sum4 (xs : List UInt8) : List UInt8 := le4 (sumC xs)
theorem sum4_len (xs : List UInt8) : (sum4 xs).length = 4 := rfl
theorem u8_of (n : Nat) : Value.int .u8 (IntKind.u8.wrap (n : Int)) = u8v (UInt8.ofNat n) := by
  unfold u8v; congr 1
theorem fdivN (n k : Nat) : (n : Int).fdiv (k : Int) = ((n / k : Nat) : Int) := by
  rw [Int.fdiv_eq_ediv_of_nonneg _ (by omega)]; simp
theorem cB_le4 (x : BitVec 32) : cB (le4 x) = [.int .u8 (IntKind.u8.wrap (x.toNat : Int)), .int .u8 (IntKind.u8.wrap ((x.toNat : Int).fdiv (2 ^ min (8 : Int).toNat IntKind.u32.bits))), .int .u8 (IntKind.u8.wrap ((x.toNat : Int).fdiv (2 ^ min (16 : Int).toNat IntKind.u32.bits))), .int .u8 (IntKind.u8.wrap ((x.toNat : Int).fdiv (2 ^ min (24 : Int).toNat IntKind.u32.bits)))] := by
  rw [show (2 : Int) ^ min (8 : Int).toNat IntKind.u32.bits = ((256 : Nat) : Int) by decide, show (2 : Int) ^ min (16 : Int).toNat IntKind.u32.bits = ((65536 : Nat) : Int) by decide, show (2 : Int) ^ min (24 : Int).toNat IntKind.u32.bits = ((16777216 : Nat) : Int) by decide]
  rw [fdivN, fdivN, fdivN, u8_of, u8_of, u8_of, u8_of]; rfl
theorem frame_sum (h0 : FH) (a : Option Addr) (c : Nat) (xs : List UInt8) (w : World) (hs : Sat h0 w) (hT : Half h0) (hr : BS h0 a c xs) :
    SpecV Tryd.prog 56 #[.slice a xs.length c] w (.agg (cB (sum4 xs)).toArray) := by
  have H := St.start hs
  have hx := (sumC xs).isLt
  unfold SpecV
  refine calls_of Tryd.func56 rfl Tryd.ntmps56 (by simp) ?_
  repeat' (first | ((first | refine WL.p rfl ?_ | refine WL.u ?_); first | (refine opk 1 rfl ?_; (refine ost_V H rfl (crc_Sum _ _ _ xs _ H.sat hT hr) rfl ?_; clear H; intro wk H)) | (refine opk 9 rfl ?_; (refine ost_buildAr (l := cB (le4 (sumC xs))) rfl (evP_cons (rfl : _ = Value.int .u8 _) (evP_cons (rfl : _ = Value.int .u8 _) (evP_cons (rfl : _ = Value.int .u8 _) (evP_cons (rfl : _ = Value.int .u8 _) evP_nil)))) (by rfl) (by rw [cB_le4]; rfl) ?_)) | refine pvQ ?_ | (refine opk 8 rfl ?_; (refine ost_storeW H rfl rfl rfl rfl lQ ixQ lQ okQ ?_; clear H; intro wk H; simp only [List.set_cons_zero, List.set_cons_succ, Nat.reduceAdd] at H)) | (refine opk 9 rfl ?_; (refine ost_allocA H rfl ?_; clear H; intro bk wk H))) | refine Wc.seq ?_ | refine then_n ?_ | refine WL.nil ?_ | refine Wc.region ?_ | refine Wc.block ?_ | refine then_r ?_ | refine then_e ?_ | refine inb_e rfl ?_ | refine inb_o rfl ?_ | refine inb_n ?_ | refine inb_r ?_ | refine Wc.skip ?_ | refine Wc.exit ?_ | refine Wc.ret ?_ | refine Wc.cond_true rfl ?_ | refine Wc.cond_false rfl ?_)
  refine fn_ret1 rfl (rv_cellA rfl rfl H.bI (cB_len _)) ⟨rfl, H.fr⟩
def wrapB (xs : List UInt8) : List UInt8 := fieldB xs ++ sum4 (fieldB xs)
def outW (xs : List UInt8) : List UInt8 × Int := if xs.length ≤ 4096 then (wrapB xs, 0) else ([], 3)
theorem fieldB_len' (xs : List UInt8) : (fieldB xs).length ≤ 11 + xs.length := by unfold fieldB; rw [List.length_append]; have := putB_len xs.length; omega
theorem wrapB_len (xs : List UInt8) : (wrapB xs).length ≤ 15 + xs.length := by unfold wrapB; rw [List.length_append, sum4_len]; have := fieldB_len' xs; omega
theorem frame_Wrap (h0 : FH) (a : Option Addr) (c : Nat) (xs : List UInt8) (w : World) (hs : Sat h0 w) (hT : Half h0) (hr : BS h0 a c xs) :
    Spec Tryd.prog 35 #[.slice a xs.length c] w [] h0 (fun v h' L' => ∃ a' c', v = .tuple #[.slice a' (outW xs).1.length c', .int .i64 (outW xs).2] ∧ h' = h0 ∧ L' = [own8 (.slice a' (outW xs).1.length c') 5 (outW xs).1]) := by
  have H := St.start hs
  unfold Spec
  refine calls_of Tryd.func35 rfl Tryd.ntmps35 (by simp) ?_
  by_cases hl : xs.length ≤ 4096
  · rw [show outW xs = (wrapB xs, 0) by unfold outW; rw [if_pos hl]]
    have hp := putB_len xs.length
    have hf := fieldB_len' xs
    repeat' (first | ((first | refine WL.p rfl ?_ | refine WL.u ?_); first | (refine opk 1 rfl ?_; first | (refine ost_C H rfl (vint_Put xs.length (by omega) _ _ (sat_full _)) rfl ?_; clear H; rintro vk wk hfk Lk ⟨a1, c1, rfl, _, rfl⟩ H; simp only [List.cons_append, List.nil_append] at H) | (refine ost_app8 (xs := putB xs.length) H rfl rfl rfl (by (exact ixQ)) (hr.full H) (by (try simp only [List.length_nil, List.length_append, List.length_cons, List.length_singleton]); omega) ?_; clear H; intro aa ca wk H; simp only [List.set_cons_zero, List.set_cons_succ, List.nil_append] at H) | (refine ost_V H rfl (frame_sum _ _ _ (fieldB xs) _ (sat_full _) (hT.full H) (H.own8rd (i := 0) rfl)) rfl ?_; clear H; intro wk H) | (refine ost_app8 (xs := fieldB xs) (ys := sum4 (fieldB xs)) H rfl rfl rfl idx1 (BS.ofBlk (xs := sum4 (fieldB xs)) (H.blk idx0) (by rw [sum4_len]; decide)) (by rw [sum4_len]; omega) ?_; clear H; intro aa ca wk H; simp only [List.set_cons_zero, List.set_cons_succ] at H)) | refine pvQ ?_ | (refine opk 3 rfl ?_; (refine ost_cmp rfl rfl rfl rfl (fun hc => ?_) (fun hc => ?_) <;> (simp only [cmpP] at hc; try exact prIQ))) | (refine opk 4 rfl ?_; (refine ost_cmp rfl rfl rfl rfl (fun hc => ?_) (fun hc => ?_) <;> (simp only [cmpP] at hc; try exact prIQ))) | (refine opk 8 rfl ?_; (refine ost_storeW H rfl rfl rfl rfl lQ ixQ lQ okQ ?_; clear H; intro wk H; simp only [List.set_cons_zero, List.set_cons_succ, Nat.reduceAdd] at H)) | (refine opk 9 rfl ?_; (refine ost_allocA H rfl ?_; clear H; intro bk wk H))) | refine Wc.seq ?_ | refine then_n ?_ | refine WL.nil ?_ | refine Wc.region ?_ | refine Wc.block ?_ | refine then_r ?_ | refine then_e ?_ | refine inb_e rfl ?_ | refine inb_o rfl ?_ | refine inb_n ?_ | refine inb_r ?_ | refine Wc.skip ?_ | refine Wc.exit ?_ | refine Wc.ret ?_ | refine Wc.cond_true rfl ?_ | refine Wc.cond_false rfl ?_)
    exact fn_ret2 (v1 := .slice _ _ _) (v2 := .int _ _) rfl rfl rfl ⟨_, _, H.pick 1 rfl, _, _, rfl, rfl, rfl⟩
  · rw [show outW xs = ([], 3) by unfold outW; rw [if_neg hl]]
    repeat' (first | ((first | refine WL.p rfl ?_ | refine WL.u ?_); first | refine pvQ ?_ | (refine opk 3 rfl ?_; (refine ost_cmp rfl rfl rfl rfl (fun hc => ?_) (fun hc => ?_) <;> (simp only [cmpP] at hc; try exact prIQ))) | (refine opk 4 rfl ?_; (refine ost_cmp rfl rfl rfl rfl (fun hc => ?_) (fun hc => ?_) <;> (simp only [cmpP] at hc; try exact prIQ))) | (refine opk 8 rfl ?_; (refine ost_storeW H rfl rfl rfl rfl lQ ixQ lQ okQ ?_; clear H; intro wk H; simp only [List.set_cons_zero, List.set_cons_succ, Nat.reduceAdd] at H)) | (refine opk 9 rfl ?_; (refine ost_allocA H rfl ?_; clear H; intro bk wk H))) | refine Wc.seq ?_ | refine then_n ?_ | refine WL.nil ?_ | refine Wc.region ?_ | refine Wc.block ?_ | refine then_r ?_ | refine then_e ?_ | refine inb_e rfl ?_ | refine inb_o rfl ?_ | refine inb_n ?_ | refine inb_r ?_ | refine Wc.skip ?_ | refine Wc.exit ?_ | refine Wc.ret ?_ | refine Wc.cond_true rfl ?_ | refine Wc.cond_false rfl ?_)
    exact fn_ret2 (v1 := .slice _ _ _) (v2 := .int _ _) rfl rfl rfl ⟨_, _, (H.nil8 5).pick 0 rfl, _, _, rfl, rfl, rfl⟩
end Go.Tg

set_option linter.unusedVariables false
set_option linter.unusedSimpArgs false
set_option maxRecDepth 100000
set_option maxHeartbeats 4000000
namespace Go.Tg
open Go Go.Proofs
theorem clone8n (n : Nat) (h0 : FH) (a : Option Addr) (c : Nat) (xs : List UInt8) (w : World) (hs : Sat h0 w) (hn : n = xs.length) (hr : BS h0 a c xs) (hb : xs.length ≤ 1000000000) :
    Spec Tryd.prog 55 #[.slice a n c] w [] h0 (fun v h' L' => ∃ a' c', v = .slice a' n c' ∧ h' = h0 ∧ L' = [.own v 5 1 n (cB xs)]) := by
  subst hn; exact clone8 h0 a c xs w hs hr hb
theorem frame_sumn (n : Nat) (h0 : FH) (a : Option Addr) (c : Nat) (xs : List UInt8) (w : World) (hs : Sat h0 w) (hT : Half h0) (hn : n = xs.length) (hr : BS h0 a c xs) :
    SpecV Tryd.prog 56 #[.slice a n c] w (.agg (cB (sum4 xs)).toArray) := by
  subst hn; exact frame_sum h0 a c xs w hs hT hr
def firstF (b : List UInt8) : List UInt8 × Nat × Nat :=
  if (getB b).2.2 ≠ 0 then ([], 0, (getB b).2.2) else if 4096 < (getB b).1 then ([], 0, 5) else if b.length < (getB b).2.1 + (getB b).1 + 4 then ([], 0, 4)
  else if sum4 (b.take ((getB b).2.1 + (getB b).1)) ≠ (b.drop ((getB b).2.1 + (getB b).1)).take 4 then ([], 0, 6)
  else ((b.take ((getB b).2.1 + (getB b).1)).drop (getB b).2.1, (getB b).2.1 + (getB b).1 + 4, 0)
theorem frame_First (h0 : FH) (a : Option Addr) (c : Nat) (b : List UInt8) (w : World) (hs : Sat h0 w) (hT : Half h0) (hr : BS h0 a c b) (hb : b.length ≤ 1000000000) :
    Spec Tryd.prog 38 #[.slice a b.length c] w [] h0 (fun v h' L' => ∃ a' c', v = .tuple #[.slice a' (firstF b).1.length c', .int .i64 (firstF b).2.1, .int .i64 (firstF b).2.2] ∧ h' = h0 ∧ L' = [own8 (.slice a' (firstF b).1.length c') 5 (firstF b).1]) := by
  have H := St.start hs
  have hcap := hr.le
  have hv := vint_Get h0 a c b
  have hk := getB_le b
  have hn := getB_lt b
  generalize hF : firstF b = F
  unfold firstF at hF
  generalize getB b = G at hv hk hn hF
  obtain ⟨n, k, e⟩ := G
  dsimp only at hv hk hn hF
  unfold Spec
  refine calls_of Tryd.func38 rfl Tryd.ntmps38 (by simp) ?_
  by_cases he : e = 0
  · subst he
    by_cases h1 : 4096 < n
    · rw [if_neg (by omega), if_pos h1] at hF; subst hF
      repeat' (first | ((first | refine WL.p rfl ?_ | refine WL.u ?_); first | (refine opk 1 rfl ?_; (refine ost_V H rfl (hv _ H.sat hr) rfl ?_; clear H; intro wk H)) | refine pvQ ?_ | (refine opk 3 rfl ?_; first | (refine ost_eqA rfl (by decide) rfl rfl tyQ tyQ (fun hc => ?_) (fun hc => ?_) <;> try exact prEQ) | (refine ost_neA rfl (by decide) rfl rfl tyQ tyQ (fun hc => ?_) (fun hc => ?_) <;> try exact prEQ) | (refine ost_cmp rfl rfl rfl rfl (fun hc => ?_) (fun hc => ?_) <;> (simp only [cmpP] at hc; try exact prIQ))) | (refine opk 4 rfl ?_; (refine ost_cmp rfl rfl rfl rfl (fun hc => ?_) (fun hc => ?_) <;> (simp only [cmpP] at hc; try exact prIQ)))) | refine Wc.seq ?_ | refine then_n ?_ | refine WL.nil ?_ | refine Wc.region ?_ | refine Wc.block ?_ | refine then_r ?_ | refine then_e ?_ | refine inb_e rfl ?_ | refine inb_o rfl ?_ | refine inb_n ?_ | refine inb_r ?_ | refine Wc.skip ?_ | refine Wc.exit ?_ | refine Wc.ret ?_ | refine Wc.cond_true rfl ?_ | refine Wc.cond_false rfl ?_ | (refine Wc.drawn (id := 9) 9 (by kernel_rfl) ?_) | (refine rgs_nil ?_; intro vs wk hE; replace H := H.ext hE; clear hE) | (refine RGs.bq (fun _ => rfl) rfl (by intro vs w hE hP; have H := H.ext hE; first | exact dbQ | fail) (fun hc => ?_) (fun hc => ?_) <;> ((try simp only [cmpP, decide_eq_true_eq, decide_eq_false_iff_not, dcd_iff, dcd_no] at hc); try exact prDQ)) | refine RGs.pq (fun _ => rfl) rfl (by intro vs w hE hP; have H := H.ext hE; first | exact dvQ | fail) ?_)
      exact fn_ret3 (v1 := .slice _ _ _) (v2 := .int _ _) (v3 := .int _ _) rfl rfl rfl rfl ⟨_, _, (H.nil8 5).pick 0 rfl, _, _, rfl, rfl, rfl⟩
    · by_cases h2 : b.length < k + n + 4
      · rw [if_neg (by omega), if_neg h1, if_pos h2] at hF; subst hF
        repeat' (first | ((first | refine WL.p rfl ?_ | refine WL.u ?_); first | (refine opk 1 rfl ?_; (refine ost_V H rfl (hv _ H.sat hr) rfl ?_; clear H; intro wk H)) | refine pvQ ?_ | (refine opk 3 rfl ?_; first | (refine ost_eqA rfl (by decide) rfl rfl tyQ tyQ (fun hc => ?_) (fun hc => ?_) <;> try exact prEQ) | (refine ost_neA rfl (by decide) rfl rfl tyQ tyQ (fun hc => ?_) (fun hc => ?_) <;> try exact prEQ) | (refine ost_cmp rfl rfl rfl rfl (fun hc => ?_) (fun hc => ?_) <;> (simp only [cmpP] at hc; try exact prIQ))) | (refine opk 4 rfl ?_; (refine ost_cmp rfl rfl rfl rfl (fun hc => ?_) (fun hc => ?_) <;> (simp only [cmpP] at hc; try exact prIQ)))) | refine Wc.seq ?_ | refine then_n ?_ | refine WL.nil ?_ | refine Wc.region ?_ | refine Wc.block ?_ | refine then_r ?_ | refine then_e ?_ | refine inb_e rfl ?_ | refine inb_o rfl ?_ | refine inb_n ?_ | refine inb_r ?_ | refine Wc.skip ?_ | refine Wc.exit ?_ | refine Wc.ret ?_ | refine Wc.cond_true rfl ?_ | refine Wc.cond_false rfl ?_ | (refine Wc.drawn (id := 9) 9 (by kernel_rfl) ?_) | (refine rgs_nil ?_; intro vs wk hE; replace H := H.ext hE; clear hE) | (refine RGs.bq (fun _ => rfl) rfl (by intro vs w hE hP; have H := H.ext hE; first | exact dbQ | fail) (fun hc => ?_) (fun hc => ?_) <;> ((try simp only [cmpP, decide_eq_true_eq, decide_eq_false_iff_not, dcd_iff, dcd_no] at hc); try exact prDQ)) | refine RGs.pq (fun _ => rfl) rfl (by intro vs w hE hP; have H := H.ext hE; first | exact dvQ | fail) ?_)
        exact fn_ret3 (v1 := .slice _ _ _) (v2 := .int _ _) (v3 := .int _ _) rfl rfl rfl rfl ⟨_, _, (H.nil8 5).pick 0 rfl, _, _, rfl, rfl, rfl⟩
      · have t1 : (b.take (k + n)).length = k + n := by simp; omega
        have t2 : ((b.drop (k + n)).take 4).length = 4 := by simp; omega
        have t3 : ((b.take (k + n)).drop k).length = n := by simp; omega
        have t5 : k + n - k = ((b.take (k + n)).drop k).length := by rw [t3]; omega
        have t4 : (cB ((b.drop (k + n)).take 4)).length = 4 := by rw [cB_len, t2]
        have y1 := typed_cB4 (sum4_len (b.take (k + n)))
        have y2 := typed_cB4 t2
        by_cases h3 : sum4 (b.take (k + n)) = (b.drop (k + n)).take 4
        · rw [if_neg (by omega), if_neg h1, if_neg h2, if_neg (by simpa using h3)] at hF; subst hF
          repeat' (first | ((first | refine WL.p rfl ?_ | refine WL.u ?_); first | (refine opk 1 rfl ?_; first | (refine ost_V H rfl (hv _ H.sat hr) rfl ?_; clear H; intro wk H) | (refine ost_C H rfl (clone8n (k + n - k) _ _ _ ((b.take (k + n)).drop k) _ (sat_full _) t5 (((hr.full H).take (k + n)).drop (n := k) (by rw [t1]; omega)) (by omega)) rfl ?_; clear H; rintro vk wk hfk Lk ⟨a1, c1, rfl, rfl, rfl⟩ H; simp only [List.cons_append, List.nil_append] at H)) | refine pvQ ?_ | (refine opk 3 rfl ?_; first | (refine ost_eqA rfl (by decide) rfl rfl tyQ tyQ (fun hc => ?_) (fun hc => ?_) <;> try exact prEQ) | (refine ost_neA rfl (by decide) rfl rfl tyQ tyQ (fun hc => ?_) (fun hc => ?_) <;> try exact prEQ) | (refine ost_cmp rfl rfl rfl rfl (fun hc => ?_) (fun hc => ?_) <;> (simp only [cmpP] at hc; try exact prIQ))) | (refine opk 4 rfl ?_; (refine ost_cmp rfl rfl rfl rfl (fun hc => ?_) (fun hc => ?_) <;> (simp only [cmpP] at hc; try exact prIQ)))) | refine Wc.seq ?_ | refine then_n ?_ | refine WL.nil ?_ | refine Wc.region ?_ | refine Wc.block ?_ | refine then_r ?_ | refine then_e ?_ | refine inb_e rfl ?_ | refine inb_o rfl ?_ | refine inb_n ?_ | refine inb_r ?_ | refine Wc.skip ?_ | refine Wc.exit ?_ | refine Wc.ret ?_ | refine Wc.cond_true rfl ?_ | refine Wc.cond_false rfl ?_ | (refine Wc.drawn (id := 9) 9 (by kernel_rfl) ?_) | (refine rgs_nil ?_; intro vs wk hE; replace H := H.ext hE; clear hE) | (refine RGs.bq (fun _ => rfl) rfl (by intro vs w hE hP; have H := H.ext hE; first | exact dbQ | fail) (fun hc => ?_) (fun hc => ?_) <;> ((try simp only [cmpP, decide_eq_true_eq, decide_eq_false_iff_not, dcd_iff, dcd_no] at hc); try exact prDQ)) | refine RGs.pq (fun _ => rfl) rfl (by intro vs w hE hP; have H := H.ext hE; first | (refine opk 1 rfl ?_; (exact ost_V0d rfl (frame_sumn (k + n) _ _ _ (b.take (k + n)) _ (sat_full _) (hT.full H) t1.symm ((hr.full H).take (k + n))) rfl)) | (refine opk 2 rfl ?_; (refine ost_loadRd (cs := cB ((b.drop (k + n)).take 4)) rfl rfl rfl ((((hr.full H).drop (n := k + n) (by omega)).take 4).rd) lQ (by decide) ?_; exact ⟨Fr.refl _ _, rfl⟩)) | exact dvQ | fail) ?_)
          · exact absurd (cB_inj.2 h3) hc
          · rw [t5] at H
            exact fn_ret3 (v1 := .slice _ _ _) (v2 := .int _ _) (v3 := .int _ _) rfl rfl rfl rfl ⟨_, _, H.pick 0 rfl, _, _, by rw [← t5]; rfl, rfl, rfl⟩
        · rw [if_neg (by omega), if_neg h1, if_neg h2, if_pos h3] at hF; subst hF
          repeat' (first | ((first | refine WL.p rfl ?_ | refine WL.u ?_); first | (refine opk 1 rfl ?_; first | (refine ost_V H rfl (hv _ H.sat hr) rfl ?_; clear H; intro wk H) | (refine ost_C H rfl (clone8n (k + n - k) _ _ _ ((b.take (k + n)).drop k) _ (sat_full _) t5 (((hr.full H).take (k + n)).drop (n := k) (by rw [t1]; omega)) (by omega)) rfl ?_; clear H; rintro vk wk hfk Lk ⟨a1, c1, rfl, rfl, rfl⟩ H; simp only [List.cons_append, List.nil_append] at H)) | refine pvQ ?_ | (refine opk 3 rfl ?_; first | (refine ost_eqA rfl (by decide) rfl rfl tyQ tyQ (fun hc => ?_) (fun hc => ?_) <;> try exact prEQ) | (refine ost_neA rfl (by decide) rfl rfl tyQ tyQ (fun hc => ?_) (fun hc => ?_) <;> try exact prEQ) | (refine ost_cmp rfl rfl rfl rfl (fun hc => ?_) (fun hc => ?_) <;> (simp only [cmpP] at hc; try exact prIQ))) | (refine opk 4 rfl ?_; (refine ost_cmp rfl rfl rfl rfl (fun hc => ?_) (fun hc => ?_) <;> (simp only [cmpP] at hc; try exact prIQ)))) | refine Wc.seq ?_ | refine then_n ?_ | refine WL.nil ?_ | refine Wc.region ?_ | refine Wc.block ?_ | refine then_r ?_ | refine then_e ?_ | refine inb_e rfl ?_ | refine inb_o rfl ?_ | refine inb_n ?_ | refine inb_r ?_ | refine Wc.skip ?_ | refine Wc.exit ?_ | refine Wc.ret ?_ | refine Wc.cond_true rfl ?_ | refine Wc.cond_false rfl ?_ | (refine Wc.drawn (id := 9) 9 (by kernel_rfl) ?_) | (refine rgs_nil ?_; intro vs wk hE; replace H := H.ext hE; clear hE) | (refine RGs.bq (fun _ => rfl) rfl (by intro vs w hE hP; have H := H.ext hE; first | exact dbQ | fail) (fun hc => ?_) (fun hc => ?_) <;> ((try simp only [cmpP, decide_eq_true_eq, decide_eq_false_iff_not, dcd_iff, dcd_no] at hc); try exact prDQ)) | refine RGs.pq (fun _ => rfl) rfl (by intro vs w hE hP; have H := H.ext hE; first | (refine opk 1 rfl ?_; (exact ost_V0d rfl (frame_sumn (k + n) _ _ _ (b.take (k + n)) _ (sat_full _) (hT.full H) t1.symm ((hr.full H).take (k + n))) rfl)) | (refine opk 2 rfl ?_; (refine ost_loadRd (cs := cB ((b.drop (k + n)).take 4)) rfl rfl rfl ((((hr.full H).drop (n := k + n) (by omega)).take 4).rd) lQ (by decide) ?_; exact ⟨Fr.refl _ _, rfl⟩)) | exact dvQ | fail) ?_)
          · exact fn_ret3 (v1 := .slice _ _ _) (v2 := .int _ _) (v3 := .int _ _) rfl rfl rfl rfl ⟨_, _, (H.nil8 5).pick 0 rfl, _, _, rfl, rfl, rfl⟩
          · exact absurd (cB_inj.1 hc) h3
  · rw [if_pos he] at hF; subst hF
    repeat' (first | ((first | refine WL.p rfl ?_ | refine WL.u ?_); first | (refine opk 1 rfl ?_; (refine ost_V H rfl (hv _ H.sat hr) rfl ?_; clear H; intro wk H)) | refine pvQ ?_ | (refine opk 3 rfl ?_; first | (refine ost_eqA rfl (by decide) rfl rfl tyQ tyQ (fun hc => ?_) (fun hc => ?_) <;> try exact prEQ) | (refine ost_neA rfl (by decide) rfl rfl tyQ tyQ (fun hc => ?_) (fun hc => ?_) <;> try exact prEQ) | (refine ost_cmp rfl rfl rfl rfl (fun hc => ?_) (fun hc => ?_) <;> (simp only [cmpP] at hc; try exact prIQ))) | (refine opk 4 rfl ?_; (refine ost_cmp rfl rfl rfl rfl (fun hc => ?_) (fun hc => ?_) <;> (simp only [cmpP] at hc; try exact prIQ)))) | refine Wc.seq ?_ | refine then_n ?_ | refine WL.nil ?_ | refine Wc.region ?_ | refine Wc.block ?_ | refine then_r ?_ | refine then_e ?_ | refine inb_e rfl ?_ | refine inb_o rfl ?_ | refine inb_n ?_ | refine inb_r ?_ | refine Wc.skip ?_ | refine Wc.exit ?_ | refine Wc.ret ?_ | refine Wc.cond_true rfl ?_ | refine Wc.cond_false rfl ?_ | (refine Wc.drawn (id := 9) 9 (by kernel_rfl) ?_) | (refine rgs_nil ?_; intro vs wk hE; replace H := H.ext hE; clear hE) | (refine RGs.bq (fun _ => rfl) rfl (by intro vs w hE hP; have H := H.ext hE; first | exact dbQ | fail) (fun hc => ?_) (fun hc => ?_) <;> ((try simp only [cmpP, decide_eq_true_eq, decide_eq_false_iff_not, dcd_iff, dcd_no] at hc); try exact prDQ)) | refine RGs.pq (fun _ => rfl) rfl (by intro vs w hE hP; have H := H.ext hE; first | exact dvQ | fail) ?_)
    exact fn_ret3 (v1 := .slice _ _ _) (v2 := .int _ _) (v3 := .int _ _) rfl rfl rfl rfl ⟨_, _, (H.nil8 5).pick 0 rfl, _, _, rfl, rfl, rfl⟩
end Go.Tg

