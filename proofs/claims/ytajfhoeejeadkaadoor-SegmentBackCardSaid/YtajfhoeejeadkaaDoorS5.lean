/- Contracts of Go functions that the laws reach: what each call answers and leaves in memory, for all arguments within the bounds that each theorem names. -/
import Derived.Test.YtajfhoeejeadkaaDoorInst
import Derived.Test.YtajfhoeejeadkaaDoorAuto
import Derived.Test.YtajfhoeejeadkaaDoorS2
import Derived.Test.YtajfhoeejeadkaaDoorPick
set_option linter.unusedVariables false
set_option linter.unusedSimpArgs false
set_option maxRecDepth 100000
set_option maxHeartbeats 4000000
namespace Go.Tg
open Go Go.Proofs
def nm2 (f : List UInt8) : Nat := (numE (numE 0 f).2.2.1 (numE 0 f).2.2.2).1
def ok2 (f : List UInt8) (kind : Nat) : Bool := decide ((numE 0 f).1 = kind) && (decide ((numE (numE 0 f).2.2.1 (numE 0 f).2.2.2).2.2.1 = 0) && decide ((numE (numE 0 f).2.2.1 (numE 0 f).2.2.2).2.2.2.length = 0))
theorem nm2_lt (f : List UInt8) : nm2 f < 18446744073709551616 := numE_lt _ _
theorem numE_e0 {e : Int} {xs : List UInt8} (h : (numE e xs).2.2.1 = 0) : e = 0 ∧ (numE 0 xs).2.1 = 0 := by
  by_cases he : e = 0
  · subst he
    refine ⟨rfl, ?_⟩
    by_cases h2 : (numE 0 xs).2.1 = 0
    · exact h2
    · exact absurd h (numE_err2 h2).1
  · rw [numE_err he] at h; exact absurd h he
theorem ok2_iff {f : List UInt8} {kind : Nat} (hk : kind < 18446744073709551616) : ok2 f kind = true ↔ f = numF kind (nm2 f) := by
  unfold ok2
  simp only [Bool.and_eq_true, decide_eq_true_eq, List.length_eq_zero_iff]
  constructor
  · rintro ⟨h1, h2, h3⟩
    obtain ⟨h4, h5⟩ := numE_e0 h2
    rw [h4] at h2 h3
    obtain ⟨-, h6⟩ := numE_e0 (e := 0) h4
    have h7 := numE_inv h6
    have h8 := numE_inv (numE_e0 h2).2
    rw [h3, List.append_nil] at h8
    unfold numF nm2
    rw [h4]
    rw [h8, h1] at h7
    exact h7
  · intro h
    have hn := nm2_lt f
    generalize nm2 f = n at h hn
    subst h
    unfold numF
    rw [numE_putB kind hk]
    dsimp only
    have h2 := numE_putB n hn []
    rw [List.append_nil] at h2
    rw [h2]
    exact ⟨rfl, rfl, rfl⟩
theorem nm2_of {kind n : Nat} (hk : kind < 18446744073709551616) (hn : n < 18446744073709551616) : nm2 (numF kind n) = n := by
  unfold nm2 numF
  rw [numE_putB kind hk]
  dsimp only
  have h2 := numE_putB n hn []
  rw [List.append_nil] at h2
  rw [h2]
theorem ok2_of {kind n : Nat} (hk : kind < 18446744073709551616) (hn : n < 18446744073709551616) : ok2 (numF kind n) kind = true := (ok2_iff hk).2 (by rw [nm2_of hk hn])
theorem num_fin {f : List UInt8} {kind : Nat} {q : Bool} (h : ok2 f kind = q) : Value.tuple #[.int .u64 ((numE (numE 0 f).2.2.1 (numE 0 f).2.2.2).1 : Nat), .bool q] = .tuple #[.int .u64 (nm2 f), .bool (ok2 f kind)] := by rw [h]; rfl
theorem seg_number (h0 : FH) (a : Option Addr) (c : Nat) (f : List UInt8) (kind : Nat) (w : World) (hs : Sat h0 w) (hr : BS h0 a c f) (hb : f.length ≤ 1000000) :
    SpecV Tryd.prog 84 #[.slice a f.length c, .int .u64 kind] w (.tuple #[.int .u64 (nm2 f), .bool (ok2 f kind)]) := by
  have H := St.start hs
  have hl := numE_len 0 f
  unfold SpecV
  refine calls_of Tryd.func84 rfl Tryd.ntmps84 (by simp) ?_
  repeat' (first | ((first | refine WL.p rfl ?_ | refine WL.u ?_ | refine WL.g rfl rfl ?_ | refine WL.gu rfl ?_); first | (refine opk 1 rfl ?_; (refine ost_Sk H rfl (pack_Read _ _ _ _ _ H.sat hr (by omega)) rfl ?_; clear H; rintro vk wk hfk Lk ⟨b1, a1, c1, rfl, hr1, rfl⟩ hle H; simp only [List.cons_append, List.nil_append] at H)) | refine pvQ ?_ | (refine opk 3 rfl ?_; (refine ost_cmp rfl rfl rfl rfl (fun hc => ?_) (fun hc => ?_) <;> (simp only [cmpP] at hc; try exact prIQ))) | (refine opk 4 rfl ?_; (refine ost_cmp rfl rfl rfl rfl (fun hc => ?_) (fun hc => ?_) <;> (simp only [cmpP] at hc; try exact prIQ)))) | refine Wc.seq ?_ | refine then_n ?_ | refine WL.nil ?_ | refine Wc.region ?_ | refine Wc.block ?_ | refine then_r ?_ | refine then_e ?_ | refine inb_e rfl ?_ | refine inb_o rfl ?_ | refine inb_n ?_ | refine inb_r ?_ | refine Wc.skip ?_ | refine Wc.exit ?_ | refine Wc.ret ?_ | refine Wc.cond_true rfl ?_ | refine Wc.cond_false rfl ?_ | refine WL.skp rfl rfl ?_ | refine WL.sku rfl ?_)
  repeat' (first | ((first | refine WL.p rfl ?_ | refine WL.u ?_ | refine WL.g rfl rfl ?_ | refine WL.gu rfl ?_); first | (refine opk 1 rfl ?_; first | (refine ost_H (A := rdr _ _ _ _ _ _) H rfl (by (exact ixQ)) (fun HO => rd_Num _ _ _ _ _ _ _ HO (by assumption)) rfl ?_; clear H; rintro vk wk hfk Lk ⟨rfl, rfl, a2, c2, hr2, rfl⟩ hle H; simp only [List.cons_append, List.nil_append, List.eraseIdx_cons_zero, List.eraseIdx_cons_succ] at H) | (refine ost_VB H rfl (rd_Done _ _ _ _ _ _ H.bI) rfl ?_ ?_ <;> (intro hc; (try (first | exact (bcon hc ‹_›).elim | exact (bcon ‹_› hc).elim)); try (clear H; intro wk H)))) | refine pvQ ?_ | (refine opk 3 rfl ?_; (refine ost_cmp rfl rfl rfl rfl (fun hc => ?_) (fun hc => ?_) <;> (simp only [cmpP] at hc; try exact prIQ))) | (refine opk 4 rfl ?_; (refine ost_cmp rfl rfl rfl rfl (fun hc => ?_) (fun hc => ?_) <;> (simp only [cmpP] at hc; try exact prIQ)))) | refine Wc.seq ?_ | refine then_n ?_ | refine WL.nil ?_ | refine Wc.region ?_ | refine Wc.block ?_ | refine then_r ?_ | refine then_e ?_ | refine inb_e rfl ?_ | refine inb_o rfl ?_ | refine inb_n ?_ | refine inb_r ?_ | refine Wc.skip ?_ | refine Wc.exit ?_ | refine Wc.ret ?_ | refine Wc.cond_true rfl ?_ | refine Wc.cond_false rfl ?_ | refine WL.skp rfl rfl ?_ | refine WL.sku rfl ?_)
  · exact fn_ret2 (v1 := .int _ _) (v2 := .bool _) rfl rfl rfl ⟨num_fin (by unfold ok2; rw [hc, Bool.and_true]; exact decide_eq_true (by omega)), H.fr⟩
  · exact fn_ret2 (v1 := .int _ _) (v2 := .bool _) rfl rfl rfl ⟨num_fin (by unfold ok2; rw [hc, Bool.and_false]), H.fr⟩
  · exact fn_ret2 (v1 := .int _ _) (v2 := .bool _) rfl rfl rfl ⟨num_fin (by unfold ok2; rw [decide_eq_false (by omega), Bool.false_and]), H.fr⟩
noncomputable def opS (f : List UInt8) : OpT × Bool := match isOp f with
  | some o => (o, true)
  | none => (zeroO, false)
def bt2 (f : List UInt8) : List UInt8 × Int × Int × List UInt8 := bytesE (numE 0 f).2.2.1 (numE 0 f).2.2.2
def ok3 (f : List UInt8) : Bool := decide ((numE 0 f).1 = 2) && (decide ((bt2 f).2.2.1 = 0) && decide ((bt2 f).2.2.2.length = 0))
theorem bytesE_e0 {e : Int} {xs : List UInt8} (h : (bytesE e xs).2.2.1 = 0) : e = 0 ∧ (bytesE e xs).2.1 = 0 := by
  unfold bytesE at h ⊢
  by_cases h1 : (numE e xs).2.1 = 0
  · rw [if_neg (by simpa using h1)] at h ⊢
    have he : e = 0 := Classical.byContradiction fun he => by rw [numE_err he] at h1; exact he h1
    refine ⟨he, ?_⟩
    by_cases h2 : (numE e xs).2.2.2.length < (numE e xs).1
    · rw [if_pos h2] at h; cases h
    · rw [if_neg h2]
  · rw [if_pos h1] at h
    obtain ⟨h2, h3⟩ := numE_e0 h
    rw [h2] at h1; exact absurd h3 h1
theorem bt2_yes {f : List UInt8} (h : ok3 f = true) : f = putB 2 ++ fieldB (bt2 f).1 := by
  unfold ok3 at h
  simp only [Bool.and_eq_true, decide_eq_true_eq, List.length_eq_zero_iff] at h
  obtain ⟨h1, h2, h3⟩ := h
  obtain ⟨h4, h5⟩ := bytesE_e0 h2
  obtain ⟨-, h6⟩ := numE_e0 (e := 0) h4
  have h7 := numE_inv h6
  have h8 : (numE 0 f).2.2.2 = fieldB (bt2 f).1 ++ (bt2 f).2.2.2 := by
    unfold bt2 at h2 h3 ⊢
    rw [h4] at h2 h3 h5 ⊢
    exact bytesE_inv h5
  rw [h3, List.append_nil] at h8
  rw [h8, h1] at h7
  exact h7
theorem bt2_of (c : List UInt8) (hc : c.length < 18446744073709551616) : bt2 (putB 2 ++ fieldB c) = (c, 0, 0, []) ∧ ok3 (putB 2 ++ fieldB c) = true := by
  have e1 := numE_putB 2 (by decide) (fieldB c)
  have e2 : bt2 (putB 2 ++ fieldB c) = (c, 0, 0, []) := by
    unfold bt2
    rw [e1]
    have := bytesE_fieldB c [] hc
    rw [List.append_nil] at this; exact this
  refine ⟨e2, ?_⟩
  unfold ok3
  rw [e2, e1]; rfl
theorem opS_no {f : List UInt8} (h : ok3 f = false) : opS f = (zeroO, false) := by
  have : isOp f = none := isOp_none.2 fun u hu e => by
    have := (bt2_of (encO u) (by have := encO_len u; omega)).2
    rw [show putB 2 ++ fieldB (encO u) = f from e, h] at this; cases this
  unfold opS; rw [this]
theorem opS_yes {f : List UInt8} (h : ok3 f = true) : opS f = ((decO (bt2 f).1).1, decide ((decO (bt2 f).1).2 = 0)) := by
  have hf := bt2_yes h
  rcases decO_spec (bt2 f).1 with ⟨h1, h2, h3⟩ | ⟨h1, h2, h3⟩
  · have : isOp f = some (decO (bt2 f).1).1 := by
      rw [← isOp_rec h2, show recF (decO (bt2 f).1).1 = f by unfold recF; rw [h3]; exact hf.symm]
    unfold opS; rw [this, h1]; rfl
  · have : isOp f = none := isOp_none.2 fun u hu e => by
      have h4 := (bt2_of (encO u) (by have := encO_len u; omega)).1
      rw [show putB 2 ++ fieldB (encO u) = f from e] at h4
      exact h3 u hu (by rw [h4])
    unfold opS; rw [this, h1, h2]; rfl
theorem seg_operation (h0 : FH) (a : Option Addr) (c : Nat) (f : List UInt8) (w : World) (hs : Sat h0 w) (hr : BS h0 a c f) (hb : f.length ≤ 1000000) :
    SpecV Tryd.prog 85 #[.slice a f.length c] w (.tuple #[.agg (cOp (opS f).1).toArray, .bool (opS f).2]) := by
  have H := St.start hs
  have hl := numE_len 0 f
  have hK := bytesE_len (numE 0 f).2.2.1 (numE 0 f).2.2.2
  have hy := @opS_yes f
  have hn := @opS_no f
  have h3 : ok3 f = (decide ((numE 0 f).1 = 2) && (decide ((bt2 f).2.2.1 = 0) && decide ((bt2 f).2.2.2.length = 0))) := rfl
  have ob : bytesE (numE 0 f).2.2.1 (numE 0 f).2.2.2 = bt2 f := rfl
  unfold SpecV
  refine calls_of Tryd.func85 rfl Tryd.ntmps85 (by simp) ?_
  repeat' (first | ((first | refine WL.p rfl ?_ | refine WL.u ?_ | refine WL.g rfl rfl ?_ | refine WL.gu rfl ?_); first | (refine opk 1 rfl ?_; (refine ost_Sk H rfl (pack_Read _ _ _ _ _ H.sat hr (by omega)) rfl ?_; clear H; rintro vk wk hfk Lk ⟨b1, a1, c1, rfl, hr1, rfl⟩ hle H; simp only [List.cons_append, List.nil_append] at H)) | refine pvQ ?_ | (refine opk 3 rfl ?_; (refine ost_cmp rfl rfl rfl rfl (fun hc => ?_) (fun hc => ?_) <;> (simp only [cmpP] at hc; try exact prIQ))) | (refine opk 4 rfl ?_; (refine ost_cmp rfl rfl rfl rfl (fun hc => ?_) (fun hc => ?_) <;> (simp only [cmpP] at hc; try exact prIQ))) | (refine opk 8 rfl ?_; (refine ost_storeW H rfl rfl rfl rfl lQ ixQ lQ okQ ?_; clear H; intro wk H; simp only [List.set_cons_zero, List.set_cons_succ, Nat.reduceAdd] at H)) | (refine opk 9 rfl ?_; (refine ost_allocA H rfl ?_; clear H; intro bk wk H))) | refine Wc.seq ?_ | refine then_n ?_ | refine WL.nil ?_ | refine Wc.region ?_ | refine Wc.block ?_ | refine then_r ?_ | refine then_e ?_ | refine inb_e rfl ?_ | refine inb_o rfl ?_ | refine inb_n ?_ | refine inb_r ?_ | refine Wc.skip ?_ | refine Wc.exit ?_ | refine Wc.ret ?_ | refine Wc.cond_true rfl ?_ | refine Wc.cond_false rfl ?_ | refine WL.skp rfl rfl ?_ | refine WL.sku rfl ?_)
  have z23 := cOp_len zeroO
  repeat' (first | ((first | refine WL.p rfl ?_ | refine WL.u ?_ | refine WL.g rfl rfl ?_ | refine WL.gu rfl ?_); first | (refine opk 1 rfl ?_; first | (refine ost_H (A := rdr _ _ _ _ _ _) H rfl (by (exact ixQ)) (fun HO => rd_Num _ _ _ _ _ _ _ HO (by assumption)) rfl ?_; clear H; rintro vk wk hfk Lk ⟨rfl, rfl, a2, c2, hr2, rfl⟩ hle H; simp only [List.cons_append, List.nil_append, List.eraseIdx_cons_zero, List.eraseIdx_cons_succ] at H) | (refine ost_H (A := rdr _ _ _ _ _ _) H rfl (by (exact ixQ)) (fun HO => rd_Bytes _ _ _ _ _ _ _ HO hr2 (by omega)) rfl ?_; clear H; rintro vk wk hfk Lk ⟨a3, c3, a4, c4, rfl, rfl, hr5, rfl⟩ hle H; simp only [List.cons_append, List.nil_append, List.eraseIdx_cons_zero, List.eraseIdx_cons_succ] at H) | (refine ost_VB H rfl (rd_Done _ _ _ _ _ _ H.bI) rfl ?_ ?_ <;> (intro hc; (try (first | exact (bcon hc ‹_›).elim | exact (bcon ‹_› hc).elim)); try (clear H; intro wk H)))) | refine pvQ ?_ | (refine opk 3 rfl ?_; (refine ost_cmp rfl rfl rfl rfl (fun hc => ?_) (fun hc => ?_) <;> (simp only [cmpP] at hc; try exact prIQ))) | (refine opk 4 rfl ?_; (refine ost_cmp rfl rfl rfl rfl (fun hc => ?_) (fun hc => ?_) <;> (simp only [cmpP] at hc; try exact prIQ))) | (refine opk 8 rfl ?_; (refine ost_storeW H rfl rfl rfl rfl lQ ixQ lQ okQ ?_; clear H; intro wk H; simp only [List.set_cons_zero, List.set_cons_succ, Nat.reduceAdd] at H)) | (refine opk 9 rfl ?_; (refine ost_allocA H rfl ?_; clear H; intro bk wk H))) | refine Wc.seq ?_ | refine then_n ?_ | refine WL.nil ?_ | refine Wc.region ?_ | refine Wc.block ?_ | refine then_r ?_ | refine then_e ?_ | refine inb_e rfl ?_ | refine inb_o rfl ?_ | refine inb_n ?_ | refine inb_r ?_ | refine Wc.skip ?_ | refine Wc.exit ?_ | refine Wc.ret ?_ | refine Wc.cond_true rfl ?_ | refine Wc.cond_false rfl ?_ | refine WL.skp rfl rfl ?_ | refine WL.sku rfl ?_)
  · refine fn_ret2 (v2 := .bool _) rfl (rv_cellA rfl rfl H.bI lQ) rfl ⟨?_, H.fr⟩
    rw [hn (by rw [h3, decide_eq_false (by omega), Bool.false_and])]; rfl
  · rw [ob] at H hK hc
    have hyy := hy (by rw [h3, hc, Bool.and_true]; exact decide_eq_true (by omega))
    obtain ⟨a6, c6, h6, e6, hle6, hr6, H⟩ := H.freeze8
    injection e6 with e61 e62 e63
    rw [← e61, ← e63] at hr6
    rw [hyy]
    have hD := op_Decode h6 a3 c3 (bt2 f).1
    have lx := cOp_len (decO (bt2 f).1).1
    generalize decO (bt2 f).1 = D at hD lx ⊢
    repeat' (first | ((first | refine WL.p rfl ?_ | refine WL.u ?_ | refine WL.g rfl rfl ?_ | refine WL.gu rfl ?_); first | (refine opk 1 rfl ?_; (refine ost_V H rfl (hD _ H.sat hr6 (by omega)) rfl ?_; clear H; intro wk H)) | refine pvQ ?_ | (refine opk 3 rfl ?_; (refine ost_cmp rfl rfl rfl rfl (fun hc => ?_) (fun hc => ?_) <;> (simp only [cmpP] at hc; try exact prIQ))) | (refine opk 4 rfl ?_; (refine ost_cmp rfl rfl rfl rfl (fun hc => ?_) (fun hc => ?_) <;> (simp only [cmpP] at hc; try exact prIQ))) | (refine opk 8 rfl ?_; (refine ost_storeW H rfl rfl rfl rfl lQ ixQ lQ okQ ?_; clear H; intro wk H; simp only [List.set_cons_zero, List.set_cons_succ, Nat.reduceAdd] at H)) | (refine opk 9 rfl ?_; (refine ost_allocA H rfl ?_; clear H; intro bk wk H))) | refine Wc.seq ?_ | refine then_n ?_ | refine WL.nil ?_ | refine Wc.region ?_ | refine Wc.block ?_ | refine then_r ?_ | refine then_e ?_ | refine inb_e rfl ?_ | refine inb_o rfl ?_ | refine inb_n ?_ | refine inb_r ?_ | refine Wc.skip ?_ | refine Wc.exit ?_ | refine Wc.ret ?_ | refine Wc.cond_true rfl ?_ | refine Wc.cond_false rfl ?_ | refine WL.skp rfl rfl ?_ | refine WL.sku rfl ?_)
    · refine fn_ret2 (v2 := .bool _) rfl (rv_cellA rfl rfl H.bI lQ) rfl ⟨?_, H.fr⟩
      rw [decide_eq_true (by assumption)]
    · refine fn_ret2 (v2 := .bool _) rfl (rv_cellA rfl rfl H.bI lQ) rfl ⟨?_, H.fr⟩
      rw [decide_eq_false (by assumption)]
  · rw [ob] at hc
    refine fn_ret2 (v2 := .bool _) rfl (rv_cellA rfl rfl H.bI lQ) rfl ⟨?_, H.fr⟩
    rw [hn (by rw [h3, hc, Bool.and_false])]; rfl
end Go.Tg

set_option linter.unusedVariables false
set_option linter.unusedSimpArgs false
set_option maxRecDepth 100000
set_option maxHeartbeats 4000000
namespace Go.Tg
open Go Go.Proofs
def cI (n : Nat) : List Value := [.int .i64 (n : Int)]
theorem rows_cI (l : List Nat) : ∀ r, r ∈ l.map cI → r.length = 1 := by simp [cI]
theorem rows_cOp (l : List OpT) : ∀ r, r ∈ l.map cOp → r.length = 23 := by
  intro r hr
  obtain ⟨o, -, rfl⟩ := List.mem_map.1 hr
  exact cOp_len o
structure IAd where
  ao : Option Addr
  co : Nat
  at_ : Option Addr
  ct : Nat
def ifL (id : UInt32) (no nt : Nat) (sld : Bool) (used : Nat) (ao : Option Addr) (co : Nat) (at_ : Option Addr) (ct : Nat) : List Value := [.int .u32 id.toNat, .slice ao no co, .slice at_ nt ct, .bool sld, .int .i64 (used : Int)]
def ifV (x : InfT) (A : IAd) : List Value := ifL x.id x.ops.length x.ats.length x.sld x.used A.ao A.co A.at_ A.ct
structure IfR (h : FH) (x : InfT) (A : IAd) : Prop where
  o : Sl h 23 A.ao A.co (x.ops.map cOp)
  t : Sl h 1 A.at_ A.ct (x.ats.map cI)
theorem IfR.mono {h h' : FH} {x : InfT} {A : IAd} (r : IfR h x A) (hl : FLe h h') : IfR h' x A := ⟨r.o.mono hl, r.t.mono hl⟩
def zeroIA : IAd := ⟨none, 0, none, 0⟩
theorem zeroI_R (h : FH) : IfR h zeroI zeroIA := ⟨Sl.nil _ _, Sl.nil _ _⟩
theorem frame_Firstn (n : Nat) (h0 : FH) (a : Option Addr) (c : Nat) (b : List UInt8) (w : World) (hs : Sat h0 w) (hT : Half h0) (hn : n = b.length) (hr : BS h0 a c b) (hb : b.length ≤ 1000000000) :
    Spec Tryd.prog 69 #[.slice a n c] w [] h0 (fun v h' L' => ∃ a' c', v = .tuple #[.slice a' (firstF b).1.length c', .int .i64 (firstF b).2.1, .int .i64 (firstF b).2.2] ∧ h' = h0 ∧ L' = [own8 (.slice a' (firstF b).1.length c') 5 (firstF b).1]) := by
  subst hn; exact frame_First h0 a c b w hs hT hr hb
noncomputable def segQ (b : List UInt8) (ops : List OpT) (ats : List Nat) (sld : Bool) (used : Nat) : List OpT × List Nat × Bool × Nat :=
  if sld = true then (ops, ats, true, used) else (ops ++ (segR (frames (b.drop used)) ops.length used).1, ats ++ (segR (frames (b.drop used)) ops.length used).2.1, (segR (frames (b.drop used)) ops.length used).2.2)
theorem segQ_sld (b : List UInt8) (ops : List OpT) (ats : List Nat) (used : Nat) : segQ b ops ats true used = (ops, ats, true, used) := rfl
theorem segQ_no {b : List UInt8} {ops : List OpT} {ats : List Nat} {used : Nat} (h : (firstF (b.drop used)).2.2 ≠ 0) : segQ b ops ats false used = (ops, ats, false, used) := by
  unfold segQ
  rw [if_neg (by simp), frames_no h]
  simp [segR]
theorem segQ_op {b : List UInt8} {ops : List OpT} {ats : List Nat} {used : Nat} {o : OpT} (h : (firstF (b.drop used)).2.2 = 0) (ho : isOp (firstF (b.drop used)).1 = some o) : segQ b ops ats false used = segQ b (ops ++ [o]) (ats ++ [used]) false (used + (firstF (b.drop used)).2.1) := by
  have hw : (wrapB (firstF (b.drop used)).1).length = (firstF (b.drop used)).2.1 := by
    obtain ⟨h1, h2, h3⟩ := firstF_ok h
    rw [← h1, List.length_take]; omega
  unfold segQ
  rw [if_neg (by simp), if_neg (by simp), frames_ok h, segR_op ho, hw, List.drop_drop, List.length_append]
  simp
theorem segQ_foot {b : List UInt8} {ops : List OpT} {ats : List Nat} {used : Nat} (h : (firstF (b.drop used)).2.2 = 0) (ho : isOp (firstF (b.drop used)).1 = none) (hf : (firstF (b.drop used)).1 = numF 3 ops.length) : segQ b ops ats false used = segQ b ops ats true (used + (firstF (b.drop used)).2.1) := by
  have hw : (wrapB (firstF (b.drop used)).1).length = (firstF (b.drop used)).2.1 := by
    obtain ⟨h1, h2, h3⟩ := firstF_ok h
    rw [← h1, List.length_take]; omega
  unfold segQ
  rw [if_neg (by simp), if_pos rfl, frames_ok h, segR_foot ho hf, hw]
  simp
theorem segQ_end {b : List UInt8} {ops : List OpT} {ats : List Nat} {used : Nat} (h : (firstF (b.drop used)).2.2 = 0) (ho : isOp (firstF (b.drop used)).1 = none) (hf : (firstF (b.drop used)).1 ≠ numF 3 ops.length) : segQ b ops ats false used = (ops, ats, false, used) := by
  unfold segQ
  rw [if_neg (by simp), frames_ok h, segR_no ho hf]
  simp
theorem Agree.env0 {M : List Nat} {s s0 : Env} (h : Agree M s s0) : ∃ j, s = Go.Tg.havoc M j s0 := ⟨s, h.eq⟩
theorem seg_Scan (h0 : FH) (a : Option Addr) (c : Nat) (b : List UInt8) (w : World) (hs : Sat h0 w) (hT : Half h0) (hr : BS h0 a c b) (hb : b.length ≤ 1000000) :
    Spec Tryd.prog 40 #[.slice a b.length c] w [] h0 (fun v h' L' => ∃ A, v = .tuple #[.agg (ifV (scanS b).1 A).toArray, .int .i64 (scanS b).2] ∧ L' = [] ∧ IfR h' (scanS b).1 A) := by
  have H := St.start hs
  have hF := frame_First h0 a c b
  have hno := fun h => scanS_nil (frames_no (b := b) h)
  have hyes := fun h => frames_ok (b := b) h
  have hok := @firstF_ok b
  have hfl := firstF_len b
  generalize firstF b = F at hF hno hyes hok hfl
  obtain ⟨f, k, e⟩ := F
  dsimp only at hF hno hyes hok hfl
  unfold Spec
  refine calls_of Tryd.func40 rfl Tryd.ntmps40 (by simp) ?_
  repeat' (first | ((first | refine WL.p rfl ?_ | refine WL.u ?_ | refine WL.g rfl rfl ?_ | refine WL.gu rfl ?_); first | (refine opk 1 rfl ?_; (refine ost_Sk H rfl (hF _ H.sat hT hr (by omega)) rfl ?_; clear H; rintro vk wk hfk Lk ⟨a1, c1, rfl, e9, rfl⟩ hle H; simp only [List.cons_append, List.nil_append] at H)) | refine pvQ ?_ | (refine opk 3 rfl ?_; (refine ost_cmp rfl rfl rfl rfl (fun hc => ?_) (fun hc => ?_) <;> (simp only [cmpP] at hc; try exact prIQ))) | (refine opk 4 rfl ?_; (refine ost_cmp rfl rfl rfl rfl (fun hc => ?_) (fun hc => ?_) <;> (simp only [cmpP] at hc; try exact prIQ))) | (refine opk 8 rfl ?_; first | (refine ost_store1 H rfl rfl vlQ gvQ ixQ (by first | decide | (simp; omega) | (simp; done) | omega) ?_; clear H; intro wk H; simp only [List.set_cons_zero, List.set_cons_succ, Nat.reduceAdd] at H) | (refine ost_storeW H rfl rfl rfl rfl lQ ixQ lQ okQ ?_; clear H; intro wk H; simp only [List.set_cons_zero, List.set_cons_succ, Nat.reduceAdd] at H)) | (refine opk 9 rfl ?_; first | (refine ost_allocA H rfl ?_; clear H; intro bk wk H) | (refine ost_build1 H rfl rfl rfl evQ lsQ rfl ?_; clear H; intro bk wk H))) | refine Wc.seq ?_ | refine then_n ?_ | refine WL.nil ?_ | refine Wc.region ?_ | refine Wc.block ?_ | refine then_r ?_ | refine then_e ?_ | refine inb_e rfl ?_ | refine inb_o rfl ?_ | refine inb_n ?_ | refine inb_r ?_ | refine Wc.skip ?_ | refine Wc.exit ?_ | refine Wc.ret ?_ | refine Wc.cond_true rfl ?_ | refine Wc.cond_false rfl ?_ | refine WL.skp rfl rfl ?_ | refine WL.sku rfl ?_)
  replace e9 := e9.symm
  subst e9
  obtain ⟨a6, c6, h6, e6, hle6, hr6, H9⟩ := H.freeze8
  clear H; have H := H9; clear H9
  injection e6 with e61 e62 e63
  rw [← e61, ← e63] at hr6
  have hT6 := hT.mono hle6
  have hrb := hr.mono hle6
  clear hle hF
  have hnum := seg_number h6 a1 c1 f 1
  by_cases he : e = 0
  · subst he
    have hyes := hyes rfl
    obtain ⟨hk1, hk2, hk3⟩ := hok rfl
    have hno1 := fun hn => scanS_no hyes hn
    have hnl := nm2_lt f
    have hiff := ok2_iff (f := f) (kind := 1) (by decide)
    cases hq : ok2 f 1 with
    | false =>
      rw [hq] at hnum
      have hD := hno1 fun id e => by
        have := ok2_of (kind := 1) (n := id.toNat) (by decide) (by have := id.toNat_lt; omega)
        rw [← e, hq] at this; cases this
      rw [hD]
      repeat' (first | ((first | refine WL.p rfl ?_ | refine WL.u ?_ | refine WL.g rfl rfl ?_ | refine WL.gu rfl ?_); first | (refine opk 1 rfl ?_; (refine ost_V H rfl (hnum _ H.sat hr6 (by omega)) rfl ?_; clear H; intro wk H)) | refine pvQ ?_ | (refine opk 3 rfl ?_; (refine ost_cmp rfl rfl rfl rfl (fun hc => ?_) (fun hc => ?_) <;> (simp only [cmpP] at hc; try exact prIQ))) | (refine opk 4 rfl ?_; (refine ost_cmp rfl rfl rfl rfl (fun hc => ?_) (fun hc => ?_) <;> (simp only [cmpP] at hc; try exact prIQ))) | (refine opk 8 rfl ?_; first | (refine ost_store1 H rfl rfl vlQ gvQ ixQ (by first | decide | (simp; omega) | (simp; done) | omega) ?_; clear H; intro wk H; simp only [List.set_cons_zero, List.set_cons_succ, Nat.reduceAdd] at H) | (refine ost_storeW H rfl rfl rfl rfl lQ ixQ lQ okQ ?_; clear H; intro wk H; simp only [List.set_cons_zero, List.set_cons_succ, Nat.reduceAdd] at H)) | (refine opk 9 rfl ?_; first | (refine ost_allocA H rfl ?_; clear H; intro bk wk H) | (refine ost_build1 H rfl rfl rfl evQ lsQ rfl ?_; clear H; intro bk wk H))) | refine Wc.seq ?_ | refine then_n ?_ | refine WL.nil ?_ | refine Wc.region ?_ | refine Wc.block ?_ | refine then_r ?_ | refine then_e ?_ | refine inb_e rfl ?_ | refine inb_o rfl ?_ | refine inb_n ?_ | refine inb_r ?_ | refine Wc.skip ?_ | refine Wc.exit ?_ | refine Wc.ret ?_ | refine Wc.cond_true rfl ?_ | refine Wc.cond_false rfl ?_ | refine WL.skp rfl rfl ?_ | refine WL.sku rfl ?_)
      exact fn_ret2 (v2 := .int _ _) rfl (rv_cellA rfl rfl H.bI lQ) rfl ⟨_, _, H.pick0, zeroIA, rfl, rfl, zeroI_R _⟩
    | true =>
      rw [hq] at hnum
      have hf := hiff.1 hq
      by_cases hid : 4294967295 < nm2 f
      · have hD := hno1 fun id e => by
          have := nm2_of (kind := 1) (n := id.toNat) (by decide) (by have := id.toNat_lt; omega)
          rw [← e] at this
          have := id.toNat_lt
          omega
        rw [hD]
        repeat' (first | ((first | refine WL.p rfl ?_ | refine WL.u ?_ | refine WL.g rfl rfl ?_ | refine WL.gu rfl ?_); first | (refine opk 1 rfl ?_; (refine ost_V H rfl (hnum _ H.sat hr6 (by omega)) rfl ?_; clear H; intro wk H)) | refine pvQ ?_ | (refine opk 3 rfl ?_; (refine ost_cmp rfl rfl rfl rfl (fun hc => ?_) (fun hc => ?_) <;> (simp only [cmpP] at hc; try exact prIQ))) | (refine opk 4 rfl ?_; (refine ost_cmp rfl rfl rfl rfl (fun hc => ?_) (fun hc => ?_) <;> (simp only [cmpP] at hc; try exact prIQ))) | (refine opk 8 rfl ?_; first | (refine ost_store1 H rfl rfl vlQ gvQ ixQ (by first | decide | (simp; omega) | (simp; done) | omega) ?_; clear H; intro wk H; simp only [List.set_cons_zero, List.set_cons_succ, Nat.reduceAdd] at H) | (refine ost_storeW H rfl rfl rfl rfl lQ ixQ lQ okQ ?_; clear H; intro wk H; simp only [List.set_cons_zero, List.set_cons_succ, Nat.reduceAdd] at H)) | (refine opk 9 rfl ?_; first | (refine ost_allocA H rfl ?_; clear H; intro bk wk H) | (refine ost_build1 H rfl rfl rfl evQ lsQ rfl ?_; clear H; intro bk wk H))) | refine Wc.seq ?_ | refine then_n ?_ | refine WL.nil ?_ | refine Wc.region ?_ | refine Wc.block ?_ | refine then_r ?_ | refine then_e ?_ | refine inb_e rfl ?_ | refine inb_o rfl ?_ | refine inb_n ?_ | refine inb_r ?_ | refine Wc.skip ?_ | refine Wc.exit ?_ | refine Wc.ret ?_ | refine Wc.cond_true rfl ?_ | refine Wc.cond_false rfl ?_ | refine WL.skp rfl rfl ?_ | refine WL.sku rfl ?_)
        exact fn_ret2 (v2 := .int _ _) rfl (rv_cellA rfl rfl H.bI lQ) rfl ⟨_, _, H.pick0, zeroIA, rfl, rfl, zeroI_R _⟩
      · obtain ⟨id, hid2⟩ : ∃ id : UInt32, nm2 f = id.toNat := ⟨UInt32.ofNat (nm2 f), by simp; omega⟩
        rw [hid2] at hf hnum
        have hS := scanS_ok (b := b) (id := id) (by rw [← hf]; exact hyes)
        rw [hS]
        have hw : (wrapB (numF 1 id.toNat)).length = k := by rw [← hf, ← hk1, List.length_take]; omega
        rw [hw]
        have hidl := id.toNat_lt
        repeat' (first | ((first | refine WL.p rfl ?_ | refine WL.u ?_ | refine WL.g rfl rfl ?_ | refine WL.gu rfl ?_); first | (refine opk 1 rfl ?_; (refine ost_V H rfl (hnum _ H.sat hr6 (by omega)) rfl ?_; clear H; intro wk H)) | refine pvQ ?_ | (refine opk 3 rfl ?_; (refine ost_cmp rfl rfl rfl rfl (fun hc => ?_) (fun hc => ?_) <;> (simp only [cmpP] at hc; try exact prIQ))) | (refine opk 4 rfl ?_; (refine ost_cmp rfl rfl rfl rfl (fun hc => ?_) (fun hc => ?_) <;> (simp only [cmpP] at hc; try exact prIQ))) | (refine opk 8 rfl ?_; first | (refine ost_store1 H rfl rfl vlQ gvQ ixQ (by first | decide | (simp; omega) | (simp; done) | omega) ?_; clear H; intro wk H; simp only [List.set_cons_zero, List.set_cons_succ, Nat.reduceAdd] at H) | (refine ost_storeW H rfl rfl rfl rfl lQ ixQ lQ okQ ?_; clear H; intro wk H; simp only [List.set_cons_zero, List.set_cons_succ, Nat.reduceAdd] at H)) | (refine opk 9 rfl ?_; first | (refine ost_allocA H rfl ?_; clear H; intro bk wk H) | (refine ost_build1 H rfl rfl rfl evQ lsQ rfl ?_; clear H; intro bk wk H))) | refine Wc.seq ?_ | refine then_n ?_ | refine WL.nil ?_ | refine Wc.region ?_ | refine Wc.block ?_ | refine then_r ?_ | refine then_e ?_ | refine inb_e rfl ?_ | refine inb_o rfl ?_ | refine inb_n ?_ | refine inb_r ?_ | refine Wc.skip ?_ | refine Wc.exit ?_ | refine Wc.ret ?_ | refine Wc.cond_true rfl ?_ | refine Wc.cond_false rfl ?_ | refine WL.skp rfl rfl ?_ | refine WL.sku rfl ?_)
        obtain ⟨bi, ebi⟩ := H.nameB idx0
        subst ebi
        obtain ⟨b2, eb2⟩ := H.nameB idx1
        subst eb2
        generalize hR : segR (frames (b.drop k)) 0 k = R0
        have hQ0 : segQ b [] [] false k = R0 := by
          unfold segQ; rw [if_neg (by simp)]
          show ([] ++ (segR (frames (b.drop k)) 0 k).1, [] ++ (segR (frames (b.drop k)) 0 k).2.1, (segR (frames (b.drop k)) 0 k).2.2) = R0
          rw [hR]; rfl
        clear hno hyes hok hno1 hiff hS hR hk1 hr6 hnum
        replace H : St w [] h0 h6 [ownR (.slice none (([] : List OpT).map cOp).length 0) 67 23 (([] : List OpT).map cOp), ownR (.slice none (([] : List Nat).map cI).length 0) 3 1 (([] : List Nat).map cI), .blk bi (.cells (ifL id (([] : List OpT).map cOp).length (([] : List Nat).map cI).length false k none 0 none 0).toArray 77 (0, 0)), .blk b2 (.cells (ifL 0 0 0 false 0 none 0 none 0).toArray 77 (0, 0))] wk := (H.nilOwn 3 1).nilOwn 67 23
        refine Wc.loopE (fun s0 m s w' => ∃ (ops : List OpT) (ats : List Nat) (sld : Bool) (used : Nat) (ao : Option Addr) (co : Nat) (at_ : Option Addr) (ct : Nat), m = (if sld = true then 0 else b.length + 1 - used) ∧ used ≤ b.length ∧ ops.length ≤ used ∧ ats.length = ops.length ∧ segQ b ops ats sld used = R0 ∧ Agree [10, 11, 12, 13, 14, 15, 16, 43, 44, 45, 46, 47, 48, 49, 50, 51, 52, 53, 54, 55, 56, 57, 58, 59, 60, 61, 62, 63, 64, 65, 66, 67, 68, 69, 70, 71, 72, 73, 74, 75, 76, 77, 78, 79, 80, 81, 82, 83, 84, 85, 86, 87, 88, 89, 90, 91, 92, 93, 94, 95] s s0 ∧
          St w [] h0 h6 [ownR (.slice ao (ops.map cOp).length co) 67 23 (ops.map cOp), ownR (.slice at_ (ats.map cI).length ct) 3 1 (ats.map cI), .blk bi (.cells [Value.int .u32 id.toNat, .slice ao (ops.map cOp).length co, .slice at_ (ats.map cI).length ct, .bool sld, .int .i64 (used : Nat)].toArray 77 (0, 0)), .blk b2 (.cells (ifL 0 0 0 false 0 none 0 none 0).toArray 77 (0, 0))] w') (b.length + 1 - k) ⟨[], [], false, k, none, 0, none, 0, rfl, hk3, Nat.zero_le _, rfl, hQ0, Agree.refl _ _, H⟩ ?_
        clear H hQ0
        rintro m s w' ⟨ops, ats, sld, used, ao, co, at_, ct, rfl, hu, hol, hal, hQ, hA, H⟩
        obtain ⟨j, rfl⟩ := hA.env0
        clear hA
        have hol2 : (ops.map cOp).length ≤ 1000000 := by rw [List.length_map]; omega
        have hal2 : (ats.map cI).length ≤ 1000000 := by rw [List.length_map]; omega
        cases sld with
        | true =>
          rw [segQ_sld] at hQ
          obtain ⟨ao7, co7, h7, e7, hle7, hO7, H9⟩ := H.freezeR (rows_cOp ops)
          injection e7 with e71 e72 e73
          subst e71; subst e73
          obtain ⟨at8, ct8, h8, e8, hle8, hA8, H7⟩ := H9.freezeR (rows_cI ats)
          injection e8 with e81 e82 e83
          subst e81; subst e83
          clear H H9
          have H := H7
          clear H7
          have hT8 := (hT6.mono hle7).mono hle8
          have hr8 := (hrb.mono hle7).mono hle8
          repeat' (first | ((first | refine WL.p rfl ?_ | refine WL.u ?_ | refine WL.g rfl rfl ?_ | refine WL.gu rfl ?_); first | refine pvQ ?_ | (refine opk 3 rfl ?_; (refine ost_cmp rfl rfl rfl rfl (fun hc => ?_) (fun hc => ?_) <;> (simp only [cmpP] at hc; try exact prIQ))) | (refine opk 4 rfl ?_; (refine ost_cmp rfl rfl rfl rfl (fun hc => ?_) (fun hc => ?_) <;> (simp only [cmpP] at hc; try exact prIQ))) | (refine opk 8 rfl ?_; first | (refine ost_store1 H rfl rfl vlQ gvQ ixQ (by first | decide | (simp; omega) | (simp; done) | omega) ?_; clear H; intro wk H; simp only [List.set_cons_zero, List.set_cons_succ, Nat.reduceAdd] at H) | (refine ost_storeW H rfl rfl rfl rfl lQ ixQ lQ okQ ?_; clear H; intro wk H; simp only [List.set_cons_zero, List.set_cons_succ, Nat.reduceAdd] at H)) | (refine opk 9 rfl ?_; first | (refine ost_allocA H rfl ?_; clear H; intro bk wk H) | (refine ost_build1 H rfl rfl rfl evQ lsQ rfl ?_; clear H; intro bk wk H))) | refine Wc.seq ?_ | refine then_n ?_ | refine WL.nil ?_ | refine Wc.region ?_ | refine Wc.block ?_ | refine then_r ?_ | refine then_e ?_ | refine inb_e rfl ?_ | refine inb_o rfl ?_ | refine inb_n ?_ | refine inb_r ?_ | refine Wc.skip ?_ | refine Wc.exit ?_ | refine Wc.ret ?_ | refine Wc.cond_true rfl ?_ | refine Wc.cond_false rfl ?_ | refine WL.skp rfl rfl ?_ | refine WL.sku rfl ?_)
          exact fn_ret2 (v2 := .int _ _) rfl (rv_cellA rfl rfl H.bI lQ) rfl ⟨_, _, H.pick0, ⟨ao, co, at_, ct⟩, by rw [← hQ, List.length_map, List.length_map]; rfl, rfl, by rw [← hQ]; exact ⟨hO7.mono hle8, hA8⟩⟩
        | false =>
          have hF := frame_Firstn (b.length - used)
          have hF := fun h a c w hs hT hr => hF h a c (b.drop used) w hs hT (by rw [List.length_drop]) hr (by rw [List.length_drop]; omega)
          have q1 := @segQ_no b ops ats used
          have q2 := @segQ_op b ops ats used
          have q3 := @segQ_foot b ops ats used
          have q4 := @segQ_end b ops ats used
          have hok := @firstF_ok (b.drop used)
          have hps := @firstF_pos (b.drop used)
          generalize firstF (b.drop used) = F at hF q1 q2 q3 q4 hok hps
          obtain ⟨f, k', e⟩ := F
          dsimp only at hF q1 q2 q3 q4 hok hps
          by_cases he : e = 0
          · subst he
            obtain ⟨hk1, hk2, hk3⟩ := hok rfl
            rw [List.length_drop] at hk3
            have hps := hps rfl
            have hop := fun h a c => seg_operation h a c f
            cases hio : isOp f with
            | some o =>
              rw [show opS f = (o, true) by unfold opS; rw [hio]] at hop
              have q2 := q2 rfl hio
              rw [q2] at hQ
              clear q1 q2 q3 q4 hok
              have lo := cOp_len o
              repeat' (first | ((first | refine WL.p rfl ?_ | refine WL.u ?_ | refine WL.g rfl rfl ?_ | refine WL.gu rfl ?_); first | (refine opk 1 rfl ?_; first | (refine ost_Sk H rfl (hF _ _ _ _ H.sat hT6 (hrb.drop (n := used) hu)) rfl ?_; clear H; rintro vk wk hfk Lk ⟨a7, c7, rfl, e9, rfl⟩ hle H; simp only [List.cons_append, List.nil_append] at H) | (refine ost_V H rfl (hop _ _ _ _ (sat_full _) (H.own8rd (by (exact ixQ))) (by omega)) rfl ?_; clear H; intro wk H) | (refine ost_appR (rows := ops.map cOp) (row := cOp o) H rfl rfl rfl (by (exact ixQ)) (by (exact ixQ)) (by rfl) (by first | simp; done | exact Nat.succ_pos _) lo (cOp_one o) rfl (by omega) ?_; clear H; intro aa1 ca1 wk H; simp only [List.set_cons_zero, List.set_cons_succ] at H) | (refine ost_appR (rows := ats.map cI) (row := [.int .i64 (used : Nat)]) H rfl rfl rfl (by (exact ixQ)) (by (exact ixQ)) (by rfl) (by first | simp; done | exact Nat.succ_pos _) rfl (allOne_of rfl) rfl (by omega) ?_; clear H; intro aa ca wk H; simp only [List.set_cons_zero, List.set_cons_succ] at H)) | (refine opk 9 rfl ?_; first | (refine ost_buildR (rows := [cOp o]) H rfl (by decide) rfl (by rfl) (evP1 vxQ) (.cons rfl .nil) rfl (fun r hr => by rw [List.mem_singleton.1 hr]; rfl) ?_; clear H; intro bk wk H) | (refine ost_buildR (rows := [[.int .i64 (used : Nat)]]) H rfl (by decide) rfl (by rfl) (evP1 vxQ) (.cons rfl .nil) rfl (fun r hr => by rw [List.mem_singleton.1 hr]; rfl) ?_; clear H; intro bk wk H)) | refine pvQ ?_ | (refine opk 3 rfl ?_; (refine ost_cmp rfl rfl rfl rfl (fun hc => ?_) (fun hc => ?_) <;> (simp only [cmpP] at hc; try exact prIQ))) | (refine opk 4 rfl ?_; (refine ost_cmp rfl rfl rfl rfl (fun hc => ?_) (fun hc => ?_) <;> (simp only [cmpP] at hc; try exact prIQ))) | (refine opk 8 rfl ?_; first | (refine ost_store1 H rfl rfl vlQ gvQ ixQ (by first | decide | (simp; omega) | (simp; done) | omega) ?_; clear H; intro wk H; simp only [List.set_cons_zero, List.set_cons_succ, Nat.reduceAdd] at H) | (refine ost_storeW H rfl rfl rfl rfl lQ ixQ lQ okQ ?_; clear H; intro wk H; simp only [List.set_cons_zero, List.set_cons_succ, Nat.reduceAdd] at H)) | (refine opk 9 rfl ?_; first | (refine ost_allocA H rfl ?_; clear H; intro bk wk H) | (refine ost_build1 H rfl rfl rfl evQ lsQ rfl ?_; clear H; intro bk wk H))) | refine Wc.seq ?_ | refine then_n ?_ | refine WL.nil ?_ | refine Wc.region ?_ | refine Wc.block ?_ | refine then_r ?_ | refine then_e ?_ | refine inb_e rfl ?_ | refine inb_o rfl ?_ | refine inb_n ?_ | refine inb_r ?_ | refine Wc.skip ?_ | refine Wc.exit ?_ | refine Wc.ret ?_ | refine Wc.cond_true rfl ?_ | refine Wc.cond_false rfl ?_ | refine WL.skp rfl rfl ?_ | refine WL.sku rfl ?_)
              subst e9
              exact ⟨b.length + 1 - (used + k'), by rw [if_neg (by simp)]; omega, ops ++ [o], ats ++ [used], false, used + k', aa1, ca1, aa, ca, by rw [if_neg (by simp)], by omega, by rw [List.length_append]; simp; omega, by simp [hal], hQ, by (repeat' (first | exact Agree.refl _ _ | exact Agree.havoc | refine Agree.upd rfl ?_ | refine Agree.hav2 rfl ?_)), by rw [List.map_append, List.map_append]; exact H.picks [4, 5, 6, 7] rfl (by decide)⟩
            | none =>
              rw [show opS f = (zeroO, false) by unfold opS; rw [hio]] at hop
              clear q1 q2 hok
              have lo := cOp_len zeroO
              have hnum := fun h a c => seg_number h a c f 3
              by_cases hft : f = numF 3 ops.length
              · have q3 := q3 rfl hio hft
                rw [q3] at hQ
                have o2 : ok2 f 3 = true := by rw [hft]; exact ok2_of (by decide) (by omega)
                have n2 : nm2 f = ops.length := by rw [hft]; exact nm2_of (by decide) (by omega)
                rw [o2, n2] at hnum
                have hll : (ops.map cOp).length = ops.length := List.length_map ..
                repeat' (first | ((first | refine WL.p rfl ?_ | refine WL.u ?_ | refine WL.g rfl rfl ?_ | refine WL.gu rfl ?_); first | (refine opk 1 rfl ?_; first | (refine ost_Sk H rfl (hF _ _ _ _ H.sat hT6 (hrb.drop (n := used) hu)) rfl ?_; clear H; rintro vk wk hfk Lk ⟨a7, c7, rfl, e9, rfl⟩ hle H; simp only [List.cons_append, List.nil_append] at H) | (refine ost_V H rfl (hop _ _ _ _ (sat_full _) (H.own8rd (by (exact ixQ))) (by omega)) rfl ?_; clear H; intro wk H) | (refine ost_V H rfl (hnum _ _ _ _ (sat_full _) (H.own8rd (by (exact ixQ))) (by omega)) rfl ?_; clear H; intro wk H)) | refine pvQ ?_ | (refine opk 3 rfl ?_; (refine ost_cmp rfl rfl rfl rfl (fun hc => ?_) (fun hc => ?_) <;> (simp only [cmpP] at hc; try exact prIQ))) | (refine opk 4 rfl ?_; (refine ost_cmp rfl rfl rfl rfl (fun hc => ?_) (fun hc => ?_) <;> (simp only [cmpP] at hc; try exact prIQ))) | (refine opk 8 rfl ?_; first | (refine ost_store1 H rfl rfl vlQ gvQ ixQ (by first | decide | (simp; omega) | (simp; done) | omega) ?_; clear H; intro wk H; simp only [List.set_cons_zero, List.set_cons_succ, Nat.reduceAdd] at H) | (refine ost_storeW H rfl rfl rfl rfl lQ ixQ lQ okQ ?_; clear H; intro wk H; simp only [List.set_cons_zero, List.set_cons_succ, Nat.reduceAdd] at H)) | (refine opk 9 rfl ?_; first | (refine ost_allocA H rfl ?_; clear H; intro bk wk H) | (refine ost_build1 H rfl rfl rfl evQ lsQ rfl ?_; clear H; intro bk wk H))) | refine Wc.seq ?_ | refine then_n ?_ | refine WL.nil ?_ | refine Wc.region ?_ | refine Wc.block ?_ | refine then_r ?_ | refine then_e ?_ | refine inb_e rfl ?_ | refine inb_o rfl ?_ | refine inb_n ?_ | refine inb_r ?_ | refine Wc.skip ?_ | refine Wc.exit ?_ | refine Wc.ret ?_ | refine Wc.cond_true rfl ?_ | refine Wc.cond_false rfl ?_ | refine WL.skp rfl rfl ?_ | refine WL.sku rfl ?_)
                subst e9
                exact ⟨0, by rw [if_neg (by simp)]; omega, ops, ats, true, used + k', ao, co, at_, ct, rfl, by omega, by omega, hal, hQ, by (repeat' (first | exact Agree.refl _ _ | exact Agree.havoc | refine Agree.upd rfl ?_ | refine Agree.hav2 rfl ?_)), H.picks [2, 3, 4, 5] rfl (by decide)⟩
              · have q4 := q4 rfl hio hft
                rw [q4] at hQ
                have hll : (ops.map cOp).length = ops.length := List.length_map ..
                obtain ⟨ao7, co7, h7, e7, hle7, hO7, H9⟩ := H.freezeR (rows_cOp ops)
                injection e7 with e71 e72 e73
                subst e71; subst e73
                obtain ⟨at8, ct8, h8, e8, hle8, hA8, H7⟩ := H9.freezeR (rows_cI ats)
                injection e8 with e81 e82 e83
                subst e81; subst e83
                clear H H9
                have H := H7
                clear H7
                have hT8 := (hT6.mono hle7).mono hle8
                have hr8 := (hrb.mono hle7).mono hle8
                cases o2 : ok2 f 3 with
                | true =>
                  have hne : nm2 f ≠ ops.length := fun e => hft (by rw [← e]; exact (ok2_iff (by decide)).1 o2)
                  rw [o2] at hnum
                  repeat' (first | ((first | refine WL.p rfl ?_ | refine WL.u ?_ | refine WL.g rfl rfl ?_ | refine WL.gu rfl ?_); first | (refine opk 1 rfl ?_; first | (refine ost_Sk H rfl (hF _ _ _ _ H.sat hT8 (hr8.drop (n := used) hu)) rfl ?_; clear H; rintro vk wk hfk Lk ⟨a7, c7, rfl, e9, rfl⟩ hle H; simp only [List.cons_append, List.nil_append] at H) | (refine ost_V H rfl (hop _ _ _ _ (sat_full _) (H.own8rd (by (exact ixQ))) (by omega)) rfl ?_; clear H; intro wk H) | (refine ost_V H rfl (hnum _ _ _ _ (sat_full _) (H.own8rd (by (exact ixQ))) (by omega)) rfl ?_; clear H; intro wk H)) | refine pvQ ?_ | (refine opk 3 rfl ?_; (refine ost_cmp rfl rfl rfl rfl (fun hc => ?_) (fun hc => ?_) <;> (simp only [cmpP] at hc; try exact prIQ))) | (refine opk 4 rfl ?_; (refine ost_cmp rfl rfl rfl rfl (fun hc => ?_) (fun hc => ?_) <;> (simp only [cmpP] at hc; try exact prIQ))) | (refine opk 8 rfl ?_; first | (refine ost_store1 H rfl rfl vlQ gvQ ixQ (by first | decide | (simp; omega) | (simp; done) | omega) ?_; clear H; intro wk H; simp only [List.set_cons_zero, List.set_cons_succ, Nat.reduceAdd] at H) | (refine ost_storeW H rfl rfl rfl rfl lQ ixQ lQ okQ ?_; clear H; intro wk H; simp only [List.set_cons_zero, List.set_cons_succ, Nat.reduceAdd] at H)) | (refine opk 9 rfl ?_; first | (refine ost_allocA H rfl ?_; clear H; intro bk wk H) | (refine ost_build1 H rfl rfl rfl evQ lsQ rfl ?_; clear H; intro bk wk H))) | refine Wc.seq ?_ | refine then_n ?_ | refine WL.nil ?_ | refine Wc.region ?_ | refine Wc.block ?_ | refine then_r ?_ | refine then_e ?_ | refine inb_e rfl ?_ | refine inb_o rfl ?_ | refine inb_n ?_ | refine inb_r ?_ | refine Wc.skip ?_ | refine Wc.exit ?_ | refine Wc.ret ?_ | refine Wc.cond_true rfl ?_ | refine Wc.cond_false rfl ?_ | refine WL.skp rfl rfl ?_ | refine WL.sku rfl ?_)
                  subst e9
                  exact fn_ret2 (v2 := .int _ _) rfl (rv_cellA rfl rfl H.bI lQ) rfl ⟨_, _, H.pick0, ⟨ao, co, at_, ct⟩, by rw [← hQ, List.length_map, List.length_map]; rfl, rfl, by rw [← hQ]; exact ⟨hO7.mono hle8, hA8⟩⟩
                | false =>
                  rw [o2] at hnum
                  repeat' (first | ((first | refine WL.p rfl ?_ | refine WL.u ?_ | refine WL.g rfl rfl ?_ | refine WL.gu rfl ?_); first | (refine opk 1 rfl ?_; first | (refine ost_Sk H rfl (hF _ _ _ _ H.sat hT8 (hr8.drop (n := used) hu)) rfl ?_; clear H; rintro vk wk hfk Lk ⟨a7, c7, rfl, e9, rfl⟩ hle H; simp only [List.cons_append, List.nil_append] at H) | (refine ost_V H rfl (hop _ _ _ _ (sat_full _) (H.own8rd (by (exact ixQ))) (by omega)) rfl ?_; clear H; intro wk H) | (refine ost_V H rfl (hnum _ _ _ _ (sat_full _) (H.own8rd (by (exact ixQ))) (by omega)) rfl ?_; clear H; intro wk H)) | refine pvQ ?_ | (refine opk 3 rfl ?_; (refine ost_cmp rfl rfl rfl rfl (fun hc => ?_) (fun hc => ?_) <;> (simp only [cmpP] at hc; try exact prIQ))) | (refine opk 4 rfl ?_; (refine ost_cmp rfl rfl rfl rfl (fun hc => ?_) (fun hc => ?_) <;> (simp only [cmpP] at hc; try exact prIQ))) | (refine opk 8 rfl ?_; first | (refine ost_store1 H rfl rfl vlQ gvQ ixQ (by first | decide | (simp; omega) | (simp; done) | omega) ?_; clear H; intro wk H; simp only [List.set_cons_zero, List.set_cons_succ, Nat.reduceAdd] at H) | (refine ost_storeW H rfl rfl rfl rfl lQ ixQ lQ okQ ?_; clear H; intro wk H; simp only [List.set_cons_zero, List.set_cons_succ, Nat.reduceAdd] at H)) | (refine opk 9 rfl ?_; first | (refine ost_allocA H rfl ?_; clear H; intro bk wk H) | (refine ost_build1 H rfl rfl rfl evQ lsQ rfl ?_; clear H; intro bk wk H))) | refine Wc.seq ?_ | refine then_n ?_ | refine WL.nil ?_ | refine Wc.region ?_ | refine Wc.block ?_ | refine then_r ?_ | refine then_e ?_ | refine inb_e rfl ?_ | refine inb_o rfl ?_ | refine inb_n ?_ | refine inb_r ?_ | refine Wc.skip ?_ | refine Wc.exit ?_ | refine Wc.ret ?_ | refine Wc.cond_true rfl ?_ | refine Wc.cond_false rfl ?_ | refine WL.skp rfl rfl ?_ | refine WL.sku rfl ?_)
                  subst e9
                  exact fn_ret2 (v2 := .int _ _) rfl (rv_cellA rfl rfl H.bI lQ) rfl ⟨_, _, H.pick0, ⟨ao, co, at_, ct⟩, by rw [← hQ, List.length_map, List.length_map]; rfl, rfl, by rw [← hQ]; exact ⟨hO7.mono hle8, hA8⟩⟩
          · have q1 := q1 (by omega)
            rw [q1] at hQ
            obtain ⟨ao7, co7, h7, e7, hle7, hO7, H9⟩ := H.freezeR (rows_cOp ops)
            injection e7 with e71 e72 e73
            subst e71; subst e73
            obtain ⟨at8, ct8, h8, e8, hle8, hA8, H7⟩ := H9.freezeR (rows_cI ats)
            injection e8 with e81 e82 e83
            subst e81; subst e83
            clear H H9
            have H := H7
            clear H7
            have hT8 := (hT6.mono hle7).mono hle8
            have hr8 := (hrb.mono hle7).mono hle8
            repeat' (first | ((first | refine WL.p rfl ?_ | refine WL.u ?_ | refine WL.g rfl rfl ?_ | refine WL.gu rfl ?_); first | (refine opk 1 rfl ?_; (refine ost_Sk H rfl (hF _ _ _ _ H.sat hT8 (hr8.drop (n := used) hu)) rfl ?_; clear H; rintro vk wk hfk Lk ⟨a7, c7, rfl, e9, rfl⟩ hle H; simp only [List.cons_append, List.nil_append] at H)) | refine pvQ ?_ | (refine opk 3 rfl ?_; (refine ost_cmp rfl rfl rfl rfl (fun hc => ?_) (fun hc => ?_) <;> (simp only [cmpP] at hc; try exact prIQ))) | (refine opk 4 rfl ?_; (refine ost_cmp rfl rfl rfl rfl (fun hc => ?_) (fun hc => ?_) <;> (simp only [cmpP] at hc; try exact prIQ))) | (refine opk 8 rfl ?_; first | (refine ost_store1 H rfl rfl vlQ gvQ ixQ (by first | decide | (simp; omega) | (simp; done) | omega) ?_; clear H; intro wk H; simp only [List.set_cons_zero, List.set_cons_succ, Nat.reduceAdd] at H) | (refine ost_storeW H rfl rfl rfl rfl lQ ixQ lQ okQ ?_; clear H; intro wk H; simp only [List.set_cons_zero, List.set_cons_succ, Nat.reduceAdd] at H)) | (refine opk 9 rfl ?_; first | (refine ost_allocA H rfl ?_; clear H; intro bk wk H) | (refine ost_build1 H rfl rfl rfl evQ lsQ rfl ?_; clear H; intro bk wk H))) | refine Wc.seq ?_ | refine then_n ?_ | refine WL.nil ?_ | refine Wc.region ?_ | refine Wc.block ?_ | refine then_r ?_ | refine then_e ?_ | refine inb_e rfl ?_ | refine inb_o rfl ?_ | refine inb_n ?_ | refine inb_r ?_ | refine Wc.skip ?_ | refine Wc.exit ?_ | refine Wc.ret ?_ | refine Wc.cond_true rfl ?_ | refine Wc.cond_false rfl ?_ | refine WL.skp rfl rfl ?_ | refine WL.sku rfl ?_)
            subst e9
            exact fn_ret2 (v2 := .int _ _) rfl (rv_cellA rfl rfl H.bI lQ) rfl ⟨_, _, H.pick0, ⟨ao, co, at_, ct⟩, by rw [← hQ, List.length_map, List.length_map]; rfl, rfl, by rw [← hQ]; exact ⟨hO7.mono hle8, hA8⟩⟩
  · have hD := hno he
    rw [hD]
    repeat' (first | ((first | refine WL.p rfl ?_ | refine WL.u ?_ | refine WL.g rfl rfl ?_ | refine WL.gu rfl ?_); first | (refine opk 1 rfl ?_; (refine ost_V H rfl (hnum _ H.sat hr6 (by omega)) rfl ?_; clear H; intro wk H)) | refine pvQ ?_ | (refine opk 3 rfl ?_; (refine ost_cmp rfl rfl rfl rfl (fun hc => ?_) (fun hc => ?_) <;> (simp only [cmpP] at hc; try exact prIQ))) | (refine opk 4 rfl ?_; (refine ost_cmp rfl rfl rfl rfl (fun hc => ?_) (fun hc => ?_) <;> (simp only [cmpP] at hc; try exact prIQ))) | (refine opk 8 rfl ?_; first | (refine ost_store1 H rfl rfl vlQ gvQ ixQ (by first | decide | (simp; omega) | (simp; done) | omega) ?_; clear H; intro wk H; simp only [List.set_cons_zero, List.set_cons_succ, Nat.reduceAdd] at H) | (refine ost_storeW H rfl rfl rfl rfl lQ ixQ lQ okQ ?_; clear H; intro wk H; simp only [List.set_cons_zero, List.set_cons_succ, Nat.reduceAdd] at H)) | (refine opk 9 rfl ?_; first | (refine ost_allocA H rfl ?_; clear H; intro bk wk H) | (refine ost_build1 H rfl rfl rfl evQ lsQ rfl ?_; clear H; intro bk wk H))) | refine Wc.seq ?_ | refine then_n ?_ | refine WL.nil ?_ | refine Wc.region ?_ | refine Wc.block ?_ | refine then_r ?_ | refine then_e ?_ | refine inb_e rfl ?_ | refine inb_o rfl ?_ | refine inb_n ?_ | refine inb_r ?_ | refine Wc.skip ?_ | refine Wc.exit ?_ | refine Wc.ret ?_ | refine Wc.cond_true rfl ?_ | refine Wc.cond_false rfl ?_ | refine WL.skp rfl rfl ?_ | refine WL.sku rfl ?_)
    all_goals exact fn_ret2 (v2 := .int _ _) rfl (rv_cellA rfl rfl H.bI lQ) rfl ⟨_, _, H.pick0, zeroIA, rfl, rfl, zeroI_R _⟩
end Go.Tg

set_option linter.unusedVariables false
set_option linter.unusedSimpArgs false
set_option maxRecDepth 100000
set_option maxHeartbeats 4000000
namespace Go.Tg
open Go Go.Proofs
theorem typed_cOp (o : OpT) : Typed [.i .u8, .i .u32, .i .u8, .i .u16, .i .u16, .i .u16, .i .u32, .i .u32, .i .u32, .i .u32, .i .u32, .i .u32, .i .u32, .i .u32, .i .u32, .i .u32, .i .u32, .i .u32, .i .u32, .i .u32, .i .u32, .i .u32, .i .u32] (cOp o) := by
  have h := typed_cV o.ctx
  unfold Typed at h ⊢
  unfold cOp
  simp only [List.map_cons, h]
  rfl
def allR (l : List OpT) : Prop := ∀ o, o ∈ l → rightO o 16 = true
def atsR : Nat → List OpT → List Nat
  | _, [] => []
  | k, o :: l => k :: atsR (k + (recB o).length) l
def recsB (l : List OpT) : List UInt8 := (l.map recB).flatten
theorem recsB_cons (o : OpT) (l : List OpT) : recsB (o :: l) = recB o ++ recsB l := by simp [recsB]
theorem recsB_app (l m : List OpT) : recsB (l ++ m) = recsB l ++ recsB m := by simp [recsB]
theorem recB_len (o : OpT) : (recB o).length ≤ 312 := by have := wrapB_len (recF o); have := recF_len o; unfold recB; omega
theorem recsB_len (l : List OpT) : (recsB l).length ≤ 312 * l.length := by
  induction l with
  | nil => simp [recsB]
  | cons o l ih => rw [recsB_cons, List.length_append, List.length_cons]; have := recB_len o; omega
theorem headB_len (id : UInt32) : (headB id).length ≤ 37 := by have := wrapB_len (numF 1 id.toNat); have := numF_len 1 id.toNat; unfold headB; omega
theorem footB_len (n : Nat) : (footB n).length ≤ 37 := by have := wrapB_len (numF 3 n); have := numF_len 3 n; unfold footB; omega
theorem frames_recs (l : List OpT) (r : List UInt8) : frames (recsB l ++ r) = l.map recF ++ frames r := by
  induction l with
  | nil => rfl
  | cons o l ih =>
    have := recF_len o
    rw [recsB_cons, List.append_assoc]
    unfold recB
    rw [frames_wrap (by omega), ih]; rfl
theorem segR_recs (l : List OpT) (hl : allR l) (r : List (List UInt8)) (n at_ : Nat) : segR (l.map recF ++ r) n at_ = (l ++ (segR r (n + l.length) (at_ + (recsB l).length)).1, atsR at_ l ++ (segR r (n + l.length) (at_ + (recsB l).length)).2.1, (segR r (n + l.length) (at_ + (recsB l).length)).2.2) := by
  induction l generalizing n at_ with
  | nil => simp [recsB, atsR]
  | cons o l ih =>
    rw [List.map_cons, List.cons_append, segR_op (isOp_rec (hl o (by simp)))]
    have h9 := ih (fun x hx => hl x (by simp [hx])) (n + 1) (at_ + (wrapB (recF o)).length)
    rw [h9]
    have e1 : n + 1 + l.length = n + (o :: l).length := by rw [List.length_cons]; omega
    have e2 : at_ + (wrapB (recF o)).length + (recsB l).length = at_ + (recsB (o :: l)).length := by rw [recsB_cons, List.length_append]; unfold recB; omega
    rw [e1, e2]
    rfl
theorem scan_seg (id : UInt32) (l : List OpT) (hl : allR l) (r : List UInt8) : scanS (headB id ++ (recsB l ++ r)) = (⟨id, l ++ (segR (frames r) l.length ((headB id).length + (recsB l).length)).1, atsR (headB id).length l ++ (segR (frames r) l.length ((headB id).length + (recsB l).length)).2.1, (segR (frames r) l.length ((headB id).length + (recsB l).length)).2.2.1, (segR (frames r) l.length ((headB id).length + (recsB l).length)).2.2.2⟩, 0) := by
  have h1 := numF_len 1 id.toNat
  have h2 : frames (headB id ++ (recsB l ++ r)) = numF 1 id.toNat :: (l.map recF ++ frames r) := by
    unfold headB
    rw [frames_wrap (by omega), frames_recs]
  rw [scanS_ok h2, segR_recs l hl]
  simp only [Nat.zero_add]
  rfl
theorem foot_op (n : Nat) (hn : n < 18446744073709551616) : isOp (numF 3 n) = none := isOp_none.2 fun u _ => numF_rec (by decide) (by decide)
theorem frames_foot (n : Nat) (r : List UInt8) : frames (footB n ++ r) = numF 3 n :: frames r := by
  have := numF_len 3 n
  unfold footB
  exact frames_wrap (by omega) r
theorem scan_open (id : UInt32) (l : List OpT) (hl : allR l) {r : List UInt8} (hr : frames r = []) : scanS (headB id ++ (recsB l ++ r)) = (⟨id, l, atsR (headB id).length l, false, (headB id).length + (recsB l).length⟩, 0) := by
  rw [scan_seg id l hl r, hr]
  simp [segR]
theorem scan_done (id : UInt32) (l : List OpT) (hl : allR l) (hn : l.length < 18446744073709551616) : scanS (headB id ++ (recsB l ++ footB l.length)) = (⟨id, l, atsR (headB id).length l, true, (headB id).length + (recsB l).length + (footB l.length).length⟩, 0) := by
  have hf := frames_foot l.length []
  rw [List.append_nil] at hf
  rw [scan_seg id l hl, hf, segR_foot (foot_op _ hn) rfl]
  simp [footB]
theorem scan_rec (o : OpT) : scanS (recB o) = (zeroI, 5) := by
  have h1 := recF_len o
  have h := frames_wrap (xs := recF o) (by omega) []
  rw [List.append_nil] at h
  exact scanS_no (b := recB o) h fun id => numF_rec (by decide) (by decide)
section
variable {P : Program} {o : Oper} {s : Env} {w : World} {K : Value → World → Prop}
theorem ost_lenB {x : Operand} {t e : TypeId} {sz bytes : Nat} {z : Value} {xs : List UInt8} [Ty P t (.slice e) sz bytes z] (ho : o.op = .call { callee := .builtin .len, args := #[x], argTypes := #[t] }) (hr : BSv (full w) (ev s x) xs) (hk : K (.int .i64 xs.length) w) : Ost P o s w K := by
  obtain ⟨a, c, e, -⟩ := hr
  exact ost_len_sl ho e hk
end
def oS : OpT := ⟨⟨0, 1⟩, 1, 3, 4, 2, 0, fun _ => 0⟩
theorem oS_right : rightO oS 16 = true := by kernel_rfl
theorem oS_all : allR [oS] := fun o h => by rw [List.mem_singleton.1 h]; exact oS_right
theorem recs1 : recsB [oS] = recB oS := by simp [recsB]
theorem seg_ScanK {x : InfT} {e : Int} (b : List UInt8) (hx : scanS b = (x, e)) (n : Nat) (hn : n = b.length) (h0 : FH) (a : Option Addr) (c : Nat) (w : World) (hs : Sat h0 w) (hT : Half h0) (hr : BS h0 a c b) (hb : b.length ≤ 1000000) :
    Spec Tryd.prog 40 #[.slice a n c] w [] h0 (fun v h' L' => ∃ ao co at_ ct, v = .tuple #[.agg (ifL x.id x.ops.length x.ats.length x.sld x.used ao co at_ ct).toArray, .int .i64 e] ∧ L' = [] ∧ Sl h' 23 ao co (x.ops.map cOp) ∧ Sl h' 1 at_ ct (x.ats.map cI)) := by
  subst hn
  have := seg_Scan h0 a c b w hs hT hr hb
  rw [hx] at this
  exact this.mono fun v h' L' ⟨A, h1, h2, h3⟩ => ⟨A.ao, A.co, A.at_, A.ct, h1, h2, h3.o, h3.t⟩
theorem outC_r {o : OpT} (h : rightO o 16 = true) : outC o = (recB o, 0) := by unfold outC; rw [if_pos h]
theorem outC_n {o : OpT} (h : rightO o 16 = false) : outC o = ([], 2) := by unfold outC; rw [h]; rfl
theorem outK_r {n : Nat} (h : n ≤ 4096) : outK (n : Int) = (footB n, 0) := by unfold outK; rw [if_pos (by omega)]; rfl
theorem alive12 (h0 : FH) (w : World) (hs : Sat h0 w) (hT : Half h0) : SpecV Tryd.prog 33 #[] w (.bool true) := by
  have H := St.start hs
  have lS := cOp_len oS
  have tS := typed_cOp oS
  have cR := seg_Record oS h0
  have cF := seg_Foot 1 (by decide) (by decide) 
  have cH := seg_Head 5
  rw [outC_r oS_right] at cR
  rw [show outK 1 = (footB 1, 0) from outK_r (n := 1) (by decide)] at cF
  have r1 := recB_len oS
  have r2 := headB_len 5
  have r3 := footB_len 1
  have hp := wrapB_pos (recF oS)
  have s1 := scan_done 5 [oS] oS_all (by decide)
  have hcut : ((headB 5 ++ recB oS).take ((headB 5 ++ recB oS).length - 1)) = headB 5 ++ (recsB [] ++ (recB oS).take ((recB oS).length - 1)) := by
    have : 4 ≤ (recB oS).length := hp
    rw [List.take_append, List.take_of_length_le (by rw [List.length_append]; omega)]
    have e : (headB 5 ++ recB oS).length - 1 - (headB 5).length = (recB oS).length - 1 := by rw [List.length_append]; omega
    rw [e]; rfl
  have s2 := scan_open 5 [] (fun _ h => (List.not_mem_nil h).elim) (r := (recB oS).take ((recB oS).length - 1)) (frames_cut (xs := recF oS) (by have := recF_len oS; omega) (by have : 4 ≤ (wrapB (recF oS)).length := hp; show (wrapB (recF oS)).length - 1 < _; omega))
  rw [← hcut] at s2
  have s3 := scan_rec oS
  rw [show recsB [oS] = recB oS from recs1] at s1
  have hp : 4 ≤ (recB oS).length := hp
  rw [← List.append_assoc] at s1
  clear hcut
  unfold SpecV
  refine calls_of Tryd.func33 rfl Tryd.ntmps33 (by simp) ?_
  repeat' (first | ((first | refine WL.p rfl ?_ | refine WL.u ?_ | refine WL.g rfl rfl ?_ | refine WL.gu rfl ?_); first | (refine opk 1 rfl ?_; (refine ost_Sk H rfl (cR _ H.sat hT) rfl ?_; clear H; rintro vk wk hfk Lk ⟨a1, c1, rfl, rfl⟩ hle H; simp only [List.cons_append, List.nil_append] at H)) | (refine opk 9 rfl ?_; (refine ost_buildS (l := cOp oS) rfl (evP_cons (rfl : _ = Value.agg _) (evP_cons (rfl : _ = Value.int .u8 _) (evP_cons (rfl : _ = Value.int .u16 _) (evP_cons (rfl : _ = Value.int .u16 _) (evP_cons (rfl : _ = Value.int .u16 _) evP_nil))))) (by kernel_rfl) (by kernel_rfl) ?_)) | refine pvQ ?_ | (refine opk 3 rfl ?_; first | (refine ost_eqA rfl (by decide) rfl rfl tyQ tyQ (fun hc => ?_) (fun hc => ?_) <;> try exact prEQ) | (refine ost_neA rfl (by decide) rfl rfl tyQ tyQ (fun hc => ?_) (fun hc => ?_) <;> try exact prEQ) | (refine ost_cmp rfl rfl rfl rfl (fun hc => ?_) (fun hc => ?_) <;> (simp only [cmpP] at hc; try exact prIQ))) | (refine opk 4 rfl ?_; (refine ost_cmp rfl rfl rfl rfl (fun hc => ?_) (fun hc => ?_) <;> (simp only [cmpP] at hc; try exact prIQ))) | (refine opk 8 rfl ?_; (refine ost_storeW H rfl rfl rfl rfl lQ ixQ lQ okQ ?_; clear H; intro wk H; simp only [List.set_cons_zero, List.set_cons_succ, Nat.reduceAdd] at H)) | (refine opk 9 rfl ?_; (refine ost_allocA H rfl ?_; clear H; intro bk wk H))) | refine Wc.seq ?_ | refine then_n ?_ | refine WL.nil ?_ | refine Wc.region ?_ | refine Wc.block ?_ | refine then_r ?_ | refine then_e ?_ | refine inb_e rfl ?_ | refine inb_o rfl ?_ | refine inb_n ?_ | refine inb_r ?_ | refine Wc.skip ?_ | refine Wc.exit ?_ | refine Wc.ret ?_ | refine Wc.cond_true rfl ?_ | refine Wc.cond_false rfl ?_ | (refine Wc.drawn (id := 10) 40 (by kernel_rfl) ?_) | refine WL.skp rfl rfl ?_ | refine WL.sku rfl ?_ | (refine rgs_nil ?_; intro vs wk hE; replace H := H.ext hE; clear hE) | refine RGs.skp (fun _ => rfl) rfl ?_ | (refine RGs.bq (fun _ => rfl) rfl (by intro vs w hE hP; have H := H.ext hE; first | exact dbQ | fail) (fun hc => ?_) (fun hc => ?_) <;> ((try simp only [cmpP, decide_eq_true_eq, decide_eq_false_iff_not, dcd_iff, dcd_no] at hc); try exact prDQ)) | refine RGs.pq (fun _ => rfl) rfl (by intro vs w hE hP; have H := H.ext hE; first | exact dvQ | fail) ?_)
  obtain ⟨a6, c6, h6, e6, hle6, hr6, H⟩ := H.freeze8
  cases e6
  have hT6 := (hT.mono hle).mono hle6
  clear hle
  repeat' (first | ((first | refine WL.p rfl ?_ | refine WL.u ?_ | refine WL.g rfl rfl ?_ | refine WL.gu rfl ?_); first | (refine opk 1 rfl ?_; (refine ost_Sk H rfl (cF _ _ H.sat hT6) rfl ?_; clear H; rintro vk wk hfk Lk ⟨a2, c2, rfl, rfl⟩ hle H; simp only [List.cons_append, List.nil_append] at H)) | refine pvQ ?_ | (refine opk 3 rfl ?_; first | (refine ost_eqA rfl (by decide) rfl rfl tyQ tyQ (fun hc => ?_) (fun hc => ?_) <;> try exact prEQ) | (refine ost_neA rfl (by decide) rfl rfl tyQ tyQ (fun hc => ?_) (fun hc => ?_) <;> try exact prEQ) | (refine ost_cmp rfl rfl rfl rfl (fun hc => ?_) (fun hc => ?_) <;> (simp only [cmpP] at hc; try exact prIQ))) | (refine opk 4 rfl ?_; (refine ost_cmp rfl rfl rfl rfl (fun hc => ?_) (fun hc => ?_) <;> (simp only [cmpP] at hc; try exact prIQ))) | (refine opk 8 rfl ?_; (refine ost_storeW H rfl rfl rfl rfl lQ ixQ lQ okQ ?_; clear H; intro wk H; simp only [List.set_cons_zero, List.set_cons_succ, Nat.reduceAdd] at H)) | (refine opk 9 rfl ?_; (refine ost_allocA H rfl ?_; clear H; intro bk wk H))) | refine Wc.seq ?_ | refine then_n ?_ | refine WL.nil ?_ | refine Wc.region ?_ | refine Wc.block ?_ | refine then_r ?_ | refine then_e ?_ | refine inb_e rfl ?_ | refine inb_o rfl ?_ | refine inb_n ?_ | refine inb_r ?_ | refine Wc.skip ?_ | refine Wc.exit ?_ | refine Wc.ret ?_ | refine Wc.cond_true rfl ?_ | refine Wc.cond_false rfl ?_ | (refine Wc.drawn (id := 10) 40 (by kernel_rfl) ?_) | refine WL.skp rfl rfl ?_ | refine WL.sku rfl ?_ | (refine rgs_nil ?_; intro vs wk hE; replace H := H.ext hE; clear hE) | refine RGs.skp (fun _ => rfl) rfl ?_ | (refine RGs.bq (fun _ => rfl) rfl (by intro vs w hE hP; have H := H.ext hE; first | exact dbQ | fail) (fun hc => ?_) (fun hc => ?_) <;> ((try simp only [cmpP, decide_eq_true_eq, decide_eq_false_iff_not, dcd_iff, dcd_no] at hc); try exact prDQ)) | refine RGs.pq (fun _ => rfl) rfl (by intro vs w hE hP; have H := H.ext hE; first | exact dvQ | fail) ?_)
  obtain ⟨a7, c7, h7, e7, hle7, hr7, H⟩ := H.freeze8
  cases e7
  have hT7 := (hT6.mono hle).mono hle7
  have hr6 := (hr6.mono hle).mono hle7
  clear hle
  repeat' (first | ((first | refine WL.p rfl ?_ | refine WL.u ?_ | refine WL.g rfl rfl ?_ | refine WL.gu rfl ?_); first | (refine opk 1 rfl ?_; first | (refine ost_Sk H rfl (cH _ _ H.sat hT7) rfl ?_; clear H; rintro vk wk hfk Lk ⟨a3, c3, rfl, rfl⟩ hle H; simp only [List.cons_append, List.nil_append] at H) | (refine ost_app8 (xs := headB 5) H rfl rfl rfl (by (exact ixQ)) ((hr6.mono hle).full H) (by (try simp only [List.length_nil, List.length_append, List.length_cons, List.length_singleton]); omega) ?_; clear H; intro aa ca wk H; simp only [List.set_cons_zero, List.set_cons_succ, List.nil_append] at H)) | refine pvQ ?_ | (refine opk 3 rfl ?_; first | (refine ost_eqA rfl (by decide) rfl rfl tyQ tyQ (fun hc => ?_) (fun hc => ?_) <;> try exact prEQ) | (refine ost_neA rfl (by decide) rfl rfl tyQ tyQ (fun hc => ?_) (fun hc => ?_) <;> try exact prEQ) | (refine ost_cmp rfl rfl rfl rfl (fun hc => ?_) (fun hc => ?_) <;> (simp only [cmpP] at hc; try exact prIQ))) | (refine opk 4 rfl ?_; (refine ost_cmp rfl rfl rfl rfl (fun hc => ?_) (fun hc => ?_) <;> (simp only [cmpP] at hc; try exact prIQ))) | (refine opk 8 rfl ?_; (refine ost_storeW H rfl rfl rfl rfl lQ ixQ lQ okQ ?_; clear H; intro wk H; simp only [List.set_cons_zero, List.set_cons_succ, Nat.reduceAdd] at H)) | (refine opk 9 rfl ?_; (refine ost_allocA H rfl ?_; clear H; intro bk wk H))) | refine Wc.seq ?_ | refine then_n ?_ | refine WL.nil ?_ | refine Wc.region ?_ | refine Wc.block ?_ | refine then_r ?_ | refine then_e ?_ | refine inb_e rfl ?_ | refine inb_o rfl ?_ | refine inb_n ?_ | refine inb_r ?_ | refine Wc.skip ?_ | refine Wc.exit ?_ | refine Wc.ret ?_ | refine Wc.cond_true rfl ?_ | refine Wc.cond_false rfl ?_ | (refine Wc.drawn (id := 10) 40 (by kernel_rfl) ?_) | refine WL.skp rfl rfl ?_ | refine WL.sku rfl ?_ | (refine rgs_nil ?_; intro vs wk hE; replace H := H.ext hE; clear hE) | refine RGs.skp (fun _ => rfl) rfl ?_ | (refine RGs.bq (fun _ => rfl) rfl (by intro vs w hE hP; have H := H.ext hE; first | exact dbQ | fail) (fun hc => ?_) (fun hc => ?_) <;> ((try simp only [cmpP, decide_eq_true_eq, decide_eq_false_iff_not, dcd_iff, dcd_no] at hc); try exact prDQ)) | refine RGs.pq (fun _ => rfl) rfl (by intro vs w hE hP; have H := H.ext hE; first | exact dvQ | fail) ?_)
  obtain ⟨a8, c8, h8, e8, hle8, hb8, H⟩ := H.freeze8
  cases e8
  have hT8 := (hT7.mono hle).mono hle8
  have hr8 := (hr6.mono hle).mono hle8
  have hf8 := (hr7.mono hle).mono hle8
  clear hle
  have lX : (headB 5 ++ recB oS).length ≤ 349 := by rw [List.length_append]; omega
  have lX2 : 4 ≤ (headB 5 ++ recB oS).length := by rw [List.length_append]; omega
  have hl : (headB 5).length + (recB oS).length = (headB 5 ++ recB oS).length := (List.length_append ..).symm
  have S1 : ∀ (h : FH) (a : Option Addr) (c : Nat) (w : World), Sat h w → Half h → BS h a c (headB 5 ++ recB oS ++ footB 1) → Spec Tryd.prog 40 #[.slice a (headB 5 ++ recB oS ++ footB 1).length c] w [] h (fun v h' L' => ∃ ao co at_ ct, v = .tuple #[.agg [Value.int .u32 5, .slice ao 1 co, .slice at_ 1 ct, .bool true, .int .i64 (((headB 5).length + (recB oS).length + (footB 1).length : Nat) : Int)].toArray, .int .i64 0] ∧ L' = [] ∧ Sl h' 23 ao co [cOp oS] ∧ Sl h' 1 at_ ct [cI (headB 5).length]) := fun h a c w hs hT hr => seg_ScanK (headB 5 ++ recB oS ++ footB 1) s1 _ rfl h a c w hs hT hr (by rw [List.length_append]; omega)
  have S2 : ∀ (h : FH) (a : Option Addr) (c : Nat) (w : World), Sat h w → Half h → BS h a c ((headB 5 ++ recB oS).take ((headB 5 ++ recB oS).length - 1)) → Spec Tryd.prog 40 #[.slice a (((headB 5 ++ recB oS).length : Int) - 1).toNat c] w [] h (fun v h' L' => ∃ ao co at_ ct, v = .tuple #[.agg [Value.int .u32 5, .slice ao 0 co, .slice at_ 0 ct, .bool false, .int .i64 (((headB 5).length + (recsB []).length : Nat) : Int)].toArray, .int .i64 0] ∧ L' = []) := fun h a c w hs hT hr =>
    (seg_ScanK ((headB 5 ++ recB oS).take ((headB 5 ++ recB oS).length - 1)) s2 (((headB 5 ++ recB oS).length : Int) - 1).toNat (by rw [List.length_take]; omega) h a c w hs hT hr (by rw [List.length_take]; omega)).mono fun v h' L' ⟨ao, co, at_, ct, h1, h2, _, _⟩ => ⟨ao, co, at_, ct, h1, h2⟩
  have S3 : ∀ (h : FH) (a : Option Addr) (c : Nat) (w : World), Sat h w → Half h → BS h a c (recB oS) → Spec Tryd.prog 40 #[.slice a (recB oS).length c] w [] h (fun v h' L' => ∃ ao co at_ ct, v = .tuple #[.agg [Value.int .u32 0, .slice ao 0 co, .slice at_ 0 ct, .bool false, .int .i64 0].toArray, .int .i64 5] ∧ L' = []) := fun h a c w hs hT hr =>
    (seg_ScanK (recB oS) s3 _ rfl h a c w hs hT hr (by omega)).mono fun v h' L' ⟨ao, co, at_, ct, h1, h2, _, _⟩ => ⟨ao, co, at_, ct, h1, h2⟩
  generalize headB 5 ++ recB oS = X at H hb8 lX lX2 S1 S2 hl ⊢
  replace H := H.nil8 5
  repeat' (first | ((first | refine WL.p rfl ?_ | refine WL.u ?_ | refine WL.g rfl rfl ?_ | refine WL.gu rfl ?_); first | (refine opk 1 rfl ?_; first | (refine ost_app8 (xs := []) H rfl rfl rfl (by (exact ixQ)) (hb8.full H) (by (try simp only [List.length_nil, List.length_append, List.length_cons, List.length_singleton]); omega) ?_; clear H; intro aa ca wk H; simp only [List.set_cons_zero, List.set_cons_succ, List.nil_append] at H) | (refine ost_app8 (xs := X) H rfl rfl rfl (by (exact ixQ)) (hf8.full H) (by (try simp only [List.length_nil, List.length_append, List.length_cons, List.length_singleton]); omega) ?_; clear H; intro aa ca wk H; simp only [List.set_cons_zero, List.set_cons_succ, List.nil_append] at H)) | refine pvQ ?_ | (refine opk 3 rfl ?_; first | (refine ost_eqA rfl (by decide) rfl rfl tyQ tyQ (fun hc => ?_) (fun hc => ?_) <;> try exact prEQ) | (refine ost_neA rfl (by decide) rfl rfl tyQ tyQ (fun hc => ?_) (fun hc => ?_) <;> try exact prEQ) | (refine ost_cmp rfl rfl rfl rfl (fun hc => ?_) (fun hc => ?_) <;> (simp only [cmpP] at hc; try exact prIQ))) | (refine opk 4 rfl ?_; (refine ost_cmp rfl rfl rfl rfl (fun hc => ?_) (fun hc => ?_) <;> (simp only [cmpP] at hc; try exact prIQ))) | (refine opk 8 rfl ?_; (refine ost_storeW H rfl rfl rfl rfl lQ ixQ lQ okQ ?_; clear H; intro wk H; simp only [List.set_cons_zero, List.set_cons_succ, Nat.reduceAdd] at H)) | (refine opk 9 rfl ?_; (refine ost_allocA H rfl ?_; clear H; intro bk wk H))) | refine Wc.seq ?_ | refine then_n ?_ | refine WL.nil ?_ | refine Wc.region ?_ | refine Wc.block ?_ | refine then_r ?_ | refine then_e ?_ | refine inb_e rfl ?_ | refine inb_o rfl ?_ | refine inb_n ?_ | refine inb_r ?_ | refine Wc.skip ?_ | refine Wc.exit ?_ | refine Wc.ret ?_ | refine Wc.cond_true rfl ?_ | refine Wc.cond_false rfl ?_ | (refine Wc.drawn (id := 10) 40 (by kernel_rfl) ?_) | refine WL.skp rfl rfl ?_ | refine WL.sku rfl ?_ | (refine rgs_nil ?_; intro vs wk hE; replace H := H.ext hE; clear hE) | refine RGs.skp (fun _ => rfl) rfl ?_ | (refine RGs.bq (fun _ => rfl) rfl (by intro vs w hE hP; have H := H.ext hE; first | exact dbQ | fail) (fun hc => ?_) (fun hc => ?_) <;> ((try simp only [cmpP, decide_eq_true_eq, decide_eq_false_iff_not, dcd_iff, dcd_no] at hc); try exact prDQ)) | refine RGs.pq (fun _ => rfl) rfl (by intro vs w hE hP; have H := H.ext hE; first | exact dvQ | fail) ?_)
  obtain ⟨a9, c9, h9, e9, hle9, hb9, H⟩ := H.freeze8
  cases e9
  have hca := hb8.le
  repeat' (first | ((first | refine WL.p rfl ?_ | refine WL.u ?_ | refine WL.g rfl rfl ?_ | refine WL.gu rfl ?_); first | (refine opk 1 rfl ?_; (refine ost_Sk H rfl (S1 _ _ _ _ H.sat (hT8.mono hle9) hb9) rfl ?_; clear H; rintro vk wk hfk Lk ⟨ao, co, at1, ct, rfl, rfl, hO, hA⟩ hle H; simp only [List.cons_append, List.nil_append] at H)) | refine pvQ ?_ | (refine opk 3 rfl ?_; first | (refine ost_eqA rfl (by decide) rfl rfl tyQ tyQ (fun hc => ?_) (fun hc => ?_) <;> try exact prEQ) | (refine ost_neA rfl (by decide) rfl rfl tyQ tyQ (fun hc => ?_) (fun hc => ?_) <;> try exact prEQ) | (refine ost_cmp rfl rfl rfl rfl (fun hc => ?_) (fun hc => ?_) <;> (simp only [cmpP] at hc; try exact prIQ))) | (refine opk 4 rfl ?_; (refine ost_cmp rfl rfl rfl rfl (fun hc => ?_) (fun hc => ?_) <;> (simp only [cmpP] at hc; try exact prIQ))) | (refine opk 8 rfl ?_; (refine ost_storeW H rfl rfl rfl rfl lQ ixQ lQ okQ ?_; clear H; intro wk H; simp only [List.set_cons_zero, List.set_cons_succ, Nat.reduceAdd] at H)) | (refine opk 9 rfl ?_; (refine ost_allocA H rfl ?_; clear H; intro bk wk H))) | refine Wc.seq ?_ | refine then_n ?_ | refine WL.nil ?_ | refine Wc.region ?_ | refine Wc.block ?_ | refine then_r ?_ | refine then_e ?_ | refine inb_e rfl ?_ | refine inb_o rfl ?_ | refine inb_n ?_ | refine inb_r ?_ | refine Wc.skip ?_ | refine Wc.exit ?_ | refine Wc.ret ?_ | refine Wc.cond_true rfl ?_ | refine Wc.cond_false rfl ?_ | (refine Wc.drawn (id := 10) 40 (by kernel_rfl) ?_) | refine WL.skp rfl rfl ?_ | refine WL.sku rfl ?_ | (refine rgs_nil ?_; intro vs wk hE; replace H := H.ext hE; clear hE) | refine RGs.skp (fun _ => rfl) rfl ?_ | (refine RGs.bq (fun _ => rfl) rfl (by intro vs w hE hP; have H := H.ext hE; first | exact dbQ | fail) (fun hc => ?_) (fun hc => ?_) <;> ((try simp only [cmpP, decide_eq_true_eq, decide_eq_false_iff_not, dcd_iff, dcd_no] at hc); try exact prDQ)) | refine RGs.pq (fun _ => rfl) rfl (by intro vs w hE hP; have H := H.ext hE; first | exact dvQ | fail) ?_)
  have hTa := (hT8.mono hle9).mono hle
  have hba := (hb8.mono hle9).mono hle
  have hra := (hr8.mono hle9).mono hle
  clear hle S1
  repeat' (first | ((first | refine WL.p rfl ?_ | refine WL.u ?_ | refine WL.g rfl rfl ?_ | refine WL.gu rfl ?_); first | (refine opk 1 rfl ?_; (refine ost_Sk H rfl (S2 _ _ _ _ H.sat hTa (hba.take _)) rfl ?_; clear H; rintro vk wk hfk Lk ⟨ao2, co2, at2, ct2, rfl, rfl⟩ hle H; simp only [List.cons_append, List.nil_append] at H)) | refine pvQ ?_ | (refine opk 3 rfl ?_; first | (refine ost_eqA rfl (by decide) rfl rfl tyQ tyQ (fun hc => ?_) (fun hc => ?_) <;> try exact prEQ) | (refine ost_neA rfl (by decide) rfl rfl tyQ tyQ (fun hc => ?_) (fun hc => ?_) <;> try exact prEQ) | (refine ost_cmp rfl rfl rfl rfl (fun hc => ?_) (fun hc => ?_) <;> (simp only [cmpP] at hc; try exact prIQ))) | (refine opk 4 rfl ?_; (refine ost_cmp rfl rfl rfl rfl (fun hc => ?_) (fun hc => ?_) <;> (simp only [cmpP] at hc; try exact prIQ))) | (refine opk 8 rfl ?_; (refine ost_storeW H rfl rfl rfl rfl lQ ixQ lQ okQ ?_; clear H; intro wk H; simp only [List.set_cons_zero, List.set_cons_succ, Nat.reduceAdd] at H)) | (refine opk 9 rfl ?_; (refine ost_allocA H rfl ?_; clear H; intro bk wk H))) | refine Wc.seq ?_ | refine then_n ?_ | refine WL.nil ?_ | refine Wc.region ?_ | refine Wc.block ?_ | refine then_r ?_ | refine then_e ?_ | refine inb_e rfl ?_ | refine inb_o rfl ?_ | refine inb_n ?_ | refine inb_r ?_ | refine Wc.skip ?_ | refine Wc.exit ?_ | refine Wc.ret ?_ | refine Wc.cond_true rfl ?_ | refine Wc.cond_false rfl ?_ | (refine Wc.drawn (id := 10) 40 (by kernel_rfl) ?_) | refine WL.skp rfl rfl ?_ | refine WL.sku rfl ?_ | (refine rgs_nil ?_; intro vs wk hE; replace H := H.ext hE; clear hE) | refine RGs.skp (fun _ => rfl) rfl ?_ | (refine RGs.bq (fun _ => rfl) rfl (by intro vs w hE hP; have H := H.ext hE; first | exact dbQ | fail) (fun hc => ?_) (fun hc => ?_) <;> ((try simp only [cmpP, decide_eq_true_eq, decide_eq_false_iff_not, dcd_iff, dcd_no] at hc); try exact prDQ)) | refine RGs.pq (fun _ => rfl) rfl (by intro vs w hE hP; have H := H.ext hE; first | exact dvQ | fail) ?_)
  have hTb := hTa.mono hle
  have hrb := hra.mono hle
  have hOb := hO.mono hle
  have hAb := hA.mono hle
  clear hle S2
  repeat' (first | ((first | refine WL.p rfl ?_ | refine WL.u ?_ | refine WL.g rfl rfl ?_ | refine WL.gu rfl ?_); first | (refine opk 1 rfl ?_; (refine ost_Sk H rfl (S3 _ _ _ _ H.sat hTb hrb) rfl ?_; clear H; rintro vk wk hfk Lk ⟨ao3, co3, at3, ct3, rfl, rfl⟩ hle H; simp only [List.cons_append, List.nil_append] at H)) | refine pvQ ?_ | (refine opk 3 rfl ?_; first | (refine ost_eqA rfl (by decide) rfl rfl tyQ tyQ (fun hc => ?_) (fun hc => ?_) <;> try exact prEQ) | (refine ost_neA rfl (by decide) rfl rfl tyQ tyQ (fun hc => ?_) (fun hc => ?_) <;> try exact prEQ) | (refine ost_cmp rfl rfl rfl rfl (fun hc => ?_) (fun hc => ?_) <;> (simp only [cmpP] at hc; try exact prIQ))) | (refine opk 4 rfl ?_; (refine ost_cmp rfl rfl rfl rfl (fun hc => ?_) (fun hc => ?_) <;> (simp only [cmpP] at hc; try exact prIQ))) | (refine opk 8 rfl ?_; (refine ost_storeW H rfl rfl rfl rfl lQ ixQ lQ okQ ?_; clear H; intro wk H; simp only [List.set_cons_zero, List.set_cons_succ, Nat.reduceAdd] at H)) | (refine opk 9 rfl ?_; (refine ost_allocA H rfl ?_; clear H; intro bk wk H))) | refine Wc.seq ?_ | refine then_n ?_ | refine WL.nil ?_ | refine Wc.region ?_ | refine Wc.block ?_ | refine then_r ?_ | refine then_e ?_ | refine inb_e rfl ?_ | refine inb_o rfl ?_ | refine inb_n ?_ | refine inb_r ?_ | refine Wc.skip ?_ | refine Wc.exit ?_ | refine Wc.ret ?_ | refine Wc.cond_true rfl ?_ | refine Wc.cond_false rfl ?_ | refine WL.skp rfl rfl ?_ | refine WL.sku rfl ?_)
  have hTc := hTb.mono hle
  have hOc := hOb.mono hle
  have hAc := hAb.mono hle
  clear hle S3
  obtain ⟨b5, off5, l5, T5, fr5, e5, eb5, eg5⟩ := Sl.getM (xs := [oS]) (f := cOp) hOc (by decide) (by decide)
  subst e5
  obtain ⟨b6, off6, l6, T6, fr6, e6, eb6, eg6⟩ := Sl.getM (xs := [(headB 5).length]) (f := cI) hAc (by decide) (by decide)
  subst e6
  have g5 := eg5 (0 : Int).toNat 0 (by decide) rfl
  have g6 : l6[off6 + (0 : Int).toNat * 1]? = some (.int .i64 ((headB 5).length : Nat)) := row_cell (eg6 (0 : Int).toNat 0 (by decide) rfl) (q := 0) (by decide)
  have g5 : (l5.drop (off5 + (0 : Int).toNat * 23)).take 23 = cOp oS := g5
  have cH9 := seg_Head 5
  clear eg5 eg6 hO hOb hA hAb cF cH cR
  repeat' (first | ((first | refine WL.p rfl ?_ | refine WL.u ?_ | refine WL.g rfl rfl ?_ | refine WL.gu rfl ?_); first | refine pvQ ?_ | (refine opk 3 rfl ?_; first | (refine ost_eqA rfl (by decide) rfl rfl tyQ tyQ (fun hc => ?_) (fun hc => ?_) <;> try exact prEQ) | (refine ost_neA rfl (by decide) rfl rfl tyQ tyQ (fun hc => ?_) (fun hc => ?_) <;> try exact prEQ) | (refine ost_cmp rfl rfl rfl rfl (fun hc => ?_) (fun hc => ?_) <;> (simp only [cmpP] at hc; try exact prIQ))) | (refine opk 4 rfl ?_; (refine ost_cmp rfl rfl rfl rfl (fun hc => ?_) (fun hc => ?_) <;> (simp only [cmpP] at hc; try exact prIQ))) | (refine opk 8 rfl ?_; (refine ost_storeW H rfl rfl rfl rfl lQ ixQ lQ okQ ?_; clear H; intro wk H; simp only [List.set_cons_zero, List.set_cons_succ, Nat.reduceAdd] at H)) | (refine opk 9 rfl ?_; (refine ost_allocA H rfl ?_; clear H; intro bk wk H))) | refine Wc.seq ?_ | refine then_n ?_ | refine WL.nil ?_ | refine Wc.region ?_ | refine Wc.block ?_ | refine then_r ?_ | refine then_e ?_ | refine inb_e rfl ?_ | refine inb_o rfl ?_ | refine inb_n ?_ | refine inb_r ?_ | refine Wc.skip ?_ | refine Wc.exit ?_ | refine Wc.ret ?_ | refine Wc.cond_true rfl ?_ | refine Wc.cond_false rfl ?_ | (refine Wc.drawnB (id := 10) 40 [(38, headB 5)] (by kernel_rfl) ?_) | refine WL.skp rfl rfl ?_ | refine WL.sku rfl ?_ | (refine rgs_nil ?_; intro vs wk hE; replace H := H.ext hE; clear hE) | refine RGs.skp (fun _ => rfl) rfl ?_ | (refine RGs.bq (fun _ => rfl) rfl (by intro vs w hE hP; have H := H.ext hE; first | exact dbQ | fail) (fun hc => ?_) (fun hc => ?_) <;> ((try simp only [cmpP, decide_eq_true_eq, decide_eq_false_iff_not, dcd_iff, dcd_no] at hc); try exact prDQ)) | refine RGs.pq (fun _ => rfl) rfl (by intro vs w hE hP; have H := H.ext hE; first | (refine opk 1 rfl ?_; (refine ost_lenB rfl (pf_B hP 38 (by kernel_rfl) rfl rfl) ?_; exact ⟨Fr.refl _ _, rfl⟩)) | (refine ost_toStrV rfl (pf_B hP 38 (by kernel_rfl) rfl rfl) ?_; exact ⟨Fr.refl _ _, rfl⟩) | exact dvQ | fail) ?_ | refine RGs.sq (fun _ => rfl) rfl (by intro vs w hE hP; have H := H.ext hE; first | (refine ost_B rfl (cH9 _ _ (sat_full _) (hTc.full H)) rfl (fun _ _ _ ⟨_, _, _, e⟩ => e) ?_; intro vk wk hX hB; exact ⟨hX, hB⟩) | fail) ?_)
  (first | refine fn_ret1 (v := .bool _) rfl rfl ⟨?_, H.fr⟩ | refine fn_ret1 (v := .int _ _) rfl rfl ⟨?_, H.fr⟩ | refine fn_ret1 (v := .string _) rfl rfl ⟨?_, H.fr⟩); rfl
end Go.Tg

