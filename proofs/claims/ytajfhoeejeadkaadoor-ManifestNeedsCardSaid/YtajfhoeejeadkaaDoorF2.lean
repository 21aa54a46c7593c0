/- Contracts of Go functions that the laws reach: what each call answers and leaves in memory, for all arguments within the bounds that each theorem names. -/
import Derived.Test.YtajfhoeejeadkaaDoorInst
import Derived.Test.YtajfhoeejeadkaaDoorAuto
import Derived.Test.YtajfhoeejeadkaaDoorL3
import Derived.Test.YtajfhoeejeadkaaDoorCards
import Derived.Test.YtajfhoeejeadkaaDoorTie
import Derived.SevenTiedAt
import Derived.Test.YtajfhoeejeadkaaDoorO2
import Derived.Test.YtajfhoeejeadkaaDoorChn
set_option linter.unusedVariables false
set_option linter.unusedSimpArgs false
set_option maxRecDepth 100000
set_option maxHeartbeats 4000000
namespace Go.Tg
open Go Go.Proofs
def PGv (h : FH) (v : Value) (p : PageT) : Prop := ∃ A, v = .agg (pgV p A).toArray ∧ PgR h p A
theorem PGv.mono {h h' : FH} {v : Value} {p : PageT} (hle : FLe h h') (r : PGv h v p) : PGv h' v p := by
  obtain ⟨A, e, r⟩ := r; exact ⟨A, e, r.mono hle⟩
section
variable {P : Program} {o : Oper} {s : Env} {w : World} {K : Value → World → Prop}
end
end Go.Tg
namespace Go.Proofs.YtajfhoeejeadkaaDoor
open Go.ChangeShapes Go.WideShapes Go.ChangeAt Go.RowKit Go.Tg
end Go.Proofs.YtajfhoeejeadkaaDoor

set_option linter.unusedVariables false
set_option linter.unusedSimpArgs false
set_option maxRecDepth 100000
set_option maxHeartbeats 8000000
namespace Go.Tg
open Go Go.Proofs
structure ManT where
  ver : UInt64
  flr : V16
  base : UInt32
  segs : List UInt32
  next : UInt32
def mnL (ver : UInt64) (flr : V16) (base : UInt32) (ns : Nat) (next : UInt32) (a : Option Addr) (c : Nat) : List Value := .int .u64 ver.toNat :: (cV flr ++ [.int .u32 base.toNat, .slice a ns c, .int .u32 next.toNat])
theorem mnL_len (ver : UInt64) (flr : V16) (base : UInt32) (ns : Nat) (next : UInt32) (a : Option Addr) (c : Nat) : (mnL ver flr base ns next a c).length = 20 := by simp [mnL, cV_len]
theorem mnL_flr (ver : UInt64) (flr : V16) (base : UInt32) (ns : Nat) (next : UInt32) (a : Option Addr) (c : Nat) : ((mnL ver flr base ns next a c).drop (0 + 1)).take 16 = cV flr := by
  show (cV flr ++ _).take 16 = _
  exact List.take_left' (cV_len flr)
theorem mnL_17 (ver : UInt64) (flr : V16) (base : UInt32) (ns : Nat) (next : UInt32) (a : Option Addr) (c : Nat) : (mnL ver flr base ns next a c)[0 + 17]? = some (.int .u32 base.toNat) := by
  show (cV flr ++ _)[16]? = _
  rw [List.getElem?_append_right (by rw [cV_len]; decide), cV_len]; rfl
theorem mnL_18 (ver : UInt64) (flr : V16) (base : UInt32) (ns : Nat) (next : UInt32) (a : Option Addr) (c : Nat) : (mnL ver flr base ns next a c)[0 + 18]? = some (.slice a ns c) := by
  show (cV flr ++ _)[17]? = _
  rw [List.getElem?_append_right (by rw [cV_len]; decide), cV_len]; rfl
theorem mnL_19 (ver : UInt64) (flr : V16) (base : UInt32) (ns : Nat) (next : UInt32) (a : Option Addr) (c : Nat) : (mnL ver flr base ns next a c)[0 + 19]? = some (.int .u32 next.toNat) := by
  show (cV flr ++ _)[18]? = _
  rw [List.getElem?_append_right (by rw [cV_len]; decide), cV_len]; rfl
structure MAd where
  a : Option Addr
  c : Nat
def mnV (m : ManT) (A : MAd) : List Value := mnL m.ver m.flr m.base m.segs.length m.next A.a A.c
def MnR (h : FH) (m : ManT) (A : MAd) : Prop := Sl h 1 A.a A.c (m.segs.map cKid)
theorem MnR.mono {h h' : FH} {m : ManT} {A : MAd} (r : MnR h m A) (hl : FLe h h') : MnR h' m A := Sl.mono hl r
theorem MnR.full {ws w : World} {S : List Nat} {h0 h : FH} {L : List HA} {m : ManT} {A : MAd} (r : MnR h m A) (H : St ws S h0 h L w) : MnR (Go.Tg.full w) m A := r.mono H.sat.le
def ascP (base next : Nat) : Nat → List UInt32 → Prop
  | _, [] => True
  | last, s :: l => (last < s.toNat ∧ s.toNat < next ∧ s.toNat ≠ base) ∧ ascP base next s.toNat l
def condM (m : ManT) : Prop := 1 ≤ m.segs.length ∧ m.segs.length ≤ 64 ∧ m.ver.toNat ≠ 0 ∧ m.base.toNat < m.next.toNat ∧ rightV m.flr 16 = true ∧ (m.base.toNat = 0 ↔ cV m.flr = cV fun _ => 0)
noncomputable def rightM (m : ManT) : Bool := dcd (condM m ∧ ascP m.base.toNat m.next.toNat 0 m.segs)
theorem rightM_iff {m : ManT} : rightM m = true ↔ condM m ∧ ascP m.base.toNat m.next.toNat 0 m.segs := dcd_iff
theorem rightM_no {m : ManT} (h : ¬ (condM m ∧ ascP m.base.toNat m.next.toNat 0 m.segs)) : rightM m = false := dcd_no.2 h
def lastM (l : List UInt32) (k : Nat) : Nat := if k = 0 then 0 else (l.getD (k - 1) 0).toNat
theorem lastM_lt (l : List UInt32) (k : Nat) : lastM l k < 4294967296 := by
  unfold lastM
  split
  · omega
  · exact (l.getD (k - 1) 0).toNat_lt
theorem lastM_succ {l : List UInt32} {k : Nat} (h : k < l.length) : lastM l (k + 1) = l[k].toNat := by
  unfold lastM; rw [if_neg (by omega)]; simp [h]
theorem ascP_step {base next : Nat} {l : List UInt32} {k last : Nat} (h : k < l.length) : ascP base next last (l.drop k) ↔ (last < l[k].toNat ∧ l[k].toNat < next ∧ l[k].toNat ≠ base) ∧ ascP base next l[k].toNat (l.drop (k + 1)) := by
  rw [List.drop_eq_getElem_cons h]; rfl
theorem man_Right (m : ManT) (A : MAd) (h0 : FH) (w : World) (hs : Sat h0 w) (hP : MnR h0 m A) : SpecV Tryd.prog 51 #[.agg (mnV m A).toArray] w (.bool (rightM m)) := by
  have H := St.start hs
  have hI := @rightM_iff m
  have hN := @rightM_no m
  obtain ⟨ver, flr, base, segs, next⟩ := m
  obtain ⟨a, c⟩ := A
  rw [show mnV ⟨ver, flr, base, segs, next⟩ ⟨a, c⟩ = mnL ver flr base segs.length next a c from rfl]
  have lm := mnL_len ver flr base segs.length next a c
  have qf := mnL_flr ver flr base segs.length next a c
  have q17 := mnL_17 ver flr base segs.length next a c
  have q18 := mnL_18 ver flr base segs.length next a c
  have q19 := mnL_19 ver flr base segs.length next a c
  have q0 : (mnL ver flr base segs.length next a c)[0 + 0]? = some (.int .u64 ver.toNat) := rfl
  have lf := cV_len flr
  have u0 := ver.toNat_lt; have u1 := base.toNat_lt; have u2 := next.toNat_lt
  have hP : Sl h0 1 a c (segs.map cKid) := hP
  have qc := hP.lenM
  have tf := typed_cV flr
  have tz := typed_cV fun _ => 0
  have hv := vec_Right flr 16
  unfold SpecV
  refine calls_of Tryd.func51 rfl Tryd.ntmps51 (by simp) ?_
  by_cases hA : 1 ≤ segs.length ∧ segs.length ≤ 64 ∧ ver.toNat ≠ 0 ∧ base.toNat < next.toNat ∧ rightV flr 16 = true ∧ (base.toNat = 0 ↔ cV flr = cV fun _ => 0)
  · obtain ⟨c1, c2, c3, c4, c5, c6⟩ := hA
    rw [c5] at hv
    by_cases hb : base.toNat = 0
    · obtain rfl := cV_inj.1 (c6.1 hb)
      clear c6
      repeat' (first | ((first | refine WL.p rfl ?_ | refine WL.u ?_ | refine WL.g rfl rfl ?_ | refine WL.gu rfl ?_); first | refine pvQ ?_ | (refine opk 3 rfl ?_; first | (refine ost_eqA rfl (by decide) rfl rfl tyQ tyQ (fun hc => ?_) (fun hc => ?_) <;> try exact prEQ) | (refine ost_neA rfl (by decide) rfl rfl tyQ tyQ (fun hc => ?_) (fun hc => ?_) <;> try exact prEQ) | (refine ost_cmp rfl rfl rfl rfl (fun hc => ?_) (fun hc => ?_) <;> (simp only [cmpP] at hc; try exact prIQ))) | (refine opk 4 rfl ?_; (refine ost_cmp rfl rfl rfl rfl (fun hc => ?_) (fun hc => ?_) <;> (simp only [cmpP] at hc; try exact prIQ))) | (refine opk 9 rfl ?_; (refine ost_boxq H rfl ?_; clear H; intro bk wk H))) | refine Wc.seq ?_ | refine then_n ?_ | refine WL.nil ?_ | refine Wc.region ?_ | refine Wc.block ?_ | refine then_r ?_ | refine then_e ?_ | refine inb_e rfl ?_ | refine inb_o rfl ?_ | refine inb_n ?_ | refine inb_r ?_ | refine Wc.skip ?_ | refine Wc.exit ?_ | refine Wc.ret ?_ | refine Wc.cond_true rfl ?_ | refine Wc.cond_false rfl ?_ | (refine Wc.drawn (id := 2) 32 (by kernel_rfl) ?_) | refine WL.skp rfl rfl ?_ | refine WL.sku rfl ?_ | (refine rgs_nil ?_; intro vs wk hE; replace H := H.ext hE; clear hE) | refine RGs.skp (fun _ => rfl) rfl ?_ | (refine RGs.bq (fun _ => rfl) rfl (by intro vs w hE hP; have H := H.ext hE; first | exact dbQ | fail) (fun hc => ?_) (fun hc => ?_) <;> ((try simp only [cmpP, decide_eq_true_eq, decide_eq_false_iff_not, dcd_iff, dcd_no] at hc); try exact prDQ)) | refine RGs.pq (fun _ => rfl) rfl (by intro vs w hE hP; have H := H.ext hE; first | (refine opk 1 rfl ?_; (exact ost_V0d rfl (hv _) rfl)) | (refine opk 3 rfl ?_; (refine ost_boolNe rfl rfl rfl ?_; exact ⟨Fr.refl _ _, rfl⟩)) | (refine opk 9 rfl ?_; (refine ost_buildAr (l := cV fun _ => 0) rfl evP_nil (by rfl) (by kernel_rfl) ?_; exact ⟨Fr.refl _ _, rfl⟩)) | exact dvQ | fail) ?_)
      have hcm : condM ⟨ver, fun _ => 0, base, segs, next⟩ := ⟨c1, c2, c3, c4, c5, fun _ => rfl, fun _ => hb⟩
      have hIf : rightM ⟨ver, fun _ => 0, base, segs, next⟩ = true ↔ ascP base.toNat next.toNat (lastM segs 0) (segs.drop 0) := ⟨fun h => (hI.1 h).2, fun h => hI.2 ⟨hcm, h⟩⟩
      generalize rightM ⟨ver, fun _ => 0, base, segs, next⟩ = R at hIf ⊢
      refine Wc.loopE (fun s0 m s w' => ∃ k : Nat, m = segs.length - k ∧ k ≤ segs.length ∧ Agree [2, 4, 6, 47, 48, 49, 50, 51, 52, 53, 54, 55, 56, 57, 58, 59, 60, 61, 62, 63, 64, 65, 66, 67] s s0 ∧ s 47 = .int .i64 k ∧ s 4 = .int .u32 (lastM segs k : Nat) ∧ (R = true ↔ ascP base.toNat next.toNat (lastM segs k) (segs.drop k)) ∧
        St w [] h0 h0 [.blk bk (.cells (mnL ver (fun _ => 0) base segs.length next a c).toArray 95 (0, 0))] w') segs.length ⟨0, rfl, by omega, Agree.refl _ _, rfl, rfl, hIf, H⟩ ?_
      clear H hIf hI hN
      rintro m s w' ⟨k, rfl, hk, hA9, e1, e2, hIf, H⟩
      obtain ⟨j, rfl⟩ := hA9.env2 e1 e2
      clear hA9 e1 e2
      by_cases hlt : k < segs.length
      · obtain ⟨b', off, l, T, fr, e1, eb, eg⟩ := hP.getM (by decide) (Nat.lt_of_le_of_lt (Nat.zero_le _) hlt)
        subst e1
        have g1 : l[off + (k : Int).toNat * 1]? = some (.int .u32 segs[k].toNat) := row_cell (eg (k : Int).toNat k hlt (by omega)) (q := 0) (by simp [cKid])
        rw [ascP_step hlt] at hIf
        have hsu := lastM_succ hlt
        rw [← hsu] at hIf g1
        clear eg
        have hl1 := lastM_lt segs (k + 1)
        have hl0 := lastM_lt segs k
        clear hsu
        generalize hY : lastM segs (k + 1) = y at hIf g1 hl1
        generalize lastM segs k = x at hIf hl0 ⊢
        by_cases hs3 : x < y ∧ y < next.toNat ∧ y ≠ base.toNat
        · repeat' (first | ((first | refine WL.p rfl ?_ | refine WL.u ?_ | refine WL.g rfl rfl ?_ | refine WL.gu rfl ?_); first | refine pvQ ?_ | (refine opk 3 rfl ?_; first | (refine ost_eqA rfl (by decide) rfl rfl tyQ tyQ (fun hc => ?_) (fun hc => ?_) <;> try exact prEQ) | (refine ost_neA rfl (by decide) rfl rfl tyQ tyQ (fun hc => ?_) (fun hc => ?_) <;> try exact prEQ) | (refine ost_cmp rfl rfl rfl rfl (fun hc => ?_) (fun hc => ?_) <;> (simp only [cmpP] at hc; try exact prIQ))) | (refine opk 4 rfl ?_; (refine ost_cmp rfl rfl rfl rfl (fun hc => ?_) (fun hc => ?_) <;> (simp only [cmpP] at hc; try exact prIQ))) | (refine opk 9 rfl ?_; (refine ost_boxq H rfl ?_; clear H; intro bk wk H))) | refine Wc.seq ?_ | refine then_n ?_ | refine WL.nil ?_ | refine Wc.region ?_ | refine Wc.block ?_ | refine then_r ?_ | refine then_e ?_ | refine inb_e rfl ?_ | refine inb_o rfl ?_ | refine inb_n ?_ | refine inb_r ?_ | refine Wc.skip ?_ | refine Wc.exit ?_ | refine Wc.ret ?_ | refine Wc.cond_true rfl ?_ | refine Wc.cond_false rfl ?_ | (refine Wc.drawn (id := 2) 32 (by kernel_rfl) ?_) | refine WL.skp rfl rfl ?_ | refine WL.sku rfl ?_ | (refine rgs_nil ?_; intro vs wk hE; replace H := H.ext hE; clear hE) | refine RGs.skp (fun _ => rfl) rfl ?_ | (refine RGs.bq (fun _ => rfl) rfl (by intro vs w hE hP; have H := H.ext hE; first | exact dbQ | fail) (fun hc => ?_) (fun hc => ?_) <;> ((try simp only [cmpP, decide_eq_true_eq, decide_eq_false_iff_not, dcd_iff, dcd_no] at hc); try exact prDQ)) | refine RGs.pq (fun _ => rfl) rfl (by intro vs w hE hP; have H := H.ext hE; first | exact dvQ | fail) ?_)
          all_goals exact ⟨segs.length - (k + 1), by omega, k + 1, rfl, by omega, by (repeat' (first | exact Agree.refl _ _ | exact Agree.havoc | refine Agree.upd rfl ?_ | refine Agree.hav2 rfl ?_)), rfl, by rw [hY]; rfl, by rw [hY, hIf]; exact ⟨fun h => h.2, fun h => ⟨hs3, h⟩⟩, H⟩
        · have hRf : R = false := by
            cases R with
            | false => rfl
            | true => exact absurd (hIf.1 rfl).1 hs3
          subst hRf
          repeat' (first | ((first | refine WL.p rfl ?_ | refine WL.u ?_ | refine WL.g rfl rfl ?_ | refine WL.gu rfl ?_); first | refine pvQ ?_ | (refine opk 3 rfl ?_; first | (refine ost_eqA rfl (by decide) rfl rfl tyQ tyQ (fun hc => ?_) (fun hc => ?_) <;> try exact prEQ) | (refine ost_neA rfl (by decide) rfl rfl tyQ tyQ (fun hc => ?_) (fun hc => ?_) <;> try exact prEQ) | (refine ost_cmp rfl rfl rfl rfl (fun hc => ?_) (fun hc => ?_) <;> (simp only [cmpP] at hc; try exact prIQ))) | (refine opk 4 rfl ?_; (refine ost_cmp rfl rfl rfl rfl (fun hc => ?_) (fun hc => ?_) <;> (simp only [cmpP] at hc; try exact prIQ))) | (refine opk 9 rfl ?_; (refine ost_boxq H rfl ?_; clear H; intro bk wk H))) | refine Wc.seq ?_ | refine then_n ?_ | refine WL.nil ?_ | refine Wc.region ?_ | refine Wc.block ?_ | refine then_r ?_ | refine then_e ?_ | refine inb_e rfl ?_ | refine inb_o rfl ?_ | refine inb_n ?_ | refine inb_r ?_ | refine Wc.skip ?_ | refine Wc.exit ?_ | refine Wc.ret ?_ | refine Wc.cond_true rfl ?_ | refine Wc.cond_false rfl ?_ | (refine Wc.drawn (id := 2) 32 (by kernel_rfl) ?_) | refine WL.skp rfl rfl ?_ | refine WL.sku rfl ?_ | (refine rgs_nil ?_; intro vs wk hE; replace H := H.ext hE; clear hE) | refine RGs.skp (fun _ => rfl) rfl ?_ | (refine RGs.bq (fun _ => rfl) rfl (by intro vs w hE hP; have H := H.ext hE; first | exact dbQ | fail) (fun hc => ?_) (fun hc => ?_) <;> ((try simp only [cmpP, decide_eq_true_eq, decide_eq_false_iff_not, dcd_iff, dcd_no] at hc); try exact prDQ)) | refine RGs.pq (fun _ => rfl) rfl (by intro vs w hE hP; have H := H.ext hE; first | exact dvQ | fail) ?_)
          all_goals first | ((first | refine fn_ret1 (v := .bool _) rfl rfl ⟨?_, H.fr⟩ | refine fn_ret1 (v := .int _ _) rfl rfl ⟨?_, H.fr⟩ | refine fn_ret1 (v := .string _) rfl rfl ⟨?_, H.fr⟩); rfl) | (exfalso; omega)
      · obtain rfl : k = segs.length := by omega
        have hRf : R = true := hIf.2 (by rw [List.drop_length]; exact trivial)
        subst hRf
        repeat' (first | ((first | refine WL.p rfl ?_ | refine WL.u ?_ | refine WL.g rfl rfl ?_ | refine WL.gu rfl ?_); first | refine pvQ ?_ | (refine opk 3 rfl ?_; first | (refine ost_eqA rfl (by decide) rfl rfl tyQ tyQ (fun hc => ?_) (fun hc => ?_) <;> try exact prEQ) | (refine ost_neA rfl (by decide) rfl rfl tyQ tyQ (fun hc => ?_) (fun hc => ?_) <;> try exact prEQ) | (refine ost_cmp rfl rfl rfl rfl (fun hc => ?_) (fun hc => ?_) <;> (simp only [cmpP] at hc; try exact prIQ))) | (refine opk 4 rfl ?_; (refine ost_cmp rfl rfl rfl rfl (fun hc => ?_) (fun hc => ?_) <;> (simp only [cmpP] at hc; try exact prIQ))) | (refine opk 9 rfl ?_; (refine ost_boxq H rfl ?_; clear H; intro bk wk H))) | refine Wc.seq ?_ | refine then_n ?_ | refine WL.nil ?_ | refine Wc.region ?_ | refine Wc.block ?_ | refine then_r ?_ | refine then_e ?_ | refine inb_e rfl ?_ | refine inb_o rfl ?_ | refine inb_n ?_ | refine inb_r ?_ | refine Wc.skip ?_ | refine Wc.exit ?_ | refine Wc.ret ?_ | refine Wc.cond_true rfl ?_ | refine Wc.cond_false rfl ?_ | (refine Wc.drawn (id := 2) 32 (by kernel_rfl) ?_) | refine WL.skp rfl rfl ?_ | refine WL.sku rfl ?_ | (refine rgs_nil ?_; intro vs wk hE; replace H := H.ext hE; clear hE) | refine RGs.skp (fun _ => rfl) rfl ?_ | (refine RGs.bq (fun _ => rfl) rfl (by intro vs w hE hP; have H := H.ext hE; first | exact dbQ | fail) (fun hc => ?_) (fun hc => ?_) <;> ((try simp only [cmpP, decide_eq_true_eq, decide_eq_false_iff_not, dcd_iff, dcd_no] at hc); try exact prDQ)) | refine RGs.pq (fun _ => rfl) rfl (by intro vs w hE hP; have H := H.ext hE; first | exact dvQ | fail) ?_)
        (first | refine fn_ret1 (v := .bool _) rfl rfl ⟨?_, H.fr⟩ | refine fn_ret1 (v := .int _ _) rfl rfl ⟨?_, H.fr⟩ | refine fn_ret1 (v := .string _) rfl rfl ⟨?_, H.fr⟩); rfl
    · have hz := fun h => hb (c6.2 h)
      repeat' (first | ((first | refine WL.p rfl ?_ | refine WL.u ?_ | refine WL.g rfl rfl ?_ | refine WL.gu rfl ?_); first | refine pvQ ?_ | (refine opk 3 rfl ?_; first | (refine ost_eqA rfl (by decide) rfl rfl tyQ tyQ (fun hc => ?_) (fun hc => ?_) <;> try exact prEQ) | (refine ost_neA rfl (by decide) rfl rfl tyQ tyQ (fun hc => ?_) (fun hc => ?_) <;> try exact prEQ) | (refine ost_cmp rfl rfl rfl rfl (fun hc => ?_) (fun hc => ?_) <;> (simp only [cmpP] at hc; try exact prIQ))) | (refine opk 4 rfl ?_; (refine ost_cmp rfl rfl rfl rfl (fun hc => ?_) (fun hc => ?_) <;> (simp only [cmpP] at hc; try exact prIQ))) | (refine opk 9 rfl ?_; (refine ost_boxq H rfl ?_; clear H; intro bk wk H))) | refine Wc.seq ?_ | refine then_n ?_ | refine WL.nil ?_ | refine Wc.region ?_ | refine Wc.block ?_ | refine then_r ?_ | refine then_e ?_ | refine inb_e rfl ?_ | refine inb_o rfl ?_ | refine inb_n ?_ | refine inb_r ?_ | refine Wc.skip ?_ | refine Wc.exit ?_ | refine Wc.ret ?_ | refine Wc.cond_true rfl ?_ | refine Wc.cond_false rfl ?_ | (refine Wc.drawn (id := 2) 32 (by kernel_rfl) ?_) | refine WL.skp rfl rfl ?_ | refine WL.sku rfl ?_ | (refine rgs_nil ?_; intro vs wk hE; replace H := H.ext hE; clear hE) | refine RGs.skp (fun _ => rfl) rfl ?_ | (refine RGs.bq (fun _ => rfl) rfl (by intro vs w hE hP; have H := H.ext hE; first | exact dbQ | fail) (fun hc => ?_) (fun hc => ?_) <;> ((try simp only [cmpP, decide_eq_true_eq, decide_eq_false_iff_not, dcd_iff, dcd_no] at hc); try exact prDQ)) | refine RGs.pq (fun _ => rfl) rfl (by intro vs w hE hP; have H := H.ext hE; first | (refine opk 1 rfl ?_; (exact ost_V0d rfl (hv _) rfl)) | (refine opk 3 rfl ?_; (refine ost_boolNe rfl rfl rfl ?_; exact ⟨Fr.refl _ _, rfl⟩)) | (refine opk 9 rfl ?_; (refine ost_buildAr (l := cV fun _ => 0) rfl evP_nil (by rfl) (by kernel_rfl) ?_; exact ⟨Fr.refl _ _, rfl⟩)) | exact dvQ | fail) ?_)
      have hcm : condM ⟨ver, flr, base, segs, next⟩ := ⟨c1, c2, c3, c4, c5, c6⟩
      have hIf : rightM ⟨ver, flr, base, segs, next⟩ = true ↔ ascP base.toNat next.toNat (lastM segs 0) (segs.drop 0) := ⟨fun h => (hI.1 h).2, fun h => hI.2 ⟨hcm, h⟩⟩
      generalize rightM ⟨ver, flr, base, segs, next⟩ = R at hIf ⊢
      refine Wc.loopE (fun s0 m s w' => ∃ k : Nat, m = segs.length - k ∧ k ≤ segs.length ∧ Agree [2, 4, 6, 47, 48, 49, 50, 51, 52, 53, 54, 55, 56, 57, 58, 59, 60, 61, 62, 63, 64, 65, 66, 67] s s0 ∧ s 47 = .int .i64 k ∧ s 4 = .int .u32 (lastM segs k : Nat) ∧ (R = true ↔ ascP base.toNat next.toNat (lastM segs k) (segs.drop k)) ∧
        St w [] h0 h0 [.blk bk (.cells (mnL ver flr base segs.length next a c).toArray 95 (0, 0))] w') segs.length ⟨0, rfl, by omega, Agree.refl _ _, rfl, rfl, hIf, H⟩ ?_
      clear H hIf hI hN
      rintro m s w' ⟨k, rfl, hk, hA9, e1, e2, hIf, H⟩
      obtain ⟨j, rfl⟩ := hA9.env2 e1 e2
      clear hA9 e1 e2
      by_cases hlt : k < segs.length
      · obtain ⟨b', off, l, T, fr, e1, eb, eg⟩ := hP.getM (by decide) (Nat.lt_of_le_of_lt (Nat.zero_le _) hlt)
        subst e1
        have g1 : l[off + (k : Int).toNat * 1]? = some (.int .u32 segs[k].toNat) := row_cell (eg (k : Int).toNat k hlt (by omega)) (q := 0) (by simp [cKid])
        rw [ascP_step hlt] at hIf
        have hsu := lastM_succ hlt
        rw [← hsu] at hIf g1
        clear eg
        have hl1 := lastM_lt segs (k + 1)
        have hl0 := lastM_lt segs k
        clear hsu
        generalize hY : lastM segs (k + 1) = y at hIf g1 hl1
        generalize lastM segs k = x at hIf hl0 ⊢
        by_cases hs3 : x < y ∧ y < next.toNat ∧ y ≠ base.toNat
        · repeat' (first | ((first | refine WL.p rfl ?_ | refine WL.u ?_ | refine WL.g rfl rfl ?_ | refine WL.gu rfl ?_); first | refine pvQ ?_ | (refine opk 3 rfl ?_; first | (refine ost_eqA rfl (by decide) rfl rfl tyQ tyQ (fun hc => ?_) (fun hc => ?_) <;> try exact prEQ) | (refine ost_neA rfl (by decide) rfl rfl tyQ tyQ (fun hc => ?_) (fun hc => ?_) <;> try exact prEQ) | (refine ost_cmp rfl rfl rfl rfl (fun hc => ?_) (fun hc => ?_) <;> (simp only [cmpP] at hc; try exact prIQ))) | (refine opk 4 rfl ?_; (refine ost_cmp rfl rfl rfl rfl (fun hc => ?_) (fun hc => ?_) <;> (simp only [cmpP] at hc; try exact prIQ))) | (refine opk 9 rfl ?_; (refine ost_boxq H rfl ?_; clear H; intro bk wk H))) | refine Wc.seq ?_ | refine then_n ?_ | refine WL.nil ?_ | refine Wc.region ?_ | refine Wc.block ?_ | refine then_r ?_ | refine then_e ?_ | refine inb_e rfl ?_ | refine inb_o rfl ?_ | refine inb_n ?_ | refine inb_r ?_ | refine Wc.skip ?_ | refine Wc.exit ?_ | refine Wc.ret ?_ | refine Wc.cond_true rfl ?_ | refine Wc.cond_false rfl ?_ | (refine Wc.drawn (id := 2) 32 (by kernel_rfl) ?_) | refine WL.skp rfl rfl ?_ | refine WL.sku rfl ?_ | (refine rgs_nil ?_; intro vs wk hE; replace H := H.ext hE; clear hE) | refine RGs.skp (fun _ => rfl) rfl ?_ | (refine RGs.bq (fun _ => rfl) rfl (by intro vs w hE hP; have H := H.ext hE; first | exact dbQ | fail) (fun hc => ?_) (fun hc => ?_) <;> ((try simp only [cmpP, decide_eq_true_eq, decide_eq_false_iff_not, dcd_iff, dcd_no] at hc); try exact prDQ)) | refine RGs.pq (fun _ => rfl) rfl (by intro vs w hE hP; have H := H.ext hE; first | exact dvQ | fail) ?_)
          all_goals exact ⟨segs.length - (k + 1), by omega, k + 1, rfl, by omega, by (repeat' (first | exact Agree.refl _ _ | exact Agree.havoc | refine Agree.upd rfl ?_ | refine Agree.hav2 rfl ?_)), rfl, by rw [hY]; rfl, by rw [hY, hIf]; exact ⟨fun h => h.2, fun h => ⟨hs3, h⟩⟩, H⟩
        · have hRf : R = false := by
            cases R with
            | false => rfl
            | true => exact absurd (hIf.1 rfl).1 hs3
          subst hRf
          repeat' (first | ((first | refine WL.p rfl ?_ | refine WL.u ?_ | refine WL.g rfl rfl ?_ | refine WL.gu rfl ?_); first | refine pvQ ?_ | (refine opk 3 rfl ?_; first | (refine ost_eqA rfl (by decide) rfl rfl tyQ tyQ (fun hc => ?_) (fun hc => ?_) <;> try exact prEQ) | (refine ost_neA rfl (by decide) rfl rfl tyQ tyQ (fun hc => ?_) (fun hc => ?_) <;> try exact prEQ) | (refine ost_cmp rfl rfl rfl rfl (fun hc => ?_) (fun hc => ?_) <;> (simp only [cmpP] at hc; try exact prIQ))) | (refine opk 4 rfl ?_; (refine ost_cmp rfl rfl rfl rfl (fun hc => ?_) (fun hc => ?_) <;> (simp only [cmpP] at hc; try exact prIQ))) | (refine opk 9 rfl ?_; (refine ost_boxq H rfl ?_; clear H; intro bk wk H))) | refine Wc.seq ?_ | refine then_n ?_ | refine WL.nil ?_ | refine Wc.region ?_ | refine Wc.block ?_ | refine then_r ?_ | refine then_e ?_ | refine inb_e rfl ?_ | refine inb_o rfl ?_ | refine inb_n ?_ | refine inb_r ?_ | refine Wc.skip ?_ | refine Wc.exit ?_ | refine Wc.ret ?_ | refine Wc.cond_true rfl ?_ | refine Wc.cond_false rfl ?_ | (refine Wc.drawn (id := 2) 32 (by kernel_rfl) ?_) | refine WL.skp rfl rfl ?_ | refine WL.sku rfl ?_ | (refine rgs_nil ?_; intro vs wk hE; replace H := H.ext hE; clear hE) | refine RGs.skp (fun _ => rfl) rfl ?_ | (refine RGs.bq (fun _ => rfl) rfl (by intro vs w hE hP; have H := H.ext hE; first | exact dbQ | fail) (fun hc => ?_) (fun hc => ?_) <;> ((try simp only [cmpP, decide_eq_true_eq, decide_eq_false_iff_not, dcd_iff, dcd_no] at hc); try exact prDQ)) | refine RGs.pq (fun _ => rfl) rfl (by intro vs w hE hP; have H := H.ext hE; first | exact dvQ | fail) ?_)
          all_goals first | ((first | refine fn_ret1 (v := .bool _) rfl rfl ⟨?_, H.fr⟩ | refine fn_ret1 (v := .int _ _) rfl rfl ⟨?_, H.fr⟩ | refine fn_ret1 (v := .string _) rfl rfl ⟨?_, H.fr⟩); rfl) | (exfalso; omega)
      · obtain rfl : k = segs.length := by omega
        have hRf : R = true := hIf.2 (by rw [List.drop_length]; exact trivial)
        subst hRf
        repeat' (first | ((first | refine WL.p rfl ?_ | refine WL.u ?_ | refine WL.g rfl rfl ?_ | refine WL.gu rfl ?_); first | refine pvQ ?_ | (refine opk 3 rfl ?_; first | (refine ost_eqA rfl (by decide) rfl rfl tyQ tyQ (fun hc => ?_) (fun hc => ?_) <;> try exact prEQ) | (refine ost_neA rfl (by decide) rfl rfl tyQ tyQ (fun hc => ?_) (fun hc => ?_) <;> try exact prEQ) | (refine ost_cmp rfl rfl rfl rfl (fun hc => ?_) (fun hc => ?_) <;> (simp only [cmpP] at hc; try exact prIQ))) | (refine opk 4 rfl ?_; (refine ost_cmp rfl rfl rfl rfl (fun hc => ?_) (fun hc => ?_) <;> (simp only [cmpP] at hc; try exact prIQ))) | (refine opk 9 rfl ?_; (refine ost_boxq H rfl ?_; clear H; intro bk wk H))) | refine Wc.seq ?_ | refine then_n ?_ | refine WL.nil ?_ | refine Wc.region ?_ | refine Wc.block ?_ | refine then_r ?_ | refine then_e ?_ | refine inb_e rfl ?_ | refine inb_o rfl ?_ | refine inb_n ?_ | refine inb_r ?_ | refine Wc.skip ?_ | refine Wc.exit ?_ | refine Wc.ret ?_ | refine Wc.cond_true rfl ?_ | refine Wc.cond_false rfl ?_ | (refine Wc.drawn (id := 2) 32 (by kernel_rfl) ?_) | refine WL.skp rfl rfl ?_ | refine WL.sku rfl ?_ | (refine rgs_nil ?_; intro vs wk hE; replace H := H.ext hE; clear hE) | refine RGs.skp (fun _ => rfl) rfl ?_ | (refine RGs.bq (fun _ => rfl) rfl (by intro vs w hE hP; have H := H.ext hE; first | exact dbQ | fail) (fun hc => ?_) (fun hc => ?_) <;> ((try simp only [cmpP, decide_eq_true_eq, decide_eq_false_iff_not, dcd_iff, dcd_no] at hc); try exact prDQ)) | refine RGs.pq (fun _ => rfl) rfl (by intro vs w hE hP; have H := H.ext hE; first | exact dvQ | fail) ?_)
        (first | refine fn_ret1 (v := .bool _) rfl rfl ⟨?_, H.fr⟩ | refine fn_ret1 (v := .int _ _) rfl rfl ⟨?_, H.fr⟩ | refine fn_ret1 (v := .string _) rfl rfl ⟨?_, H.fr⟩); rfl
  · rw [hN fun h => hA h.1]
    repeat' (first | ((first | refine WL.p rfl ?_ | refine WL.u ?_ | refine WL.g rfl rfl ?_ | refine WL.gu rfl ?_); first | (refine opk 3 rfl ?_; (refine ost_boolNe rfl rfl rfl ?_)) | refine pvQ ?_ | (refine opk 3 rfl ?_; first | (refine ost_eqA rfl (by decide) rfl rfl tyQ tyQ (fun hc => ?_) (fun hc => ?_) <;> try exact prEQ) | (refine ost_neA rfl (by decide) rfl rfl tyQ tyQ (fun hc => ?_) (fun hc => ?_) <;> try exact prEQ) | (refine ost_cmp rfl rfl rfl rfl (fun hc => ?_) (fun hc => ?_) <;> (simp only [cmpP] at hc; try exact prIQ))) | (refine opk 4 rfl ?_; (refine ost_cmp rfl rfl rfl rfl (fun hc => ?_) (fun hc => ?_) <;> (simp only [cmpP] at hc; try exact prIQ))) | (refine opk 9 rfl ?_; (refine ost_boxq H rfl ?_; clear H; intro bk wk H))) | refine Wc.seq ?_ | refine then_n ?_ | refine WL.nil ?_ | refine Wc.region ?_ | refine Wc.block ?_ | refine then_r ?_ | refine then_e ?_ | refine inb_e rfl ?_ | refine inb_o rfl ?_ | refine inb_n ?_ | refine inb_r ?_ | refine Wc.skip ?_ | refine Wc.exit ?_ | refine Wc.ret ?_ | refine Wc.cond_true rfl ?_ | refine Wc.cond_false rfl ?_ | (refine Wc.drawn (id := 2) 32 (by kernel_rfl) ?_) | refine WL.skp rfl rfl ?_ | refine WL.sku rfl ?_ | (refine rgs_nil ?_; intro vs wk hE; replace H := H.ext hE; clear hE) | refine RGs.skp (fun _ => rfl) rfl ?_ | (refine RGs.bq (fun _ => rfl) rfl (by intro vs w hE hP; have H := H.ext hE; first | (refine opk 1 rfl ?_; (exact ost_V0d rfl (hv _) rfl)) | exact dbQ | fail) (fun hc => ?_) (fun hc => ?_) <;> ((try simp only [cmpP, decide_eq_true_eq, decide_eq_false_iff_not, dcd_iff, dcd_no] at hc); try exact prDQ)) | refine RGs.pq (fun _ => rfl) rfl (by intro vs w hE hP; have H := H.ext hE; first | (refine opk 9 rfl ?_; (refine ost_buildAr (l := cV fun _ => 0) rfl evP_nil (by rfl) (by kernel_rfl) ?_; exact ⟨Fr.refl _ _, rfl⟩)) | exact dvQ | fail) ?_)
    all_goals first | ((first | refine fn_ret1 (v := .bool _) rfl rfl ⟨?_, H.fr⟩ | refine fn_ret1 (v := .int _ _) rfl rfl ⟨?_, H.fr⟩ | refine fn_ret1 (v := .string _) rfl rfl ⟨?_, H.fr⟩); rfl) | exact absurd ⟨by omega, by omega, by omega, by omega, by assumption, by constructor <;> intro h9 <;> first | assumption | omega | (exfalso; omega) | contradiction⟩ hA
end Go.Tg

set_option linter.unusedVariables false
set_option linter.unusedSimpArgs false
set_option maxRecDepth 100000
set_option maxHeartbeats 8000000
namespace Go.Tg
open Go Go.Proofs
theorem r16_Right (m : ManT) (A : MAd) (h0 : FH) (w : World) (hs : Sat h0 w) (hP : MnR h0 m A) : SpecV Tryd.prog 52 #[.agg (mnV m A).toArray] w (.bool (rightM m)) := by
  have H := St.start hs
  have hI := @rightM_iff m
  have hN := @rightM_no m
  obtain ⟨ver, flr, base, segs, next⟩ := m
  obtain ⟨a, c⟩ := A
  rw [show mnV ⟨ver, flr, base, segs, next⟩ ⟨a, c⟩ = mnL ver flr base segs.length next a c from rfl]
  have lm := mnL_len ver flr base segs.length next a c
  have qf := mnL_flr ver flr base segs.length next a c
  have q17 := mnL_17 ver flr base segs.length next a c
  have q18 := mnL_18 ver flr base segs.length next a c
  have q19 := mnL_19 ver flr base segs.length next a c
  have q0 : (mnL ver flr base segs.length next a c)[0 + 0]? = some (.int .u64 ver.toNat) := rfl
  have lf := cV_len flr
  have u0 := ver.toNat_lt; have u1 := base.toNat_lt; have u2 := next.toNat_lt
  have hP : Sl h0 1 a c (segs.map cKid) := hP
  have qc := hP.lenM
  have tf := typed_cV flr
  have tz := typed_cV fun _ => 0
  have hv := ref4_Right flr 16
  unfold SpecV
  refine calls_of Tryd.func52 rfl Tryd.ntmps52 (by simp) ?_
  repeat' (first | ((first | refine WL.p rfl ?_ | refine WL.u ?_ | refine WL.g rfl rfl ?_ | refine WL.gu rfl ?_); first | refine pvQ ?_ | (refine opk 3 rfl ?_; first | (refine ost_eqA rfl (by decide) rfl rfl tyQ tyQ (fun hc => ?_) (fun hc => ?_) <;> try exact prEQ) | (refine ost_neA rfl (by decide) rfl rfl tyQ tyQ (fun hc => ?_) (fun hc => ?_) <;> try exact prEQ) | (refine ost_cmp rfl rfl rfl rfl (fun hc => ?_) (fun hc => ?_) <;> (simp only [cmpP] at hc; try exact prIQ))) | (refine opk 4 rfl ?_; (refine ost_cmp rfl rfl rfl rfl (fun hc => ?_) (fun hc => ?_) <;> (simp only [cmpP] at hc; try exact prIQ))) | (refine opk 9 rfl ?_; (refine ost_boxq H rfl ?_; clear H; intro bk wk H))) | refine Wc.seq ?_ | refine then_n ?_ | refine WL.nil ?_ | refine Wc.region ?_ | refine Wc.block ?_ | refine then_r ?_ | refine then_e ?_ | refine inb_e rfl ?_ | refine inb_o rfl ?_ | refine inb_n ?_ | refine inb_r ?_ | refine Wc.skip ?_ | refine Wc.exit ?_ | refine Wc.ret ?_ | refine Wc.cond_true rfl ?_ | refine Wc.cond_false rfl ?_ | (refine Wc.drawn (id := 11) 11 (by kernel_rfl) ?_) | refine WL.skp rfl rfl ?_ | refine WL.sku rfl ?_ | (refine rgs_nil ?_; intro vs wk hE; replace H := H.ext hE; clear hE) | refine RGs.skp (fun _ => rfl) rfl ?_ | (refine RGs.bq (fun _ => rfl) rfl (by intro vs w hE hP; have H := H.ext hE; first | exact dbQ | fail) (fun hc => ?_) (fun hc => ?_) <;> ((try simp only [cmpP, decide_eq_true_eq, decide_eq_false_iff_not, dcd_iff, dcd_no] at hc); try exact prDQ)) | refine RGs.pq (fun _ => rfl) rfl (by intro vs w hE hP; have H := H.ext hE; first | exact dvQ | fail) ?_)
  have hIf : ascP base.toNat next.toNat 0 segs ↔ ascP base.toNat next.toNat (lastM segs 0) (segs.drop 0) := Iff.rfl
  refine Wc.loopE (fun s0 m s w' => ∃ k : Nat, m = segs.length - k ∧ k ≤ segs.length ∧ Agree [2, 3, 4, 5, 6, 7, 8, 9, 10, 11, 12, 13, 14, 15, 16, 17, 18, 19, 20, 21, 22, 23, 24, 25, 26, 27, 28, 29, 30, 31, 32, 33] s s0 ∧ s 4 = .int .i64 k ∧ s 3 = .int .u32 (lastM segs k : Nat) ∧ (ascP base.toNat next.toNat 0 segs ↔ ascP base.toNat next.toNat (lastM segs k) (segs.drop k)) ∧
    St w [] h0 h0 [.blk bk (.cells (mnL ver flr base segs.length next a c).toArray 93 (0, 0))] w') segs.length ⟨0, rfl, by omega, Agree.refl _ _, rfl, rfl, hIf, H⟩ ?_
  clear H hIf
  rintro m s w' ⟨k, rfl, hk, hA9, e1, e2, hIf, H⟩
  obtain ⟨j, rfl⟩ := hA9.env2 e1 e2
  clear hA9 e1 e2
  by_cases hlt : k < segs.length
  · obtain ⟨b', off, l, T, fr, e1, eb, eg⟩ := hP.getM (by decide) (Nat.lt_of_le_of_lt (Nat.zero_le _) hlt)
    subst e1
    have g1 : l[off + (k : Int).toNat * 1]? = some (.int .u32 segs[k].toNat) := row_cell (eg (k : Int).toNat k hlt (by omega)) (q := 0) (by simp [cKid])
    rw [ascP_step hlt] at hIf
    have hsu := lastM_succ hlt
    rw [← hsu] at hIf g1
    clear eg hsu
    have hl1 := lastM_lt segs (k + 1)
    have hl0 := lastM_lt segs k
    generalize hY : lastM segs (k + 1) = y at hIf g1 hl1
    generalize lastM segs k = x at hIf hl0 ⊢
    by_cases hs3 : x < y ∧ y < next.toNat ∧ y ≠ base.toNat
    · repeat' (first | ((first | refine WL.p rfl ?_ | refine WL.u ?_ | refine WL.g rfl rfl ?_ | refine WL.gu rfl ?_); first | refine pvQ ?_ | (refine opk 3 rfl ?_; first | (refine ost_eqA rfl (by decide) rfl rfl tyQ tyQ (fun hc => ?_) (fun hc => ?_) <;> try exact prEQ) | (refine ost_neA rfl (by decide) rfl rfl tyQ tyQ (fun hc => ?_) (fun hc => ?_) <;> try exact prEQ) | (refine ost_cmp rfl rfl rfl rfl (fun hc => ?_) (fun hc => ?_) <;> (simp only [cmpP] at hc; try exact prIQ))) | (refine opk 4 rfl ?_; (refine ost_cmp rfl rfl rfl rfl (fun hc => ?_) (fun hc => ?_) <;> (simp only [cmpP] at hc; try exact prIQ))) | (refine opk 9 rfl ?_; (refine ost_boxq H rfl ?_; clear H; intro bk wk H))) | refine Wc.seq ?_ | refine then_n ?_ | refine WL.nil ?_ | refine Wc.region ?_ | refine Wc.block ?_ | refine then_r ?_ | refine then_e ?_ | refine inb_e rfl ?_ | refine inb_o rfl ?_ | refine inb_n ?_ | refine inb_r ?_ | refine Wc.skip ?_ | refine Wc.exit ?_ | refine Wc.ret ?_ | refine Wc.cond_true rfl ?_ | refine Wc.cond_false rfl ?_ | (refine Wc.drawn (id := 11) 11 (by kernel_rfl) ?_) | refine WL.skp rfl rfl ?_ | refine WL.sku rfl ?_ | (refine rgs_nil ?_; intro vs wk hE; replace H := H.ext hE; clear hE) | refine RGs.skp (fun _ => rfl) rfl ?_ | (refine RGs.bq (fun _ => rfl) rfl (by intro vs w hE hP; have H := H.ext hE; first | exact dbQ | fail) (fun hc => ?_) (fun hc => ?_) <;> ((try simp only [cmpP, decide_eq_true_eq, decide_eq_false_iff_not, dcd_iff, dcd_no] at hc); try exact prDQ)) | refine RGs.pq (fun _ => rfl) rfl (by intro vs w hE hP; have H := H.ext hE; first | exact dvQ | fail) ?_)
      all_goals exact ⟨segs.length - (k + 1), by omega, k + 1, rfl, by omega, by (repeat' (first | exact Agree.refl _ _ | exact Agree.havoc | refine Agree.upd rfl ?_ | refine Agree.hav2 rfl ?_)), rfl, by rw [hY]; rfl, by rw [hY, hIf]; exact ⟨fun h => h.2, fun h => ⟨hs3, h⟩⟩, H⟩
    · rw [hN fun h => hs3 (hIf.1 h.2).1]
      repeat' (first | ((first | refine WL.p rfl ?_ | refine WL.u ?_ | refine WL.g rfl rfl ?_ | refine WL.gu rfl ?_); first | refine pvQ ?_ | (refine opk 3 rfl ?_; first | (refine ost_eqA rfl (by decide) rfl rfl tyQ tyQ (fun hc => ?_) (fun hc => ?_) <;> try exact prEQ) | (refine ost_neA rfl (by decide) rfl rfl tyQ tyQ (fun hc => ?_) (fun hc => ?_) <;> try exact prEQ) | (refine ost_cmp rfl rfl rfl rfl (fun hc => ?_) (fun hc => ?_) <;> (simp only [cmpP] at hc; try exact prIQ))) | (refine opk 4 rfl ?_; (refine ost_cmp rfl rfl rfl rfl (fun hc => ?_) (fun hc => ?_) <;> (simp only [cmpP] at hc; try exact prIQ))) | (refine opk 9 rfl ?_; (refine ost_boxq H rfl ?_; clear H; intro bk wk H))) | refine Wc.seq ?_ | refine then_n ?_ | refine WL.nil ?_ | refine Wc.region ?_ | refine Wc.block ?_ | refine then_r ?_ | refine then_e ?_ | refine inb_e rfl ?_ | refine inb_o rfl ?_ | refine inb_n ?_ | refine inb_r ?_ | refine Wc.skip ?_ | refine Wc.exit ?_ | refine Wc.ret ?_ | refine Wc.cond_true rfl ?_ | refine Wc.cond_false rfl ?_ | (refine Wc.drawn (id := 11) 11 (by kernel_rfl) ?_) | refine WL.skp rfl rfl ?_ | refine WL.sku rfl ?_ | (refine rgs_nil ?_; intro vs wk hE; replace H := H.ext hE; clear hE) | refine RGs.skp (fun _ => rfl) rfl ?_ | (refine RGs.bq (fun _ => rfl) rfl (by intro vs w hE hP; have H := H.ext hE; first | exact dbQ | fail) (fun hc => ?_) (fun hc => ?_) <;> ((try simp only [cmpP, decide_eq_true_eq, decide_eq_false_iff_not, dcd_iff, dcd_no] at hc); try exact prDQ)) | refine RGs.pq (fun _ => rfl) rfl (by intro vs w hE hP; have H := H.ext hE; first | exact dvQ | fail) ?_)
      all_goals first | ((first | refine fn_ret1 (v := .bool _) rfl rfl ⟨?_, H.fr⟩ | refine fn_ret1 (v := .int _ _) rfl rfl ⟨?_, H.fr⟩ | refine fn_ret1 (v := .string _) rfl rfl ⟨?_, H.fr⟩); rfl) | (exfalso; omega)
  · obtain rfl : k = segs.length := by omega
    have has : ascP base.toNat next.toNat 0 segs := hIf.2 (by rw [List.drop_length]; exact trivial)
    clear hIf
    by_cases hA : 1 ≤ segs.length ∧ segs.length ≤ 64 ∧ ver.toNat ≠ 0 ∧ base.toNat < next.toNat ∧ rightV flr 16 = true ∧ (base.toNat = 0 ↔ cV flr = cV fun _ => 0)
    · rw [hI.2 ⟨hA, has⟩]
      obtain ⟨c1, c2, c3, c4, c5, c6⟩ := hA
      rw [c5] at hv
      by_cases hb : base.toNat = 0
      · obtain rfl := cV_inj.1 (c6.1 hb)
        clear c6
        repeat' (first | ((first | refine WL.p rfl ?_ | refine WL.u ?_ | refine WL.g rfl rfl ?_ | refine WL.gu rfl ?_); first | refine pvQ ?_ | (refine opk 3 rfl ?_; first | (refine ost_eqA rfl (by decide) rfl rfl tyQ tyQ (fun hc => ?_) (fun hc => ?_) <;> try exact prEQ) | (refine ost_neA rfl (by decide) rfl rfl tyQ tyQ (fun hc => ?_) (fun hc => ?_) <;> try exact prEQ) | (refine ost_cmp rfl rfl rfl rfl (fun hc => ?_) (fun hc => ?_) <;> (simp only [cmpP] at hc; try exact prIQ))) | (refine opk 4 rfl ?_; (refine ost_cmp rfl rfl rfl rfl (fun hc => ?_) (fun hc => ?_) <;> (simp only [cmpP] at hc; try exact prIQ))) | (refine opk 9 rfl ?_; (refine ost_boxq H rfl ?_; clear H; intro bk wk H))) | refine Wc.seq ?_ | refine then_n ?_ | refine WL.nil ?_ | refine Wc.region ?_ | refine Wc.block ?_ | refine then_r ?_ | refine then_e ?_ | refine inb_e rfl ?_ | refine inb_o rfl ?_ | refine inb_n ?_ | refine inb_r ?_ | refine Wc.skip ?_ | refine Wc.exit ?_ | refine Wc.ret ?_ | refine Wc.cond_true rfl ?_ | refine Wc.cond_false rfl ?_ | (refine Wc.drawn (id := 11) 11 (by kernel_rfl) ?_) | refine WL.skp rfl rfl ?_ | refine WL.sku rfl ?_ | (refine rgs_nil ?_; intro vs wk hE; replace H := H.ext hE; clear hE) | refine RGs.skp (fun _ => rfl) rfl ?_ | (refine RGs.bq (fun _ => rfl) rfl (by intro vs w hE hP; have H := H.ext hE; first | exact dbQ | fail) (fun hc => ?_) (fun hc => ?_) <;> ((try simp only [cmpP, decide_eq_true_eq, decide_eq_false_iff_not, dcd_iff, dcd_no] at hc); try exact prDQ)) | refine RGs.pq (fun _ => rfl) rfl (by intro vs w hE hP; have H := H.ext hE; first | (refine opk 1 rfl ?_; (exact ost_V0d rfl (hv _) rfl)) | (refine opk 9 rfl ?_; (refine ost_buildAr (l := cV fun _ => 0) rfl evP_nil (by rfl) (by kernel_rfl) ?_; exact ⟨Fr.refl _ _, rfl⟩)) | exact dvQ | fail) ?_)
        (first | refine fn_ret1 (v := .bool _) rfl rfl ⟨?_, H.fr⟩ | refine fn_ret1 (v := .int _ _) rfl rfl ⟨?_, H.fr⟩ | refine fn_ret1 (v := .string _) rfl rfl ⟨?_, H.fr⟩); rfl
      · have hz := fun h => hb (c6.2 h)
        repeat' (first | ((first | refine WL.p rfl ?_ | refine WL.u ?_ | refine WL.g rfl rfl ?_ | refine WL.gu rfl ?_); first | refine pvQ ?_ | (refine opk 3 rfl ?_; first | (refine ost_eqA rfl (by decide) rfl rfl tyQ tyQ (fun hc => ?_) (fun hc => ?_) <;> try exact prEQ) | (refine ost_neA rfl (by decide) rfl rfl tyQ tyQ (fun hc => ?_) (fun hc => ?_) <;> try exact prEQ) | (refine ost_cmp rfl rfl rfl rfl (fun hc => ?_) (fun hc => ?_) <;> (simp only [cmpP] at hc; try exact prIQ))) | (refine opk 4 rfl ?_; (refine ost_cmp rfl rfl rfl rfl (fun hc => ?_) (fun hc => ?_) <;> (simp only [cmpP] at hc; try exact prIQ))) | (refine opk 9 rfl ?_; (refine ost_boxq H rfl ?_; clear H; intro bk wk H))) | refine Wc.seq ?_ | refine then_n ?_ | refine WL.nil ?_ | refine Wc.region ?_ | refine Wc.block ?_ | refine then_r ?_ | refine then_e ?_ | refine inb_e rfl ?_ | refine inb_o rfl ?_ | refine inb_n ?_ | refine inb_r ?_ | refine Wc.skip ?_ | refine Wc.exit ?_ | refine Wc.ret ?_ | refine Wc.cond_true rfl ?_ | refine Wc.cond_false rfl ?_ | (refine Wc.drawn (id := 11) 11 (by kernel_rfl) ?_) | refine WL.skp rfl rfl ?_ | refine WL.sku rfl ?_ | (refine rgs_nil ?_; intro vs wk hE; replace H := H.ext hE; clear hE) | refine RGs.skp (fun _ => rfl) rfl ?_ | (refine RGs.bq (fun _ => rfl) rfl (by intro vs w hE hP; have H := H.ext hE; first | exact dbQ | fail) (fun hc => ?_) (fun hc => ?_) <;> ((try simp only [cmpP, decide_eq_true_eq, decide_eq_false_iff_not, dcd_iff, dcd_no] at hc); try exact prDQ)) | refine RGs.pq (fun _ => rfl) rfl (by intro vs w hE hP; have H := H.ext hE; first | (refine opk 1 rfl ?_; (exact ost_V0d rfl (hv _) rfl)) | (refine opk 9 rfl ?_; (refine ost_buildAr (l := cV fun _ => 0) rfl evP_nil (by rfl) (by kernel_rfl) ?_; exact ⟨Fr.refl _ _, rfl⟩)) | exact dvQ | fail) ?_)
        (first | refine fn_ret1 (v := .bool _) rfl rfl ⟨?_, H.fr⟩ | refine fn_ret1 (v := .int _ _) rfl rfl ⟨?_, H.fr⟩ | refine fn_ret1 (v := .string _) rfl rfl ⟨?_, H.fr⟩); rfl
    · rw [hN fun h => hA h.1]
      repeat' (first | ((first | refine WL.p rfl ?_ | refine WL.u ?_ | refine WL.g rfl rfl ?_ | refine WL.gu rfl ?_); first | (refine opk 3 rfl ?_; (refine ost_boolEqN rfl rfl rfl ?_)) | refine pvQ ?_ | (refine opk 3 rfl ?_; first | (refine ost_eqA rfl (by decide) rfl rfl tyQ tyQ (fun hc => ?_) (fun hc => ?_) <;> try exact prEQ) | (refine ost_neA rfl (by decide) rfl rfl tyQ tyQ (fun hc => ?_) (fun hc => ?_) <;> try exact prEQ) | (refine ost_cmp rfl rfl rfl rfl (fun hc => ?_) (fun hc => ?_) <;> (simp only [cmpP] at hc; try exact prIQ))) | (refine opk 4 rfl ?_; (refine ost_cmp rfl rfl rfl rfl (fun hc => ?_) (fun hc => ?_) <;> (simp only [cmpP] at hc; try exact prIQ))) | (refine opk 9 rfl ?_; (refine ost_boxq H rfl ?_; clear H; intro bk wk H))) | refine Wc.seq ?_ | refine then_n ?_ | refine WL.nil ?_ | refine Wc.region ?_ | refine Wc.block ?_ | refine then_r ?_ | refine then_e ?_ | refine inb_e rfl ?_ | refine inb_o rfl ?_ | refine inb_n ?_ | refine inb_r ?_ | refine Wc.skip ?_ | refine Wc.exit ?_ | refine Wc.ret ?_ | refine Wc.cond_true rfl ?_ | refine Wc.cond_false rfl ?_ | (refine Wc.drawn (id := 11) 11 (by kernel_rfl) ?_) | refine WL.skp rfl rfl ?_ | refine WL.sku rfl ?_ | (refine rgs_nil ?_; intro vs wk hE; replace H := H.ext hE; clear hE) | refine RGs.skp (fun _ => rfl) rfl ?_ | (refine RGs.bq (fun _ => rfl) rfl (by intro vs w hE hP; have H := H.ext hE; first | (refine opk 1 rfl ?_; (exact ost_V0d rfl (hv _) rfl)) | exact dbQ | fail) (fun hc => ?_) (fun hc => ?_) <;> ((try simp only [cmpP, decide_eq_true_eq, decide_eq_false_iff_not, dcd_iff, dcd_no] at hc); try exact prDQ)) | refine RGs.pq (fun _ => rfl) rfl (by intro vs w hE hP; have H := H.ext hE; first | (refine opk 9 rfl ?_; (refine ost_buildAr (l := cV fun _ => 0) rfl evP_nil (by rfl) (by kernel_rfl) ?_; exact ⟨Fr.refl _ _, rfl⟩)) | exact dvQ | fail) ?_)
      all_goals first | ((first | refine fn_ret1 (v := .bool _) rfl rfl ⟨?_, H.fr⟩ | refine fn_ret1 (v := .int _ _) rfl rfl ⟨?_, H.fr⟩ | refine fn_ret1 (v := .string _) rfl rfl ⟨?_, H.fr⟩); rfl) | exact absurd ⟨by omega, by omega, by omega, by omega, by assumption, by constructor <;> intro h9 <;> first | assumption | omega | (exfalso; omega) | contradiction⟩ hA
end Go.Tg

