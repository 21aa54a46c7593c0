/- Contracts of Go functions that the laws reach: what each call answers and leaves in memory, for all arguments within the bounds that each theorem names. -/
import Derived.Test.YtajfhoeejeadkaaDoorInst
import Derived.Test.YtajfhoeejeadkaaDoorAuto
import Derived.Test.YtajfhoeejeadkaaDoorQC
import Derived.Test.YtajfhoeejeadkaaDoorL3
import Derived.Test.YtajfhoeejeadkaaDoorCards
import Derived.Test.YtajfhoeejeadkaaDoorTie
import Derived.SevenTiedAt
import Derived.Test.YtajfhoeejeadkaaDoorChn
set_option linter.unusedVariables false
set_option linter.unusedSimpArgs false
set_option maxRecDepth 100000
set_option maxHeartbeats 4000000
namespace Go.Tg
open Go Go.Proofs
def PGv (h : FH) (v : Value) (p : PageT) : Prop := ∃ A, v = .agg (pgV p A).toArray ∧ PgR h p A
theorem PGv.mono {h h' : FH} {v : Value} {p : PageT} (hle : FLe h h') (r : PGv h v p) : PGv h' v p := by
  obtain ⟨A, e, r⟩ := r; exact ⟨A, e, r.mono hle⟩
def GP (l : List (Nat × PageT)) : GF := fun i => match l.lookup i with | some xs => some fun v w => PGv (full w) v xs | none => none
theorem pf_P {ops : Array Oper} {l : List (Nat × PageT)} {i : Nat} {vs : Nat → Value} {w : World} {xs : PageT} (hP : PFs ops (GP l) i vs w) (p : Nat) (hd : direct ops i p = true) (hl : l.lookup p = some xs) (hs : (dstOf ops p).isSome = true) : PGv (full w) (vs p) xs :=
  hP p (fun v w => PGv (full w) v xs) hd (by unfold GP; rw [hl]) hs
theorem Wc.drawnP {P : Program} {w0 : World} {n : Nat} {Q : Exit → Env → World → Prop} {s0 : Env} (kb : Nat) (g : List (Nat × PageT)) {id : Nat} {l : List Oper} [hm : Mix P] (hok : drawOk n kb l.toArray = true)
    (h : RGs P l.toArray (GP g) w0 (fun sk => ∀ vs w, Ext w0 w → WL P n l.toArray Q (l.drop kb) (sk vs) w) 0 (l.take kb) (fun _ => s0)) :
    Wc P n (.region id l.toArray true) Q s0 w0 := by
  refine Wc.draw (G := GP g) kb hok hm.m (fun i q hq v w w' hv hE => ?_) ?_
  · unfold GP at hq
    cases hl : g.lookup i with
    | none => rw [hl] at hq; cases hq
    | some xs => rw [hl] at hq; cases hq; exact hv.mono (full_ext hE)
  · have key : ∀ (i : Nat) (rest : List Oper) (sk : (Nat → Value) → Env), RGs P l.toArray (GP g) w0 (fun sk => ∀ vs w, Ext w0 w → WL P n l.toArray Q (l.drop kb) (sk vs) w) i rest sk →
        RGs P l.toArray (GP g) w0 (fun sk => ∀ vs w, Ext w0 w → (∀ p q, p < kb → GP g p = some q → (dstOf l.toArray p).isSome = true → q (vs p) w) → WL P n l.toArray Q (l.drop kb) (sk vs) w) i rest sk := by
      intro i rest
      induction rest generalizing i with
      | nil => intro sk h; unfold RGs at h ⊢; exact fun vs w hE _ => h vs w hE
      | cons o rest ih =>
        intro sk h
        unfold RGs at h ⊢
        cases hg : GP g i with
        | some q => simp only [hg] at h ⊢; exact ⟨h.1, ih _ _ h.2⟩
        | none => simp only [hg] at h ⊢; obtain ⟨X, h1, h2⟩ := h; exact ⟨X, h1, ih _ _ h2⟩
    exact key _ _ _ h
section
variable {P : Program} {o : Oper} {s : Env} {w : World} {K : Value → World → Prop}
theorem ost_P {f : Nat} {args : List Operand} {at_ : Array TypeId} {vs : List Value} {p : PageT} [Fun P f] (ho : o.op = .call { callee := .value (.func f), args := args.toArray, argTypes := at_ })
    (hC : Spec P f vs.toArray w [] (full w) (fun v h' L' => ∃ A', v = .agg (pgV p A').toArray ∧ L' = [] ∧ PgR h' p A')) (hv : mapEv s args = vs) (hk : ∀ v w', Ext w w' → PGv (full w') v p → K v w') : Ost P o s w K :=
  ost_call ho hC hv fun v w' ⟨h', L', hs, hr⟩ => by
    obtain ⟨A', e, hl, hp⟩ := hr
    exact hk v w' hs.fr ⟨A', e, hp.mono hs.sat.le⟩
end
theorem few_le {p : PageT} (h : fewP p = true) : p.keys.length ≤ 1000000 ∧ p.locs.length ≤ 1000000 := by
  unfold fewP at h
  simp only [Bool.and_eq_true, decide_eq_true_eq] at h
  omega
end Go.Tg
namespace Go.Proofs.YtajfhoeejeadkaaDoor
open Go.ChangeShapes Go.WideShapes Go.ChangeAt Go.RowKit Go.Tg
end Go.Proofs.YtajfhoeejeadkaaDoor

set_option linter.unusedVariables false
set_option linter.unusedSimpArgs false
set_option maxRecDepth 100000
set_option maxHeartbeats 4000000
namespace Go.Tg
open Go Go.Proofs
theorem cLoc_inj {a b : LocT} : cLoc a = cLoc b ↔ a = b := by
  refine ⟨fun h => ?_, fun h => by rw [h]⟩
  unfold cLoc at h
  simp only [List.cons.injEq, Value.int.injEq, true_and, and_true] at h
  obtain ⟨h1, h2⟩ := h
  have e1 : a.seg = b.seg := UInt32.toNat_inj.1 (by omega)
  have e2 : a.at_ = b.at_ := UInt32.toNat_inj.1 (by omega)
  cases a; cases b; simp_all
theorem typed_cLoc (k : LocT) : Typed [.i .u32, .i .u32] (cLoc k) := rfl
theorem cLoc_len (k : LocT) : (cLoc k).length = 2 := rfl
theorem list_eq_of {α : Type} {a b : List α} (hl : a.length = b.length) (h : ∀ j (h1 : j < a.length) (h2 : j < b.length), a[j] = b[j]) : a = b := List.ext_getElem hl fun j h1 h2 => h j h1 h2
noncomputable def sameP (p q : PageT) : Bool := dcd (p = q)
set_option maxHeartbeats 8000000 in
theorem r13_Same (p q : PageT) (A B : PAd) (h0 : FH) (w : World) (hs : Sat h0 w) (hP : PgR h0 p A) (hQ : PgR h0 q B) : SpecV Tryd.prog 31 #[.agg (pgV p A).toArray, .agg (pgV q B).toArray] w (.bool (sameP p q)) := by
  have H := St.start hs
  obtain ⟨lf, ks, ls, ds⟩ := p
  obtain ⟨ak, ck, al, cl, ad, cd⟩ := A
  obtain ⟨lf', ks', ls', ds'⟩ := q
  obtain ⟨ak', ck', al', cl', ad', cd'⟩ := B
  rw [show pgV ⟨lf, ks, ls, ds⟩ ⟨ak, ck, al, cl, ad, cd⟩ = pgL lf ks.length ls.length ds.length ak ck al cl ad cd from rfl, show pgV ⟨lf', ks', ls', ds'⟩ ⟨ak', ck', al', cl', ad', cd'⟩ = pgL lf' ks'.length ls'.length ds'.length ak' ck' al' cl' ad' cd' from rfl]
  have lp : (pgL lf ks.length ls.length ds.length ak ck al cl ad cd).length = 4 := rfl
  have lq : (pgL lf' ks'.length ls'.length ds'.length ak' ck' al' cl' ad' cd').length = 4 := rfl
  have q1 := hP.k.lenM; have q2 := hP.l.lenM; have q3 := hP.d.lenM
  have q4 := hQ.k.lenM; have q5 := hQ.l.lenM; have q6 := hQ.d.lenM
  dsimp only at q1 q2 q3 q4 q5 q6
  have hno : ¬ ((lf = lf' ∧ ks.length = ks'.length) ∧ ls.length = ls'.length ∧ ds.length = ds'.length) → sameP ⟨lf, ks, ls, ds⟩ ⟨lf', ks', ls', ds'⟩ = false := fun h => dcd_no.2 fun e => by
    injection e with e1 e2 e3 e4
    subst e1; subst e2; subst e3; subst e4
    exact h ⟨⟨rfl, rfl⟩, rfl, rfl⟩
  unfold SpecV
  refine calls_of Tryd.func31 rfl Tryd.ntmps31 (by simp) ?_
  by_cases h0 : lf = lf'
  · subst h0
    by_cases h1 : ks.length = ks'.length
    · by_cases h2 : ls.length = ls'.length
      · by_cases h3 : ds.length = ds'.length
        · repeat' (first | ((first | refine WL.p rfl ?_ | refine WL.u ?_ | refine WL.g rfl rfl ?_ | refine WL.gu rfl ?_); first | refine pvQ ?_ | (refine opk 3 rfl ?_; first | (refine ost_eqA rfl (by decide) rfl rfl tyQ tyQ (fun hc => ?_) (fun hc => ?_) <;> try exact prEQ) | (refine ost_neA rfl (by decide) rfl rfl tyQ tyQ (fun hc => ?_) (fun hc => ?_) <;> try exact prEQ) | (refine ost_cmp rfl rfl rfl rfl (fun hc => ?_) (fun hc => ?_) <;> (simp only [cmpP] at hc; try exact prIQ))) | (refine opk 4 rfl ?_; (refine ost_cmp rfl rfl rfl rfl (fun hc => ?_) (fun hc => ?_) <;> (simp only [cmpP] at hc; try exact prIQ))) | (refine opk 9 rfl ?_; (refine ost_boxq H rfl ?_; clear H; intro bk wk H))) | refine Wc.seq ?_ | refine then_n ?_ | refine WL.nil ?_ | refine Wc.region ?_ | refine Wc.block ?_ | refine then_r ?_ | refine then_e ?_ | refine inb_e rfl ?_ | refine inb_o rfl ?_ | refine inb_n ?_ | refine inb_r ?_ | refine Wc.skip ?_ | refine Wc.exit ?_ | refine Wc.ret ?_ | refine Wc.cond_true rfl ?_ | refine Wc.cond_false rfl ?_ | (refine Wc.drawn (id := 6) 10 (by kernel_rfl) ?_) | (refine Wc.drawn (id := 11) 10 (by kernel_rfl) ?_) | (refine Wc.drawn (id := 16) 10 (by kernel_rfl) ?_) | refine WL.skp rfl rfl ?_ | refine WL.sku rfl ?_ | (refine rgs_nil ?_; intro vs wk hE; replace H := H.ext hE; clear hE) | refine RGs.skp (fun _ => rfl) rfl ?_ | (refine RGs.bq (fun _ => rfl) rfl (by intro vs w hE hP; have H := H.ext hE; first | exact dbQ | fail) (fun hc => ?_) (fun hc => ?_) <;> ((try simp only [cmpP, decide_eq_true_eq, decide_eq_false_iff_not, dcd_iff, dcd_no] at hc); try exact prDQ)) | refine RGs.pq (fun _ => rfl) rfl (by intro vs w hE hP; have H := H.ext hE; first | exact dvQ | fail) ?_)
          rename_i bP _ _ _
          generalize bk = bQ at H ⊢
          refine Wc.loopE (fun s0 m s w' => ∃ i : Nat, m = ks.length - i ∧ i ≤ ks.length ∧ Agree [4, 5, 40, 41, 42, 43, 44, 45, 46, 47, 48, 49, 50, 51, 52, 53, 54, 55, 56, 57] s s0 ∧ s 5 = .int .i64 i ∧ (∀ j (g1 : j < ks.length) (g2 : j < ks'.length), j < i → ks[j] = ks'[j]) ∧
            St w [] h0 h0 [.blk bQ (.cells (pgL lf ks'.length ls'.length ds'.length ak' ck' al' cl' ad' cd').toArray 26 (0, 0)), .blk bP (.cells (pgL lf ks.length ls.length ds.length ak ck al cl ad cd).toArray 26 (0, 0))] w') ks.length ⟨0, rfl, by omega, Agree.refl _ _, rfl, fun j _ _ h => absurd h (by omega), H⟩ ?_
          clear H
          rintro m s w' ⟨i, rfl, hi, hA, e1, hsame0, H⟩
          obtain ⟨j, rfl⟩ := hA.env1 e1
          clear hA e1
          by_cases hlt : i < ks.length
          · have hlt' : i < ks'.length := by omega
            obtain ⟨b, off, l, T, fr, e1, eb, eg⟩ := hP.k.getM (by decide) (Nat.lt_of_le_of_lt (Nat.zero_le _) hlt)
            dsimp only at e1 eg
            subst e1
            have g1 := eg (i : Int).toNat i hlt (by omega)
            have l1 := cKey_len ks[i]
            have t1 := typed_cKey ks[i]
            obtain ⟨b', off', l', T', fr', e1, eb', eg'⟩ := hQ.k.getM (by decide) (Nat.lt_of_le_of_lt (Nat.zero_le _) hlt')
            dsimp only at e1 eg'
            subst e1
            have g1' := eg' (i : Int).toNat i hlt' (by omega)
            have l1' := cKey_len ks'[i]
            have t1' := typed_cKey ks'[i]
            have hu : cKey ks[i] = cKey ks'[i] ↔ ks[i] = ks'[i] := cKey_inj
            by_cases hxy : ks[i] = ks'[i]
            · have hne := hu.2 hxy
              repeat' (first | ((first | refine WL.p rfl ?_ | refine WL.u ?_ | refine WL.g rfl rfl ?_ | refine WL.gu rfl ?_); first | refine pvQ ?_ | (refine opk 3 rfl ?_; first | (refine ost_eqA rfl (by decide) rfl rfl tyQ tyQ (fun hc => ?_) (fun hc => ?_) <;> try exact prEQ) | (refine ost_neA rfl (by decide) rfl rfl tyQ tyQ (fun hc => ?_) (fun hc => ?_) <;> try exact prEQ) | (refine ost_cmp rfl rfl rfl rfl (fun hc => ?_) (fun hc => ?_) <;> (simp only [cmpP] at hc; try exact prIQ))) | (refine opk 4 rfl ?_; (refine ost_cmp rfl rfl rfl rfl (fun hc => ?_) (fun hc => ?_) <;> (simp only [cmpP] at hc; try exact prIQ))) | (refine opk 9 rfl ?_; (refine ost_boxq H rfl ?_; clear H; intro bk wk H))) | refine Wc.seq ?_ | refine then_n ?_ | refine WL.nil ?_ | refine Wc.region ?_ | refine Wc.block ?_ | refine then_r ?_ | refine then_e ?_ | refine inb_e rfl ?_ | refine inb_o rfl ?_ | refine inb_n ?_ | refine inb_r ?_ | refine Wc.skip ?_ | refine Wc.exit ?_ | refine Wc.ret ?_ | refine Wc.cond_true rfl ?_ | refine Wc.cond_false rfl ?_ | (refine Wc.drawn (id := 6) 10 (by kernel_rfl) ?_) | (refine Wc.drawn (id := 11) 10 (by kernel_rfl) ?_) | (refine Wc.drawn (id := 16) 10 (by kernel_rfl) ?_) | refine WL.skp rfl rfl ?_ | refine WL.sku rfl ?_ | (refine rgs_nil ?_; intro vs wk hE; replace H := H.ext hE; clear hE) | refine RGs.skp (fun _ => rfl) rfl ?_ | (refine RGs.bq (fun _ => rfl) rfl (by intro vs w hE hP; have H := H.ext hE; first | exact dbQ | fail) (fun hc => ?_) (fun hc => ?_) <;> ((try simp only [cmpP, decide_eq_true_eq, decide_eq_false_iff_not, dcd_iff, dcd_no] at hc); try exact prDQ)) | refine RGs.pq (fun _ => rfl) rfl (by intro vs w hE hP; have H := H.ext hE; first | exact dvQ | fail) ?_)
              all_goals exact ⟨ks.length - (i + 1), by omega, i + 1, rfl, by omega, by (repeat' (first | exact Agree.refl _ _ | exact Agree.havoc | refine Agree.upd rfl ?_ | refine Agree.hav2 rfl ?_)), rfl, fun j h1 h2 h3 => (by
                by_cases e : j = i
                · subst e; exact hxy
                · exact hsame0 j h1 h2 (by omega)), H⟩
            · have hne : ¬ cKey ks[i] = cKey ks'[i] := fun h => hxy (hu.1 h)
              repeat' (first | ((first | refine WL.p rfl ?_ | refine WL.u ?_ | refine WL.g rfl rfl ?_ | refine WL.gu rfl ?_); first | refine pvQ ?_ | (refine opk 3 rfl ?_; first | (refine ost_eqA rfl (by decide) rfl rfl tyQ tyQ (fun hc => ?_) (fun hc => ?_) <;> try exact prEQ) | (refine ost_neA rfl (by decide) rfl rfl tyQ tyQ (fun hc => ?_) (fun hc => ?_) <;> try exact prEQ) | (refine ost_cmp rfl rfl rfl rfl (fun hc => ?_) (fun hc => ?_) <;> (simp only [cmpP] at hc; try exact prIQ))) | (refine opk 4 rfl ?_; (refine ost_cmp rfl rfl rfl rfl (fun hc => ?_) (fun hc => ?_) <;> (simp only [cmpP] at hc; try exact prIQ))) | (refine opk 9 rfl ?_; (refine ost_boxq H rfl ?_; clear H; intro bk wk H))) | refine Wc.seq ?_ | refine then_n ?_ | refine WL.nil ?_ | refine Wc.region ?_ | refine Wc.block ?_ | refine then_r ?_ | refine then_e ?_ | refine inb_e rfl ?_ | refine inb_o rfl ?_ | refine inb_n ?_ | refine inb_r ?_ | refine Wc.skip ?_ | refine Wc.exit ?_ | refine Wc.ret ?_ | refine Wc.cond_true rfl ?_ | refine Wc.cond_false rfl ?_ | (refine Wc.drawn (id := 6) 10 (by kernel_rfl) ?_) | (refine Wc.drawn (id := 11) 10 (by kernel_rfl) ?_) | (refine Wc.drawn (id := 16) 10 (by kernel_rfl) ?_) | refine WL.skp rfl rfl ?_ | refine WL.sku rfl ?_ | (refine rgs_nil ?_; intro vs wk hE; replace H := H.ext hE; clear hE) | refine RGs.skp (fun _ => rfl) rfl ?_ | (refine RGs.bq (fun _ => rfl) rfl (by intro vs w hE hP; have H := H.ext hE; first | exact dbQ | fail) (fun hc => ?_) (fun hc => ?_) <;> ((try simp only [cmpP, decide_eq_true_eq, decide_eq_false_iff_not, dcd_iff, dcd_no] at hc); try exact prDQ)) | refine RGs.pq (fun _ => rfl) rfl (by intro vs w hE hP; have H := H.ext hE; first | exact dvQ | fail) ?_)
              all_goals ((first | refine fn_ret1 (v := .bool _) rfl rfl ⟨?_, H.fr⟩ | refine fn_ret1 (v := .int _ _) rfl rfl ⟨?_, H.fr⟩ | refine fn_ret1 (v := .string _) rfl rfl ⟨?_, H.fr⟩); congr 1; symm; exact dcd_no.2 fun e => by injection e with e1 e2 e3 e4; exact hxy (by simp only [e2]))
          · have hfull0 : ks = ks' := list_eq_of (by omega) fun j h1 h2 => hsame0 j h1 h2 (by omega)
            clear hsame0
            repeat' (first | ((first | refine WL.p rfl ?_ | refine WL.u ?_ | refine WL.g rfl rfl ?_ | refine WL.gu rfl ?_); first | refine pvQ ?_ | (refine opk 3 rfl ?_; first | (refine ost_eqA rfl (by decide) rfl rfl tyQ tyQ (fun hc => ?_) (fun hc => ?_) <;> try exact prEQ) | (refine ost_neA rfl (by decide) rfl rfl tyQ tyQ (fun hc => ?_) (fun hc => ?_) <;> try exact prEQ) | (refine ost_cmp rfl rfl rfl rfl (fun hc => ?_) (fun hc => ?_) <;> (simp only [cmpP] at hc; try exact prIQ))) | (refine opk 4 rfl ?_; (refine ost_cmp rfl rfl rfl rfl (fun hc => ?_) (fun hc => ?_) <;> (simp only [cmpP] at hc; try exact prIQ))) | (refine opk 9 rfl ?_; (refine ost_boxq H rfl ?_; clear H; intro bk wk H))) | refine Wc.seq ?_ | refine then_n ?_ | refine WL.nil ?_ | refine Wc.region ?_ | refine Wc.block ?_ | refine then_r ?_ | refine then_e ?_ | refine inb_e rfl ?_ | refine inb_o rfl ?_ | refine inb_n ?_ | refine inb_r ?_ | refine Wc.skip ?_ | refine Wc.exit ?_ | refine Wc.ret ?_ | refine Wc.cond_true rfl ?_ | refine Wc.cond_false rfl ?_ | (refine Wc.drawn (id := 6) 10 (by kernel_rfl) ?_) | (refine Wc.drawn (id := 11) 10 (by kernel_rfl) ?_) | (refine Wc.drawn (id := 16) 10 (by kernel_rfl) ?_) | refine WL.skp rfl rfl ?_ | refine WL.sku rfl ?_ | (refine rgs_nil ?_; intro vs wk hE; replace H := H.ext hE; clear hE) | refine RGs.skp (fun _ => rfl) rfl ?_ | (refine RGs.bq (fun _ => rfl) rfl (by intro vs w hE hP; have H := H.ext hE; first | exact dbQ | fail) (fun hc => ?_) (fun hc => ?_) <;> ((try simp only [cmpP, decide_eq_true_eq, decide_eq_false_iff_not, dcd_iff, dcd_no] at hc); try exact prDQ)) | refine RGs.pq (fun _ => rfl) rfl (by intro vs w hE hP; have H := H.ext hE; first | exact dvQ | fail) ?_)
            refine Wc.loopE (fun s0 m s w' => ∃ i : Nat, m = ls.length - i ∧ i ≤ ls.length ∧ Agree [4, 6, 58, 59, 60, 61, 62, 63, 64, 65, 66, 67, 68, 69, 70, 71, 72, 73, 74, 75] s s0 ∧ s 6 = .int .i64 i ∧ (∀ j (g1 : j < ls.length) (g2 : j < ls'.length), j < i → ls[j] = ls'[j]) ∧
              St w [] h0 h0 [.blk bQ (.cells (pgL lf ks'.length ls'.length ds'.length ak' ck' al' cl' ad' cd').toArray 26 (0, 0)), .blk bP (.cells (pgL lf ks.length ls.length ds.length ak ck al cl ad cd).toArray 26 (0, 0))] w') ls.length ⟨0, rfl, by omega, Agree.refl _ _, rfl, fun j _ _ h => absurd h (by omega), H⟩ ?_
            clear H
            rintro m s w' ⟨i, rfl, hi, hA, e1, hsame1, H⟩
            obtain ⟨j, rfl⟩ := hA.env1 e1
            clear hA e1
            by_cases hlt : i < ls.length
            · have hlt' : i < ls'.length := by omega
              obtain ⟨b, off, l, T, fr, e1, eb, eg⟩ := hP.l.getM (by decide) (Nat.lt_of_le_of_lt (Nat.zero_le _) hlt)
              dsimp only at e1 eg
              subst e1
              have g1 := eg (i : Int).toNat i hlt (by omega)
              have l1 := cLoc_len ls[i]
              have t1 := typed_cLoc ls[i]
              obtain ⟨b', off', l', T', fr', e1, eb', eg'⟩ := hQ.l.getM (by decide) (Nat.lt_of_le_of_lt (Nat.zero_le _) hlt')
              dsimp only at e1 eg'
              subst e1
              have g1' := eg' (i : Int).toNat i hlt' (by omega)
              have l1' := cLoc_len ls'[i]
              have t1' := typed_cLoc ls'[i]
              have hu : cLoc ls[i] = cLoc ls'[i] ↔ ls[i] = ls'[i] := cLoc_inj
              by_cases hxy : ls[i] = ls'[i]
              · have hne := hu.2 hxy
                repeat' (first | ((first | refine WL.p rfl ?_ | refine WL.u ?_ | refine WL.g rfl rfl ?_ | refine WL.gu rfl ?_); first | refine pvQ ?_ | (refine opk 3 rfl ?_; first | (refine ost_eqA rfl (by decide) rfl rfl tyQ tyQ (fun hc => ?_) (fun hc => ?_) <;> try exact prEQ) | (refine ost_neA rfl (by decide) rfl rfl tyQ tyQ (fun hc => ?_) (fun hc => ?_) <;> try exact prEQ) | (refine ost_cmp rfl rfl rfl rfl (fun hc => ?_) (fun hc => ?_) <;> (simp only [cmpP] at hc; try exact prIQ))) | (refine opk 4 rfl ?_; (refine ost_cmp rfl rfl rfl rfl (fun hc => ?_) (fun hc => ?_) <;> (simp only [cmpP] at hc; try exact prIQ))) | (refine opk 9 rfl ?_; (refine ost_boxq H rfl ?_; clear H; intro bk wk H))) | refine Wc.seq ?_ | refine then_n ?_ | refine WL.nil ?_ | refine Wc.region ?_ | refine Wc.block ?_ | refine then_r ?_ | refine then_e ?_ | refine inb_e rfl ?_ | refine inb_o rfl ?_ | refine inb_n ?_ | refine inb_r ?_ | refine Wc.skip ?_ | refine Wc.exit ?_ | refine Wc.ret ?_ | refine Wc.cond_true rfl ?_ | refine Wc.cond_false rfl ?_ | (refine Wc.drawn (id := 6) 10 (by kernel_rfl) ?_) | (refine Wc.drawn (id := 11) 10 (by kernel_rfl) ?_) | (refine Wc.drawn (id := 16) 10 (by kernel_rfl) ?_) | refine WL.skp rfl rfl ?_ | refine WL.sku rfl ?_ | (refine rgs_nil ?_; intro vs wk hE; replace H := H.ext hE; clear hE) | refine RGs.skp (fun _ => rfl) rfl ?_ | (refine RGs.bq (fun _ => rfl) rfl (by intro vs w hE hP; have H := H.ext hE; first | exact dbQ | fail) (fun hc => ?_) (fun hc => ?_) <;> ((try simp only [cmpP, decide_eq_true_eq, decide_eq_false_iff_not, dcd_iff, dcd_no] at hc); try exact prDQ)) | refine RGs.pq (fun _ => rfl) rfl (by intro vs w hE hP; have H := H.ext hE; first | exact dvQ | fail) ?_)
                all_goals exact ⟨ls.length - (i + 1), by omega, i + 1, rfl, by omega, by (repeat' (first | exact Agree.refl _ _ | exact Agree.havoc | refine Agree.upd rfl ?_ | refine Agree.hav2 rfl ?_)), rfl, fun j h1 h2 h3 => (by
                  by_cases e : j = i
                  · subst e; exact hxy
                  · exact hsame1 j h1 h2 (by omega)), H⟩
              · have hne : ¬ cLoc ls[i] = cLoc ls'[i] := fun h => hxy (hu.1 h)
                repeat' (first | ((first | refine WL.p rfl ?_ | refine WL.u ?_ | refine WL.g rfl rfl ?_ | refine WL.gu rfl ?_); first | refine pvQ ?_ | (refine opk 3 rfl ?_; first | (refine ost_eqA rfl (by decide) rfl rfl tyQ tyQ (fun hc => ?_) (fun hc => ?_) <;> try exact prEQ) | (refine ost_neA rfl (by decide) rfl rfl tyQ tyQ (fun hc => ?_) (fun hc => ?_) <;> try exact prEQ) | (refine ost_cmp rfl rfl rfl rfl (fun hc => ?_) (fun hc => ?_) <;> (simp only [cmpP] at hc; try exact prIQ))) | (refine opk 4 rfl ?_; (refine ost_cmp rfl rfl rfl rfl (fun hc => ?_) (fun hc => ?_) <;> (simp only [cmpP] at hc; try exact prIQ))) | (refine opk 9 rfl ?_; (refine ost_boxq H rfl ?_; clear H; intro bk wk H))) | refine Wc.seq ?_ | refine then_n ?_ | refine WL.nil ?_ | refine Wc.region ?_ | refine Wc.block ?_ | refine then_r ?_ | refine then_e ?_ | refine inb_e rfl ?_ | refine inb_o rfl ?_ | refine inb_n ?_ | refine inb_r ?_ | refine Wc.skip ?_ | refine Wc.exit ?_ | refine Wc.ret ?_ | refine Wc.cond_true rfl ?_ | refine Wc.cond_false rfl ?_ | (refine Wc.drawn (id := 6) 10 (by kernel_rfl) ?_) | (refine Wc.drawn (id := 11) 10 (by kernel_rfl) ?_) | (refine Wc.drawn (id := 16) 10 (by kernel_rfl) ?_) | refine WL.skp rfl rfl ?_ | refine WL.sku rfl ?_ | (refine rgs_nil ?_; intro vs wk hE; replace H := H.ext hE; clear hE) | refine RGs.skp (fun _ => rfl) rfl ?_ | (refine RGs.bq (fun _ => rfl) rfl (by intro vs w hE hP; have H := H.ext hE; first | exact dbQ | fail) (fun hc => ?_) (fun hc => ?_) <;> ((try simp only [cmpP, decide_eq_true_eq, decide_eq_false_iff_not, dcd_iff, dcd_no] at hc); try exact prDQ)) | refine RGs.pq (fun _ => rfl) rfl (by intro vs w hE hP; have H := H.ext hE; first | exact dvQ | fail) ?_)
                all_goals ((first | refine fn_ret1 (v := .bool _) rfl rfl ⟨?_, H.fr⟩ | refine fn_ret1 (v := .int _ _) rfl rfl ⟨?_, H.fr⟩ | refine fn_ret1 (v := .string _) rfl rfl ⟨?_, H.fr⟩); congr 1; symm; exact dcd_no.2 fun e => by injection e with e1 e2 e3 e4; exact hxy (by simp only [e3]))
            · have hfull1 : ls = ls' := list_eq_of (by omega) fun j h1 h2 => hsame1 j h1 h2 (by omega)
              clear hsame1
              repeat' (first | ((first | refine WL.p rfl ?_ | refine WL.u ?_ | refine WL.g rfl rfl ?_ | refine WL.gu rfl ?_); first | refine pvQ ?_ | (refine opk 3 rfl ?_; first | (refine ost_eqA rfl (by decide) rfl rfl tyQ tyQ (fun hc => ?_) (fun hc => ?_) <;> try exact prEQ) | (refine ost_neA rfl (by decide) rfl rfl tyQ tyQ (fun hc => ?_) (fun hc => ?_) <;> try exact prEQ) | (refine ost_cmp rfl rfl rfl rfl (fun hc => ?_) (fun hc => ?_) <;> (simp only [cmpP] at hc; try exact prIQ))) | (refine opk 4 rfl ?_; (refine ost_cmp rfl rfl rfl rfl (fun hc => ?_) (fun hc => ?_) <;> (simp only [cmpP] at hc; try exact prIQ))) | (refine opk 9 rfl ?_; (refine ost_boxq H rfl ?_; clear H; intro bk wk H))) | refine Wc.seq ?_ | refine then_n ?_ | refine WL.nil ?_ | refine Wc.region ?_ | refine Wc.block ?_ | refine then_r ?_ | refine then_e ?_ | refine inb_e rfl ?_ | refine inb_o rfl ?_ | refine inb_n ?_ | refine inb_r ?_ | refine Wc.skip ?_ | refine Wc.exit ?_ | refine Wc.ret ?_ | refine Wc.cond_true rfl ?_ | refine Wc.cond_false rfl ?_ | (refine Wc.drawn (id := 6) 10 (by kernel_rfl) ?_) | (refine Wc.drawn (id := 11) 10 (by kernel_rfl) ?_) | (refine Wc.drawn (id := 16) 10 (by kernel_rfl) ?_) | refine WL.skp rfl rfl ?_ | refine WL.sku rfl ?_ | (refine rgs_nil ?_; intro vs wk hE; replace H := H.ext hE; clear hE) | refine RGs.skp (fun _ => rfl) rfl ?_ | (refine RGs.bq (fun _ => rfl) rfl (by intro vs w hE hP; have H := H.ext hE; first | exact dbQ | fail) (fun hc => ?_) (fun hc => ?_) <;> ((try simp only [cmpP, decide_eq_true_eq, decide_eq_false_iff_not, dcd_iff, dcd_no] at hc); try exact prDQ)) | refine RGs.pq (fun _ => rfl) rfl (by intro vs w hE hP; have H := H.ext hE; first | exact dvQ | fail) ?_)
              refine Wc.loopE (fun s0 m s w' => ∃ i : Nat, m = ds.length - i ∧ i ≤ ds.length ∧ Agree [4, 7, 76, 77, 78, 79, 80, 81, 82, 83, 84, 85, 86, 87, 88, 89, 90, 91, 92, 93] s s0 ∧ s 7 = .int .i64 i ∧ (∀ j (g1 : j < ds.length) (g2 : j < ds'.length), j < i → ds[j] = ds'[j]) ∧
                St w [] h0 h0 [.blk bQ (.cells (pgL lf ks'.length ls'.length ds'.length ak' ck' al' cl' ad' cd').toArray 26 (0, 0)), .blk bP (.cells (pgL lf ks.length ls.length ds.length ak ck al cl ad cd).toArray 26 (0, 0))] w') ds.length ⟨0, rfl, by omega, Agree.refl _ _, rfl, fun j _ _ h => absurd h (by omega), H⟩ ?_
              clear H
              rintro m s w' ⟨i, rfl, hi, hA, e1, hsame2, H⟩
              obtain ⟨j, rfl⟩ := hA.env1 e1
              clear hA e1
              by_cases hlt : i < ds.length
              · have hlt' : i < ds'.length := by omega
                obtain ⟨b, off, l, T, fr, e1, eb, eg⟩ := hP.d.getM (by decide) (Nat.lt_of_le_of_lt (Nat.zero_le _) hlt)
                dsimp only at e1 eg
                subst e1
                have g1 := eg (i : Int).toNat i hlt (by omega)
                have g4 : l[off + (i : Int).toNat * 1]? = some (.int .u32 ds[i].toNat) := row_cell g1 (q := 0) (by simp [cKid])
                obtain ⟨b', off', l', T', fr', e1, eb', eg'⟩ := hQ.d.getM (by decide) (Nat.lt_of_le_of_lt (Nat.zero_le _) hlt')
                dsimp only at e1 eg'
                subst e1
                have g1' := eg' (i : Int).toNat i hlt' (by omega)
                have g4' : l'[off' + (i : Int).toNat * 1]? = some (.int .u32 ds'[i].toNat) := row_cell g1' (q := 0) (by simp [cKid])
                have hu : (ds[i].toNat : Int) = ds'[i].toNat ↔ ds[i] = ds'[i] := ⟨fun h => UInt32.toNat_inj.1 (by omega), fun h => by rw [h]⟩
                by_cases hxy : ds[i] = ds'[i]
                · have hne := hu.2 hxy
                  repeat' (first | ((first | refine WL.p rfl ?_ | refine WL.u ?_ | refine WL.g rfl rfl ?_ | refine WL.gu rfl ?_); first | refine pvQ ?_ | (refine opk 3 rfl ?_; first | (refine ost_eqA rfl (by decide) rfl rfl tyQ tyQ (fun hc => ?_) (fun hc => ?_) <;> try exact prEQ) | (refine ost_neA rfl (by decide) rfl rfl tyQ tyQ (fun hc => ?_) (fun hc => ?_) <;> try exact prEQ) | (refine ost_cmp rfl rfl rfl rfl (fun hc => ?_) (fun hc => ?_) <;> (simp only [cmpP] at hc; try exact prIQ))) | (refine opk 4 rfl ?_; (refine ost_cmp rfl rfl rfl rfl (fun hc => ?_) (fun hc => ?_) <;> (simp only [cmpP] at hc; try exact prIQ))) | (refine opk 9 rfl ?_; (refine ost_boxq H rfl ?_; clear H; intro bk wk H))) | refine Wc.seq ?_ | refine then_n ?_ | refine WL.nil ?_ | refine Wc.region ?_ | refine Wc.block ?_ | refine then_r ?_ | refine then_e ?_ | refine inb_e rfl ?_ | refine inb_o rfl ?_ | refine inb_n ?_ | refine inb_r ?_ | refine Wc.skip ?_ | refine Wc.exit ?_ | refine Wc.ret ?_ | refine Wc.cond_true rfl ?_ | refine Wc.cond_false rfl ?_ | (refine Wc.drawn (id := 6) 10 (by kernel_rfl) ?_) | (refine Wc.drawn (id := 11) 10 (by kernel_rfl) ?_) | (refine Wc.drawn (id := 16) 10 (by kernel_rfl) ?_) | refine WL.skp rfl rfl ?_ | refine WL.sku rfl ?_ | (refine rgs_nil ?_; intro vs wk hE; replace H := H.ext hE; clear hE) | refine RGs.skp (fun _ => rfl) rfl ?_ | (refine RGs.bq (fun _ => rfl) rfl (by intro vs w hE hP; have H := H.ext hE; first | exact dbQ | fail) (fun hc => ?_) (fun hc => ?_) <;> ((try simp only [cmpP, decide_eq_true_eq, decide_eq_false_iff_not, dcd_iff, dcd_no] at hc); try exact prDQ)) | refine RGs.pq (fun _ => rfl) rfl (by intro vs w hE hP; have H := H.ext hE; first | exact dvQ | fail) ?_)
                  all_goals exact ⟨ds.length - (i + 1), by omega, i + 1, rfl, by omega, by (repeat' (first | exact Agree.refl _ _ | exact Agree.havoc | refine Agree.upd rfl ?_ | refine Agree.hav2 rfl ?_)), rfl, fun j h1 h2 h3 => (by
                    by_cases e : j = i
                    · subst e; exact hxy
                    · exact hsame2 j h1 h2 (by omega)), H⟩
                · have hne : ¬ (ds[i].toNat : Int) = ds'[i].toNat := fun h => hxy (hu.1 h)
                  repeat' (first | ((first | refine WL.p rfl ?_ | refine WL.u ?_ | refine WL.g rfl rfl ?_ | refine WL.gu rfl ?_); first | refine pvQ ?_ | (refine opk 3 rfl ?_; first | (refine ost_eqA rfl (by decide) rfl rfl tyQ tyQ (fun hc => ?_) (fun hc => ?_) <;> try exact prEQ) | (refine ost_neA rfl (by decide) rfl rfl tyQ tyQ (fun hc => ?_) (fun hc => ?_) <;> try exact prEQ) | (refine ost_cmp rfl rfl rfl rfl (fun hc => ?_) (fun hc => ?_) <;> (simp only [cmpP] at hc; try exact prIQ))) | (refine opk 4 rfl ?_; (refine ost_cmp rfl rfl rfl rfl (fun hc => ?_) (fun hc => ?_) <;> (simp only [cmpP] at hc; try exact prIQ))) | (refine opk 9 rfl ?_; (refine ost_boxq H rfl ?_; clear H; intro bk wk H))) | refine Wc.seq ?_ | refine then_n ?_ | refine WL.nil ?_ | refine Wc.region ?_ | refine Wc.block ?_ | refine then_r ?_ | refine then_e ?_ | refine inb_e rfl ?_ | refine inb_o rfl ?_ | refine inb_n ?_ | refine inb_r ?_ | refine Wc.skip ?_ | refine Wc.exit ?_ | refine Wc.ret ?_ | refine Wc.cond_true rfl ?_ | refine Wc.cond_false rfl ?_ | (refine Wc.drawn (id := 6) 10 (by kernel_rfl) ?_) | (refine Wc.drawn (id := 11) 10 (by kernel_rfl) ?_) | (refine Wc.drawn (id := 16) 10 (by kernel_rfl) ?_) | refine WL.skp rfl rfl ?_ | refine WL.sku rfl ?_ | (refine rgs_nil ?_; intro vs wk hE; replace H := H.ext hE; clear hE) | refine RGs.skp (fun _ => rfl) rfl ?_ | (refine RGs.bq (fun _ => rfl) rfl (by intro vs w hE hP; have H := H.ext hE; first | exact dbQ | fail) (fun hc => ?_) (fun hc => ?_) <;> ((try simp only [cmpP, decide_eq_true_eq, decide_eq_false_iff_not, dcd_iff, dcd_no] at hc); try exact prDQ)) | refine RGs.pq (fun _ => rfl) rfl (by intro vs w hE hP; have H := H.ext hE; first | exact dvQ | fail) ?_)
                  all_goals ((first | refine fn_ret1 (v := .bool _) rfl rfl ⟨?_, H.fr⟩ | refine fn_ret1 (v := .int _ _) rfl rfl ⟨?_, H.fr⟩ | refine fn_ret1 (v := .string _) rfl rfl ⟨?_, H.fr⟩); congr 1; symm; exact dcd_no.2 fun e => by injection e with e1 e2 e3 e4; exact hxy (by simp only [e4]))
              · have hfull2 : ds = ds' := list_eq_of (by omega) fun j h1 h2 => hsame2 j h1 h2 (by omega)
                clear hsame2
                repeat' (first | ((first | refine WL.p rfl ?_ | refine WL.u ?_ | refine WL.g rfl rfl ?_ | refine WL.gu rfl ?_); first | refine pvQ ?_ | (refine opk 3 rfl ?_; first | (refine ost_eqA rfl (by decide) rfl rfl tyQ tyQ (fun hc => ?_) (fun hc => ?_) <;> try exact prEQ) | (refine ost_neA rfl (by decide) rfl rfl tyQ tyQ (fun hc => ?_) (fun hc => ?_) <;> try exact prEQ) | (refine ost_cmp rfl rfl rfl rfl (fun hc => ?_) (fun hc => ?_) <;> (simp only [cmpP] at hc; try exact prIQ))) | (refine opk 4 rfl ?_; (refine ost_cmp rfl rfl rfl rfl (fun hc => ?_) (fun hc => ?_) <;> (simp only [cmpP] at hc; try exact prIQ))) | (refine opk 9 rfl ?_; (refine ost_boxq H rfl ?_; clear H; intro bk wk H))) | refine Wc.seq ?_ | refine then_n ?_ | refine WL.nil ?_ | refine Wc.region ?_ | refine Wc.block ?_ | refine then_r ?_ | refine then_e ?_ | refine inb_e rfl ?_ | refine inb_o rfl ?_ | refine inb_n ?_ | refine inb_r ?_ | refine Wc.skip ?_ | refine Wc.exit ?_ | refine Wc.ret ?_ | refine Wc.cond_true rfl ?_ | refine Wc.cond_false rfl ?_ | (refine Wc.drawn (id := 6) 10 (by kernel_rfl) ?_) | (refine Wc.drawn (id := 11) 10 (by kernel_rfl) ?_) | (refine Wc.drawn (id := 16) 10 (by kernel_rfl) ?_) | refine WL.skp rfl rfl ?_ | refine WL.sku rfl ?_ | (refine rgs_nil ?_; intro vs wk hE; replace H := H.ext hE; clear hE) | refine RGs.skp (fun _ => rfl) rfl ?_ | (refine RGs.bq (fun _ => rfl) rfl (by intro vs w hE hP; have H := H.ext hE; first | exact dbQ | fail) (fun hc => ?_) (fun hc => ?_) <;> ((try simp only [cmpP, decide_eq_true_eq, decide_eq_false_iff_not, dcd_iff, dcd_no] at hc); try exact prDQ)) | refine RGs.pq (fun _ => rfl) rfl (by intro vs w hE hP; have H := H.ext hE; first | exact dvQ | fail) ?_)
                (first | refine fn_ret1 (v := .bool _) rfl rfl ⟨?_, H.fr⟩ | refine fn_ret1 (v := .int _ _) rfl rfl ⟨?_, H.fr⟩ | refine fn_ret1 (v := .string _) rfl rfl ⟨?_, H.fr⟩); congr 1; symm; exact dcd_iff.2 (by subst hfull0; subst hfull1; subst hfull2; rfl)
        · repeat' (first | ((first | refine WL.p rfl ?_ | refine WL.u ?_ | refine WL.g rfl rfl ?_ | refine WL.gu rfl ?_); first | refine pvQ ?_ | (refine opk 3 rfl ?_; first | (refine ost_eqA rfl (by decide) rfl rfl tyQ tyQ (fun hc => ?_) (fun hc => ?_) <;> try exact prEQ) | (refine ost_neA rfl (by decide) rfl rfl tyQ tyQ (fun hc => ?_) (fun hc => ?_) <;> try exact prEQ) | (refine ost_cmp rfl rfl rfl rfl (fun hc => ?_) (fun hc => ?_) <;> (simp only [cmpP] at hc; try exact prIQ))) | (refine opk 4 rfl ?_; (refine ost_cmp rfl rfl rfl rfl (fun hc => ?_) (fun hc => ?_) <;> (simp only [cmpP] at hc; try exact prIQ))) | (refine opk 9 rfl ?_; (refine ost_boxq H rfl ?_; clear H; intro bk wk H))) | refine Wc.seq ?_ | refine then_n ?_ | refine WL.nil ?_ | refine Wc.region ?_ | refine Wc.block ?_ | refine then_r ?_ | refine then_e ?_ | refine inb_e rfl ?_ | refine inb_o rfl ?_ | refine inb_n ?_ | refine inb_r ?_ | refine Wc.skip ?_ | refine Wc.exit ?_ | refine Wc.ret ?_ | refine Wc.cond_true rfl ?_ | refine Wc.cond_false rfl ?_ | (refine Wc.drawn (id := 6) 10 (by kernel_rfl) ?_) | (refine Wc.drawn (id := 11) 10 (by kernel_rfl) ?_) | (refine Wc.drawn (id := 16) 10 (by kernel_rfl) ?_) | refine WL.skp rfl rfl ?_ | refine WL.sku rfl ?_ | (refine rgs_nil ?_; intro vs wk hE; replace H := H.ext hE; clear hE) | refine RGs.skp (fun _ => rfl) rfl ?_ | (refine RGs.bq (fun _ => rfl) rfl (by intro vs w hE hP; have H := H.ext hE; first | exact dbQ | fail) (fun hc => ?_) (fun hc => ?_) <;> ((try simp only [cmpP, decide_eq_true_eq, decide_eq_false_iff_not, dcd_iff, dcd_no] at hc); try exact prDQ)) | refine RGs.pq (fun _ => rfl) rfl (by intro vs w hE hP; have H := H.ext hE; first | exact dvQ | fail) ?_)
          all_goals ((first | refine fn_ret1 (v := .bool _) rfl rfl ⟨?_, H.fr⟩ | refine fn_ret1 (v := .int _ _) rfl rfl ⟨?_, H.fr⟩ | refine fn_ret1 (v := .string _) rfl rfl ⟨?_, H.fr⟩); congr 1; symm; exact hno (by simp [h3]))
      · repeat' (first | ((first | refine WL.p rfl ?_ | refine WL.u ?_ | refine WL.g rfl rfl ?_ | refine WL.gu rfl ?_); first | refine pvQ ?_ | (refine opk 3 rfl ?_; first | (refine ost_eqA rfl (by decide) rfl rfl tyQ tyQ (fun hc => ?_) (fun hc => ?_) <;> try exact prEQ) | (refine ost_neA rfl (by decide) rfl rfl tyQ tyQ (fun hc => ?_) (fun hc => ?_) <;> try exact prEQ) | (refine ost_cmp rfl rfl rfl rfl (fun hc => ?_) (fun hc => ?_) <;> (simp only [cmpP] at hc; try exact prIQ))) | (refine opk 4 rfl ?_; (refine ost_cmp rfl rfl rfl rfl (fun hc => ?_) (fun hc => ?_) <;> (simp only [cmpP] at hc; try exact prIQ))) | (refine opk 9 rfl ?_; (refine ost_boxq H rfl ?_; clear H; intro bk wk H))) | refine Wc.seq ?_ | refine then_n ?_ | refine WL.nil ?_ | refine Wc.region ?_ | refine Wc.block ?_ | refine then_r ?_ | refine then_e ?_ | refine inb_e rfl ?_ | refine inb_o rfl ?_ | refine inb_n ?_ | refine inb_r ?_ | refine Wc.skip ?_ | refine Wc.exit ?_ | refine Wc.ret ?_ | refine Wc.cond_true rfl ?_ | refine Wc.cond_false rfl ?_ | (refine Wc.drawn (id := 6) 10 (by kernel_rfl) ?_) | (refine Wc.drawn (id := 11) 10 (by kernel_rfl) ?_) | (refine Wc.drawn (id := 16) 10 (by kernel_rfl) ?_) | refine WL.skp rfl rfl ?_ | refine WL.sku rfl ?_ | (refine rgs_nil ?_; intro vs wk hE; replace H := H.ext hE; clear hE) | refine RGs.skp (fun _ => rfl) rfl ?_ | (refine RGs.bq (fun _ => rfl) rfl (by intro vs w hE hP; have H := H.ext hE; first | exact dbQ | fail) (fun hc => ?_) (fun hc => ?_) <;> ((try simp only [cmpP, decide_eq_true_eq, decide_eq_false_iff_not, dcd_iff, dcd_no] at hc); try exact prDQ)) | refine RGs.pq (fun _ => rfl) rfl (by intro vs w hE hP; have H := H.ext hE; first | exact dvQ | fail) ?_)
        all_goals ((first | refine fn_ret1 (v := .bool _) rfl rfl ⟨?_, H.fr⟩ | refine fn_ret1 (v := .int _ _) rfl rfl ⟨?_, H.fr⟩ | refine fn_ret1 (v := .string _) rfl rfl ⟨?_, H.fr⟩); congr 1; symm; exact hno (by simp [h2]))
    · repeat' (first | ((first | refine WL.p rfl ?_ | refine WL.u ?_ | refine WL.g rfl rfl ?_ | refine WL.gu rfl ?_); first | refine pvQ ?_ | (refine opk 3 rfl ?_; first | (refine ost_eqA rfl (by decide) rfl rfl tyQ tyQ (fun hc => ?_) (fun hc => ?_) <;> try exact prEQ) | (refine ost_neA rfl (by decide) rfl rfl tyQ tyQ (fun hc => ?_) (fun hc => ?_) <;> try exact prEQ) | (refine ost_cmp rfl rfl rfl rfl (fun hc => ?_) (fun hc => ?_) <;> (simp only [cmpP] at hc; try exact prIQ))) | (refine opk 4 rfl ?_; (refine ost_cmp rfl rfl rfl rfl (fun hc => ?_) (fun hc => ?_) <;> (simp only [cmpP] at hc; try exact prIQ))) | (refine opk 9 rfl ?_; (refine ost_boxq H rfl ?_; clear H; intro bk wk H))) | refine Wc.seq ?_ | refine then_n ?_ | refine WL.nil ?_ | refine Wc.region ?_ | refine Wc.block ?_ | refine then_r ?_ | refine then_e ?_ | refine inb_e rfl ?_ | refine inb_o rfl ?_ | refine inb_n ?_ | refine inb_r ?_ | refine Wc.skip ?_ | refine Wc.exit ?_ | refine Wc.ret ?_ | refine Wc.cond_true rfl ?_ | refine Wc.cond_false rfl ?_ | (refine Wc.drawn (id := 6) 10 (by kernel_rfl) ?_) | (refine Wc.drawn (id := 11) 10 (by kernel_rfl) ?_) | (refine Wc.drawn (id := 16) 10 (by kernel_rfl) ?_) | refine WL.skp rfl rfl ?_ | refine WL.sku rfl ?_ | (refine rgs_nil ?_; intro vs wk hE; replace H := H.ext hE; clear hE) | refine RGs.skp (fun _ => rfl) rfl ?_ | (refine RGs.bq (fun _ => rfl) rfl (by intro vs w hE hP; have H := H.ext hE; first | exact dbQ | fail) (fun hc => ?_) (fun hc => ?_) <;> ((try simp only [cmpP, decide_eq_true_eq, decide_eq_false_iff_not, dcd_iff, dcd_no] at hc); try exact prDQ)) | refine RGs.pq (fun _ => rfl) rfl (by intro vs w hE hP; have H := H.ext hE; first | exact dvQ | fail) ?_)
      all_goals ((first | refine fn_ret1 (v := .bool _) rfl rfl ⟨?_, H.fr⟩ | refine fn_ret1 (v := .int _ _) rfl rfl ⟨?_, H.fr⟩ | refine fn_ret1 (v := .string _) rfl rfl ⟨?_, H.fr⟩); congr 1; symm; exact hno (by simp [h1]))
  · obtain rfl : lf' = !lf := by cases lf <;> cases lf' <;> simp_all
    repeat' (first | ((first | refine WL.p rfl ?_ | refine WL.u ?_ | refine WL.g rfl rfl ?_ | refine WL.gu rfl ?_); first | (refine opk 3 rfl ?_; (refine ost_boolNe rfl rfl rfl ?_)) | refine pvQ ?_ | (refine opk 3 rfl ?_; first | (refine ost_eqA rfl (by decide) rfl rfl tyQ tyQ (fun hc => ?_) (fun hc => ?_) <;> try exact prEQ) | (refine ost_neA rfl (by decide) rfl rfl tyQ tyQ (fun hc => ?_) (fun hc => ?_) <;> try exact prEQ) | (refine ost_cmp rfl rfl rfl rfl (fun hc => ?_) (fun hc => ?_) <;> (simp only [cmpP] at hc; try exact prIQ))) | (refine opk 4 rfl ?_; (refine ost_cmp rfl rfl rfl rfl (fun hc => ?_) (fun hc => ?_) <;> (simp only [cmpP] at hc; try exact prIQ))) | (refine opk 9 rfl ?_; (refine ost_boxq H rfl ?_; clear H; intro bk wk H))) | refine Wc.seq ?_ | refine then_n ?_ | refine WL.nil ?_ | refine Wc.region ?_ | refine Wc.block ?_ | refine then_r ?_ | refine then_e ?_ | refine inb_e rfl ?_ | refine inb_o rfl ?_ | refine inb_n ?_ | refine inb_r ?_ | refine Wc.skip ?_ | refine Wc.exit ?_ | refine Wc.ret ?_ | refine Wc.cond_true rfl ?_ | refine Wc.cond_false rfl ?_ | (refine Wc.drawn (id := 6) 10 (by kernel_rfl) ?_) | (refine Wc.drawn (id := 11) 10 (by kernel_rfl) ?_) | (refine Wc.drawn (id := 16) 10 (by kernel_rfl) ?_) | refine WL.skp rfl rfl ?_ | refine WL.sku rfl ?_ | (refine rgs_nil ?_; intro vs wk hE; replace H := H.ext hE; clear hE) | refine RGs.skp (fun _ => rfl) rfl ?_ | (refine RGs.bq (fun _ => rfl) rfl (by intro vs w hE hP; have H := H.ext hE; first | exact dbQ | fail) (fun hc => ?_) (fun hc => ?_) <;> ((try simp only [cmpP, decide_eq_true_eq, decide_eq_false_iff_not, dcd_iff, dcd_no] at hc); try exact prDQ)) | refine RGs.pq (fun _ => rfl) rfl (by intro vs w hE hP; have H := H.ext hE; first | exact dvQ | fail) ?_)
    all_goals ((first | refine fn_ret1 (v := .bool _) rfl rfl ⟨?_, H.fr⟩ | refine fn_ret1 (v := .int _ _) rfl rfl ⟨?_, H.fr⟩ | refine fn_ret1 (v := .string _) rfl rfl ⟨?_, H.fr⟩); congr 1; symm; exact hno (by simp [h0]))
end Go.Tg

set_option linter.unusedVariables false
set_option linter.unusedSimpArgs false
set_option maxRecDepth 100000
set_option maxHeartbeats 4000000
namespace Go.Tg
open Go Go.Proofs
theorem firstF_len (b : List UInt8) : (firstF b).1.length ≤ b.length := by
  unfold firstF
  split
  · simp
  · split
    · simp
    · split
      · simp
      · split
        · simp
        · simp; omega
def B64 (l : List Nat) : Prop := ∀ n, n ∈ l → n < 18446744073709551616
def TakeR (f : List UInt8) (l : List Nat) (ok : Bool) : Prop := (ok = true ∧ numsB l = f ∧ B64 l) ∨ (ok = false ∧ l = [] ∧ ∀ ns, B64 ns → numsB ns ≠ f)
theorem putB_pos (n : Nat) : 0 < (putB n).length := by
  unfold putB putL; split <;> simp
theorem numsB_pos (n : Nat) (l : List Nat) : 0 < (numsB (n :: l)).length := by
  have := putB_pos n
  rw [numsB_cons, List.length_append]; omega
theorem numsB_tail {a ns : List Nat} {r : List UInt8} (ha : B64 a) (hn : B64 ns) (h : numsB ns = numsB a ++ r) : ∃ b, ns = a ++ b ∧ numsB b = r := by
  induction a generalizing ns with
  | nil => exact ⟨ns, rfl, h⟩
  | cons x a ih =>
    cases ns with
    | nil =>
      have h1 := congrArg List.length h
      have h2 := numsB_pos x a
      rw [List.length_append, numsB_nil, List.length_nil] at h1
      omega
    | cons y ns =>
      rw [numsB_cons, numsB_cons, List.append_assoc] at h
      obtain ⟨h1, h2⟩ := putB_app_inj (hn y (by simp)) (ha x (by simp)) h
      obtain ⟨b, e1, e2⟩ := ih (fun n hx => ha n (by simp [hx])) (fun n hx => hn n (by simp [hx])) h2
      exact ⟨b, by rw [e1, h1]; rfl, e2⟩
theorem numsB_inj {a b : List Nat} (ha : B64 a) (hb : B64 b) (h : numsB a = numsB b) : a = b := by
  obtain ⟨c, e1, e2⟩ := numsB_tail (r := []) ha hb (by rw [List.append_nil]; exact h.symm)
  cases c with
  | nil => rw [e1, List.append_nil]
  | cons x c =>
    have := numsB_pos x c
    rw [e2] at this; simp at this
theorem take_end {f : List UInt8} {acc : List Nat} (hf : f = numsB acc ++ []) (hb : B64 acc) : TakeR f acc true := .inl ⟨rfl, by rw [hf, List.append_nil], hb⟩
theorem take_bad {f r : List UInt8} {acc : List Nat} (hf : f = numsB acc ++ r) (hr : 0 < r.length) (hb : B64 acc) (hg : (getB r).2.2 ≠ 0) : TakeR f [] false := .inr ⟨rfl, rfl, fun ns hns e => by
  obtain ⟨b, rfl, hb2⟩ := numsB_tail hb hns (e.trans hf)
  cases b with
  | nil => rw [← hb2] at hr; simp [numsB_nil] at hr
  | cons y b =>
    rw [numsB_cons] at hb2
    apply hg
    rw [← hb2, getB_putB y (hns y (by simp)) _]⟩
theorem take_step {f r : List UInt8} {acc : List Nat} (hf : f = numsB acc ++ r) (hb : B64 acc) (hg : (getB r).2.2 = 0) : f = numsB (acc ++ [(getB r).1]) ++ r.drop (getB r).2.1 ∧ B64 (acc ++ [(getB r).1]) := by
  have hlt := getB_lt r
  refine ⟨?_, fun n hn => ?_⟩
  · have hi := getB_inv (b := r) (n := (getB r).1) (k := (getB r).2.1) (by rw [← hg])
    rw [numsB_app, numsB_one, List.append_assoc, ← hi]; exact hf
  · rw [List.mem_append, List.mem_singleton] at hn
    rcases hn with hn | hn
    · exact hb n hn
    · rw [hn]; exact hlt
def wdN (lf : Bool) : Nat := if lf = true then 5 else 4
def rowN (lf : Bool) (l : List Nat) (i : Nat) : List Nat := (l.drop (2 + wdN lf * i)).take (wdN lf)
def lfN (l : List Nat) : Bool := decide (l.getD 0 0 = 1)
def cntN (l : List Nat) : Nat := l.getD 1 0
def keysN (lf : Bool) (l : List Nat) (k : Nat) : List KeyT := (List.range k).map fun i => keyA (rowN lf l i)
def locsN (lf : Bool) (l : List Nat) (k : Nat) : List LocT := if lf = true then (List.range k).map fun i => locA (rowN lf l i) else []
def kidsN (lf : Bool) (l : List Nat) (k : Nat) : List UInt32 := if lf = true then [] else (List.range k).map fun i => kidA (rowN lf l i)
def pageN (l : List Nat) : PageT := ⟨lfN l, keysN (lfN l) l (cntN l), locsN (lfN l) l (cntN l), kidsN (lfN l) l (cntN l)⟩
theorem keysN_succ (lf : Bool) (l : List Nat) (k : Nat) : keysN lf l (k + 1) = keysN lf l k ++ [keyA (rowN lf l k)] := by simp [keysN, List.range_succ]
theorem locsN_succ (l : List Nat) (k : Nat) : locsN true l (k + 1) = locsN true l k ++ [locA (rowN true l k)] := by simp [locsN, List.range_succ]
theorem kidsN_succ (l : List Nat) (k : Nat) : kidsN false l (k + 1) = kidsN false l k ++ [kidA (rowN false l k)] := by simp [kidsN, List.range_succ]
theorem keysN_len (lf : Bool) (l : List Nat) (k : Nat) : (keysN lf l k).length = k := by simp [keysN]
theorem flat_row {w : Nat} {v : Nat → List Nat} : ∀ {n : Nat}, (∀ i, i < n → (v i).length = w) → ∀ i, i < n → ((((List.range n).map v).flatten).drop (w * i)).take w = v i
  | 0, _, i, hi => absurd hi (by omega)
  | n + 1, h, i, hi => by
    have hl : (((List.range n).map v).flatten).length = w * n := by
      clear hi
      have h := fun i hi => h i (Nat.lt_succ_of_lt hi)
      induction n with
      | zero => simp
      | succ n ih =>
        rw [List.range_succ, List.map_append, List.flatten_append, List.length_append, ih (fun i hi => h i (by omega)) (fun i hi => h i (by omega))]
        simp [h n (by omega), Nat.mul_succ]
    rw [List.range_succ, List.map_append, List.flatten_append]
    by_cases hin : i = n
    · subst hin
      rw [List.drop_left' hl]
      have := h i (by omega)
      simp [← this]
    · have hi : i < n := by omega
      have hm : w * i + w ≤ w * n := by rw [← Nat.mul_succ]; exact Nat.mul_le_mul_left _ hi
      rw [List.drop_append_of_le_length (by omega), List.take_append_of_le_length (by rw [List.length_drop]; omega)]
      exact flat_row (fun j hj => h j (by omega)) i hi
theorem rowP_wd {p : PageT} (hs : shapeP p) {i : Nat} (hi : i < p.keys.length) : (rowP p.leaf p.keys p.locs p.kids i).length = wdN p.leaf := by
  obtain ⟨lf, ks, ls, ds⟩ := p
  cases lf with
  | true =>
    have hs := (shapeP_T _ _ _).1 hs
    dsimp only at hi ⊢
    rw [rowP_leaf hi (by omega)]; rfl
  | false =>
    have hs := (shapeP_F _ _ _).1 hs
    dsimp only at hi ⊢
    rw [rowP_kid hi (by omega)]; rfl
theorem pageN_full {u : PageT} (hr : rightP u = true) : pageN (natsP u) = u ∧ (natsP u).length = 2 + wdN (lfN (natsP u)) * cntN (natsP u) ∧ cntN (natsP u) ≤ 8 ∧ B64 (natsP u) := by
  obtain ⟨hs1, hs2⟩ := rightP_iff.1 hr
  have hn : u.keys.length ≤ 8 := by unfold shapeP at hs2; split at hs2 <;> omega
  have e0 : lfN (natsP u) = u.leaf := by unfold lfN natsP; cases u.leaf <;> rfl
  have e1 : cntN (natsP u) = u.keys.length := rfl
  have hrow : ∀ i, i < u.keys.length → rowN u.leaf (natsP u) i = rowP u.leaf u.keys u.locs u.kids i := fun i hi => by
    unfold rowN natsP
    rw [show 2 + wdN u.leaf * i = wdN u.leaf * i + 1 + 1 by omega, List.drop_succ_cons, List.drop_succ_cons]
    exact flat_row (fun j hj => rowP_wd hs2 hj) i hi
  refine ⟨?_, ?_, by rw [e1]; exact hn, ?_⟩
  · unfold pageN
    rw [e0, e1]
    obtain ⟨lf, ks, ls, ds⟩ := u
    dsimp only at hrow hs2 ⊢
    have hks : keysN lf (natsP ⟨lf, ks, ls, ds⟩) ks.length = ks := by
      apply List.ext_getElem
      · rw [keysN_len]
      · intro i h1 h2
        have : (keysN lf (natsP ⟨lf, ks, ls, ds⟩) ks.length)[i] = keyA (rowN lf (natsP ⟨lf, ks, ls, ds⟩) i) := by simp [keysN]
        rw [this, hrow i h2]
        cases lf with
        | true =>
          have hs := (shapeP_T _ _ _).1 hs2
          rw [rowP_leaf h2 (by omega)]; exact keyA_of _ _
        | false =>
          have hs := (shapeP_F _ _ _).1 hs2
          rw [rowP_kid h2 (by omega)]; exact keyA_of _ _
    cases lf with
    | true =>
      have hs := (shapeP_T _ _ _).1 hs2
      have hls : locsN true (natsP ⟨true, ks, ls, ds⟩) ks.length = ls := by
        apply List.ext_getElem
        · simp [locsN]; omega
        · intro i h1 h2
          have : (locsN true (natsP ⟨true, ks, ls, ds⟩) ks.length)[i] = locA (rowN true (natsP ⟨true, ks, ls, ds⟩) i) := by simp [locsN]
          rw [this, hrow i (by omega), rowP_leaf (by omega) h2]; exact locA_of _ _ _ _
      have hds : ds = [] := List.eq_nil_of_length_eq_zero hs.2.2
      rw [hks, hls, hds]; rfl
    | false =>
      have hs := (shapeP_F _ _ _).1 hs2
      have hds : kidsN false (natsP ⟨false, ks, ls, ds⟩) ks.length = ds := by
        apply List.ext_getElem
        · simp [kidsN]; omega
        · intro i h1 h2
          have : (kidsN false (natsP ⟨false, ks, ls, ds⟩) ks.length)[i] = kidA (rowN false (natsP ⟨false, ks, ls, ds⟩) i) := by simp [kidsN]
          rw [this, hrow i (by omega), rowP_kid (by omega) h2]; exact kidA_of _ _ _ _
      have hls : ls = [] := List.eq_nil_of_length_eq_zero hs.2.2.2
      rw [hks, hds, hls]; rfl
  · rw [e0, e1]
    unfold natsP rowsP
    rw [List.length_cons, List.length_cons]
    have : ∀ n, n ≤ u.keys.length → (((List.range n).map (rowP u.leaf u.keys u.locs u.kids)).flatten).length = wdN u.leaf * n := by
      intro n
      induction n with
      | zero => simp
      | succ n ih =>
        intro h
        rw [List.range_succ, List.map_append, List.flatten_append, List.length_append, ih (by omega)]
        simp [rowP_wd hs2 (i := n) (by omega), Nat.mul_succ]
    rw [this _ (Nat.le_refl _)]; omega
  · intro n hx
    unfold natsP rowsP at hx
    rw [List.mem_cons, List.mem_cons] at hx
    rcases hx with hx | hx | hx
    · rw [hx]; split <;> omega
    · rw [hx]; omega
    · rw [List.mem_flatten] at hx
      obtain ⟨r, h1, h2⟩ := hx
      rw [List.mem_map] at h1
      obtain ⟨i, h3, rfl⟩ := h1
      have hi := List.mem_range.1 h3
      obtain ⟨lf, ks, ls, ds⟩ := u
      dsimp only at hi h2 hs2
      have g1 := ks[i].cart.toNat_lt; have g2 := ks[i].dot.rep.toNat_lt; have g3 := ks[i].dot.seq.toNat_lt
      cases lf with
      | true =>
        have hs := (shapeP_T _ _ _).1 hs2
        have hl : i < ls.length := by omega
        have g4 := ls[i].seg.toNat_lt; have g5 := ls[i].at_.toNat_lt
        rw [rowP_leaf hi hl] at h2
        simp only [List.mem_cons, List.not_mem_nil, or_false] at h2
        omega
      | false =>
        have hs := (shapeP_F _ _ _).1 hs2
        have hl : i < ds.length := by omega
        have g4 := ds[i].toNat_lt
        rw [rowP_kid hi hl] at h2
        simp only [List.mem_cons, List.not_mem_nil, or_false] at h2
        omega
theorem decP_N {b f : List UInt8} {k e : Nat} (hF : firstF b = (f, k, e)) (h : ∀ l, B64 l → e = 0 → numsB l = f → l.length = 2 + wdN (lfN l) * cntN l → cntN l ≤ 8 → rightP (pageN l) = true → encP (pageN l) = b → False) : DecP b zeroP 15 :=
  .inr ⟨rfl, rfl, fun u hu e9 => by
    have h1 := firstF_enc hu e9
    rw [hF] at h1
    injection h1 with h2 h3
    injection h3 with h4 h5
    obtain ⟨g1, g2, g3, g4⟩ := pageN_full hu
    exact h (natsP u) g4 h5 h2.symm g2 g3 (by rw [g1]; exact hu) (by rw [g1]; exact e9)⟩
end Go.Tg

