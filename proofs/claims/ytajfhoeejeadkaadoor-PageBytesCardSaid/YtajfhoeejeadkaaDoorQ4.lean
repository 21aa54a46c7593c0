/- Contracts of Go functions that the laws reach: what each call answers and leaves in memory, for all arguments within the bounds that each theorem names. -/
import Derived.Test.YtajfhoeejeadkaaDoorInst
import Derived.Test.YtajfhoeejeadkaaDoorAuto
import Derived.Test.YtajfhoeejeadkaaDoorQ1
import Derived.Test.YtajfhoeejeadkaaDoorSl
set_option linter.unusedVariables false
set_option linter.unusedSimpArgs false
set_option maxRecDepth 100000
set_option maxHeartbeats 4000000
namespace Go.Tg
open Go Go.Proofs
structure LocT where
  seg : UInt32
  at_ : UInt32
def cLoc (l : LocT) : List Value := [.int .u32 l.seg.toNat, .int .u32 l.at_.toNat]
def cKid (x : UInt32) : List Value := [.int .u32 x.toNat]
structure PageT where
  leaf : Bool
  keys : List KeyT
  locs : List LocT
  kids : List UInt32
structure PAd where
  ak : Option Addr
  ck : Nat
  al : Option Addr
  cl : Nat
  ad : Option Addr
  cd : Nat
def pgL (lf : Bool) (nk nl nd : Nat) (ak : Option Addr) (ck : Nat) (al : Option Addr) (cl : Nat) (ad : Option Addr) (cd : Nat) : List Value := [.bool lf, .slice ak nk ck, .slice al nl cl, .slice ad nd cd]
def pgV (p : PageT) (A : PAd) : List Value := [.bool p.leaf, .slice A.ak p.keys.length A.ck, .slice A.al p.locs.length A.cl, .slice A.ad p.kids.length A.cd]
theorem pgV_len (p : PageT) (A : PAd) : (pgV p A).length = 4 := rfl
structure PgR (h : FH) (p : PageT) (A : PAd) : Prop where
  k : Sl h 3 A.ak A.ck (p.keys.map cKey)
  l : Sl h 2 A.al A.cl (p.locs.map cLoc)
  d : Sl h 1 A.ad A.cd (p.kids.map cKid)
theorem PgR.mono {h h' : FH} {p : PageT} {A : PAd} (hle : FLe h h') (r : PgR h p A) : PgR h' p A := ⟨r.k.mono hle, r.l.mono hle, r.d.mono hle⟩
theorem PgR.full {ws w : World} {S : List Nat} {h0 h : FH} {L : List HA} {p : PageT} {A : PAd} (r : PgR h p A) (H : St ws S h0 h L w) : PgR (full w) p A := r.mono H.sat.le
theorem Sl.getM {α : Type} {f : α → List Value} {xs : List α} {h : FH} {sz : Nat} {a : Option Addr} {c : Nat} (r : Sl h sz a c (xs.map f)) (hs : 0 < sz) (hx : 0 < xs.length) :
    ∃ b off l T fr, a = some ⟨b, off, none⟩ ∧ h b = some (.cells (List.toArray l) T fr) ∧ ∀ (m j : Nat) (hj : j < xs.length), m = j → (l.drop (off + m * sz)).take sz = f xs[j] := by
  obtain ⟨b, off, l, T, fr, e1, e2, e3⟩ := r.get hs (i := 0) (by simpa using hx)
  exact ⟨b, off, l, T, fr, e1, e2, fun m j hj hm => by subst hm; have := e3 m (by simpa using hj); rw [this]; simp⟩
theorem Sl.lenM {α : Type} {f : α → List Value} {xs : List α} {h : FH} {sz : Nat} {a : Option Addr} {c : Nat} (r : Sl h sz a c (xs.map f)) : xs.length ≤ c ∧ c ≤ 9223372036854775807 := by
  have h1 := r.le; have h2 := r.mx
  have h9 : (maxLen : Nat) ≤ 9223372036854775807 := by decide
  exact ⟨by simpa using h1, by omega⟩
def sortedK (ks : List KeyT) : Prop := ∀ i (h : i + 1 < ks.length), keyN (ks[i]'(by omega)) < keyN ks[i + 1]
def shapeP (p : PageT) : Prop := if p.leaf = true then p.keys.length ≤ 8 ∧ p.locs.length = p.keys.length ∧ p.kids.length = 0 else 1 ≤ p.keys.length ∧ p.keys.length ≤ 8 ∧ p.kids.length = p.keys.length ∧ p.locs.length = 0
theorem shapeP_T (ks : List KeyT) (ls : List LocT) (ds : List UInt32) : shapeP ⟨true, ks, ls, ds⟩ ↔ ks.length ≤ 8 ∧ ls.length = ks.length ∧ ds.length = 0 := by unfold shapeP; rw [if_pos rfl]
theorem shapeP_F (ks : List KeyT) (ls : List LocT) (ds : List UInt32) : shapeP ⟨false, ks, ls, ds⟩ ↔ 1 ≤ ks.length ∧ ks.length ≤ 8 ∧ ds.length = ks.length ∧ ls.length = 0 := by unfold shapeP; rw [if_neg Bool.false_ne_true]
noncomputable def rightP (p : PageT) : Bool := dcd (sortedK p.keys ∧ shapeP p)
theorem rightP_iff {p : PageT} : rightP p = true ↔ sortedK p.keys ∧ shapeP p := dcd_iff
theorem rightP_no {p : PageT} : rightP p = false ↔ ¬ (sortedK p.keys ∧ shapeP p) := dcd_no
theorem page_Right (p : PageT) (A : PAd) (h0 : FH) (w : World) (hs : Sat h0 w) (hP : PgR h0 p A) : SpecV Tryd.prog 23 #[.agg (pgV p A).toArray] w (.bool (rightP p)) := by
  have H := St.start hs
  obtain ⟨lf, ks, ls, ds⟩ := p
  obtain ⟨ak, ck, al, cl, ad, cd⟩ := A
  rw [show pgV ⟨lf, ks, ls, ds⟩ ⟨ak, ck, al, cl, ad, cd⟩ = pgL lf ks.length ls.length ds.length ak ck al cl ad cd from rfl]
  have lp : (pgL lf ks.length ls.length ds.length ak ck al cl ad cd).length = 4 := rfl
  have q1 := hP.k.lenM
  have q2 := hP.l.lenM
  have q3 := hP.d.lenM
  dsimp only at q1 q2 q3
  unfold SpecV
  refine calls_of Tryd.func23 rfl Tryd.ntmps23 (by simp) ?_
  repeat' (first | ((first | refine WL.p rfl ?_ | refine WL.u ?_ | refine WL.g rfl rfl ?_ | refine WL.gu rfl ?_); first | refine pvQ ?_ | (refine opk 3 rfl ?_; (refine ost_cmp rfl rfl rfl rfl (fun hc => ?_) (fun hc => ?_) <;> (simp only [cmpP] at hc; try exact prIQ))) | (refine opk 4 rfl ?_; (refine ost_cmp rfl rfl rfl rfl (fun hc => ?_) (fun hc => ?_) <;> (simp only [cmpP] at hc; try exact prIQ))) | (refine opk 9 rfl ?_; (refine ost_boxq H rfl ?_; clear H; intro bk wk H))) | refine Wc.seq ?_ | refine then_n ?_ | refine WL.nil ?_ | refine Wc.region ?_ | refine Wc.block ?_ | refine then_r ?_ | refine then_e ?_ | refine inb_e rfl ?_ | refine inb_o rfl ?_ | refine inb_n ?_ | refine inb_r ?_ | refine Wc.skip ?_ | refine Wc.exit ?_ | refine Wc.ret ?_ | refine Wc.cond_true rfl ?_ | refine Wc.cond_false rfl ?_ | (refine Wc.drawn (id := 5) 11 (by kernel_rfl) ?_) | refine WL.skp rfl rfl ?_ | refine WL.sku rfl ?_ | (refine rgs_nil ?_; intro vs wk hE; replace H := H.ext hE; clear hE) | refine RGs.skp (fun _ => rfl) rfl ?_ | (refine RGs.bq (fun _ => rfl) rfl (by intro vs w hE hP; have H := H.ext hE; first | exact dbQ | fail) (fun hc => ?_) (fun hc => ?_) <;> ((try simp only [cmpP, decide_eq_true_eq, decide_eq_false_iff_not, dcd_iff, dcd_no] at hc); try exact prDQ)) | refine RGs.pq (fun _ => rfl) rfl (by intro vs w hE hP; have H := H.ext hE; first | exact dvQ | fail) ?_)
  refine Wc.loopE (fun s0 m s w' => ∃ i : Nat, m = ks.length + 1 - i ∧ 1 ≤ i ∧ i ≤ ks.length + 1 ∧ Agree [2, 4, 8, 9, 10, 11, 12, 13, 14, 15, 16, 17, 18, 19, 20, 21, 22, 23, 24, 25] s s0 ∧ s 4 = .int .i64 i ∧ (∀ j (h : j + 1 < ks.length), j + 1 < i → keyN (ks[j]'(by omega)) < keyN ks[j + 1]) ∧
    St w [] h0 h0 [.blk bk (.cells (pgL lf ks.length ls.length ds.length ak ck al cl ad cd).toArray 40 (0, 0))] w') ks.length ⟨1, rfl, by omega, by omega, Agree.refl _ _, rfl, fun j h hj => absurd hj (by omega), H⟩ ?_
  clear H
  rintro m s w' ⟨i, rfl, h1, h2, hA, e1, hsrt, H⟩
  obtain ⟨j, rfl⟩ := hA.env1 e1
  clear hA e1
  by_cases hlt : i < ks.length
  · obtain ⟨b, off, l, T, fr, e1, eb, eg⟩ := hP.k.getM (by decide) (Nat.lt_of_le_of_lt (Nat.zero_le _) hlt)
    dsimp only at e1 eg
    subst e1
    have g1 := eg ((i : Int) - 1).toNat (i - 1) (by omega) (by omega)
    have g2 := eg (i : Int).toNat i hlt (by omega)
    have hq : lessK ks[i - 1] ks[i] = true ↔ keyN ks[i - 1] < keyN ks[i] := by simp [lessK]
    have l1 := cKey_len ks[i - 1]
    have l2 := cKey_len ks[i]
    cases hlq : lessK ks[i - 1] ks[i] with
    | true =>
      have c1 : ∀ w, SpecV Tryd.prog 25 #[.agg (cKey ks[i - 1]).toArray, .agg (cKey ks[i]).toArray] w (.bool true) := fun w => by
        have := page_Less ks[i - 1] ks[i] w; rw [hlq] at this; exact this
      repeat' (first | ((first | refine WL.p rfl ?_ | refine WL.u ?_ | refine WL.g rfl rfl ?_ | refine WL.gu rfl ?_); first | (refine opk 1 rfl ?_; (refine ost_V H rfl (c1 _) rfl ?_; clear H; intro wk H)) | refine pvQ ?_ | (refine opk 3 rfl ?_; (refine ost_cmp rfl rfl rfl rfl (fun hc => ?_) (fun hc => ?_) <;> (simp only [cmpP] at hc; try exact prIQ))) | (refine opk 4 rfl ?_; (refine ost_cmp rfl rfl rfl rfl (fun hc => ?_) (fun hc => ?_) <;> (simp only [cmpP] at hc; try exact prIQ))) | (refine opk 9 rfl ?_; (refine ost_boxq H rfl ?_; clear H; intro bk wk H))) | refine Wc.seq ?_ | refine then_n ?_ | refine WL.nil ?_ | refine Wc.region ?_ | refine Wc.block ?_ | refine then_r ?_ | refine then_e ?_ | refine inb_e rfl ?_ | refine inb_o rfl ?_ | refine inb_n ?_ | refine inb_r ?_ | refine Wc.skip ?_ | refine Wc.exit ?_ | refine Wc.ret ?_ | refine Wc.cond_true rfl ?_ | refine Wc.cond_false rfl ?_ | (refine Wc.drawn (id := 5) 11 (by kernel_rfl) ?_) | refine WL.skp rfl rfl ?_ | refine WL.sku rfl ?_ | (refine rgs_nil ?_; intro vs wk hE; replace H := H.ext hE; clear hE) | refine RGs.skp (fun _ => rfl) rfl ?_ | (refine RGs.bq (fun _ => rfl) rfl (by intro vs w hE hP; have H := H.ext hE; first | exact dbQ | fail) (fun hc => ?_) (fun hc => ?_) <;> ((try simp only [cmpP, decide_eq_true_eq, decide_eq_false_iff_not, dcd_iff, dcd_no] at hc); try exact prDQ)) | refine RGs.pq (fun _ => rfl) rfl (by intro vs w hE hP; have H := H.ext hE; first | (refine opk 1 rfl ?_; (exact ost_V0d rfl (c1 _) rfl)) | exact dvQ | fail) ?_)
      refine ⟨ks.length + 1 - (i + 1), by omega, i + 1, rfl, by omega, by omega, by (repeat' (first | exact Agree.refl _ _ | exact Agree.havoc | refine Agree.upd rfl ?_ | refine Agree.hav2 rfl ?_)), rfl, fun j h hj => ?_, H⟩
      by_cases hji : j + 1 < i
      · exact hsrt j h hji
      · obtain rfl : j + 1 = i := by omega
        exact hq.1 hlq
    | false =>
      have c1 : ∀ w, SpecV Tryd.prog 25 #[.agg (cKey ks[i - 1]).toArray, .agg (cKey ks[i]).toArray] w (.bool false) := fun w => by
        have := page_Less ks[i - 1] ks[i] w; rw [hlq] at this; exact this
      repeat' (first | ((first | refine WL.p rfl ?_ | refine WL.u ?_ | refine WL.g rfl rfl ?_ | refine WL.gu rfl ?_); first | (refine opk 1 rfl ?_; (refine ost_V H rfl (c1 _) rfl ?_; clear H; intro wk H)) | refine pvQ ?_ | (refine opk 3 rfl ?_; (refine ost_cmp rfl rfl rfl rfl (fun hc => ?_) (fun hc => ?_) <;> (simp only [cmpP] at hc; try exact prIQ))) | (refine opk 4 rfl ?_; (refine ost_cmp rfl rfl rfl rfl (fun hc => ?_) (fun hc => ?_) <;> (simp only [cmpP] at hc; try exact prIQ))) | (refine opk 9 rfl ?_; (refine ost_boxq H rfl ?_; clear H; intro bk wk H))) | refine Wc.seq ?_ | refine then_n ?_ | refine WL.nil ?_ | refine Wc.region ?_ | refine Wc.block ?_ | refine then_r ?_ | refine then_e ?_ | refine inb_e rfl ?_ | refine inb_o rfl ?_ | refine inb_n ?_ | refine inb_r ?_ | refine Wc.skip ?_ | refine Wc.exit ?_ | refine Wc.ret ?_ | refine Wc.cond_true rfl ?_ | refine Wc.cond_false rfl ?_ | (refine Wc.drawn (id := 5) 11 (by kernel_rfl) ?_) | refine WL.skp rfl rfl ?_ | refine WL.sku rfl ?_ | (refine rgs_nil ?_; intro vs wk hE; replace H := H.ext hE; clear hE) | refine RGs.skp (fun _ => rfl) rfl ?_ | (refine RGs.bq (fun _ => rfl) rfl (by intro vs w hE hP; have H := H.ext hE; first | exact dbQ | fail) (fun hc => ?_) (fun hc => ?_) <;> ((try simp only [cmpP, decide_eq_true_eq, decide_eq_false_iff_not, dcd_iff, dcd_no] at hc); try exact prDQ)) | refine RGs.pq (fun _ => rfl) rfl (by intro vs w hE hP; have H := H.ext hE; first | (refine opk 1 rfl ?_; (exact ost_V0d rfl (c1 _) rfl)) | exact dvQ | fail) ?_)
      (first | refine fn_ret1 (v := .bool _) rfl rfl ⟨?_, H.fr⟩ | refine fn_ret1 (v := .int _ _) rfl rfl ⟨?_, H.fr⟩ | refine fn_ret1 (v := .string _) rfl rfl ⟨?_, H.fr⟩); congr 1; symm
      refine rightP_no.2 fun h => ?_
      have h3 := h.1 (i - 1) (by show i - 1 + 1 < ks.length; omega)
      have e9 : (ks[i - 1 + 1]'(by omega)) = ks[i] := by congr 1; omega
      have h4 : keyN ks[i - 1] < keyN (ks[i - 1 + 1]'(by omega)) := h3
      rw [e9] at h4
      rw [hq.2 h4] at hlq; cases hlq
  · have hso : sortedK ks := fun j h => hsrt j h (by omega)
    cases lf
    · have hN := (shapeP_F ks ls ds).1
      have hY := (shapeP_F ks ls ds).2
      repeat' (first | ((first | refine WL.p rfl ?_ | refine WL.u ?_ | refine WL.g rfl rfl ?_ | refine WL.gu rfl ?_); first | refine pvQ ?_ | (refine opk 3 rfl ?_; (refine ost_cmp rfl rfl rfl rfl (fun hc => ?_) (fun hc => ?_) <;> (simp only [cmpP] at hc; try exact prIQ))) | (refine opk 4 rfl ?_; (refine ost_cmp rfl rfl rfl rfl (fun hc => ?_) (fun hc => ?_) <;> (simp only [cmpP] at hc; try exact prIQ))) | (refine opk 9 rfl ?_; (refine ost_boxq H rfl ?_; clear H; intro bk wk H))) | refine Wc.seq ?_ | refine then_n ?_ | refine WL.nil ?_ | refine Wc.region ?_ | refine Wc.block ?_ | refine then_r ?_ | refine then_e ?_ | refine inb_e rfl ?_ | refine inb_o rfl ?_ | refine inb_n ?_ | refine inb_r ?_ | refine Wc.skip ?_ | refine Wc.exit ?_ | refine Wc.ret ?_ | refine Wc.cond_true rfl ?_ | refine Wc.cond_false rfl ?_ | (refine Wc.drawn (id := 5) 11 (by kernel_rfl) ?_) | refine WL.skp rfl rfl ?_ | refine WL.sku rfl ?_ | (refine rgs_nil ?_; intro vs wk hE; replace H := H.ext hE; clear hE) | refine RGs.skp (fun _ => rfl) rfl ?_ | (refine RGs.bq (fun _ => rfl) rfl (by intro vs w hE hP; have H := H.ext hE; first | exact dbQ | fail) (fun hc => ?_) (fun hc => ?_) <;> ((try simp only [cmpP, decide_eq_true_eq, decide_eq_false_iff_not, dcd_iff, dcd_no] at hc); try exact prDQ)) | refine RGs.pq (fun _ => rfl) rfl (by intro vs w hE hP; have H := H.ext hE; first | exact dvQ | fail) ?_)
      all_goals ((first | refine fn_ret1 (v := .bool _) rfl rfl ⟨?_, H.fr⟩ | refine fn_ret1 (v := .int _ _) rfl rfl ⟨?_, H.fr⟩ | refine fn_ret1 (v := .string _) rfl rfl ⟨?_, H.fr⟩); congr 1; symm; first | exact rightP_iff.2 ⟨hso, hY (by omega)⟩ | (refine rightP_no.2 fun h => ?_; have h2 := hN h.2; omega))
    · have hN := (shapeP_T ks ls ds).1
      have hY := (shapeP_T ks ls ds).2
      repeat' (first | ((first | refine WL.p rfl ?_ | refine WL.u ?_ | refine WL.g rfl rfl ?_ | refine WL.gu rfl ?_); first | refine pvQ ?_ | (refine opk 3 rfl ?_; (refine ost_cmp rfl rfl rfl rfl (fun hc => ?_) (fun hc => ?_) <;> (simp only [cmpP] at hc; try exact prIQ))) | (refine opk 4 rfl ?_; (refine ost_cmp rfl rfl rfl rfl (fun hc => ?_) (fun hc => ?_) <;> (simp only [cmpP] at hc; try exact prIQ))) | (refine opk 9 rfl ?_; (refine ost_boxq H rfl ?_; clear H; intro bk wk H))) | refine Wc.seq ?_ | refine then_n ?_ | refine WL.nil ?_ | refine Wc.region ?_ | refine Wc.block ?_ | refine then_r ?_ | refine then_e ?_ | refine inb_e rfl ?_ | refine inb_o rfl ?_ | refine inb_n ?_ | refine inb_r ?_ | refine Wc.skip ?_ | refine Wc.exit ?_ | refine Wc.ret ?_ | refine Wc.cond_true rfl ?_ | refine Wc.cond_false rfl ?_ | (refine Wc.drawn (id := 5) 11 (by kernel_rfl) ?_) | refine WL.skp rfl rfl ?_ | refine WL.sku rfl ?_ | (refine rgs_nil ?_; intro vs wk hE; replace H := H.ext hE; clear hE) | refine RGs.skp (fun _ => rfl) rfl ?_ | (refine RGs.bq (fun _ => rfl) rfl (by intro vs w hE hP; have H := H.ext hE; first | exact dbQ | fail) (fun hc => ?_) (fun hc => ?_) <;> ((try simp only [cmpP, decide_eq_true_eq, decide_eq_false_iff_not, dcd_iff, dcd_no] at hc); try exact prDQ)) | refine RGs.pq (fun _ => rfl) rfl (by intro vs w hE hP; have H := H.ext hE; first | exact dvQ | fail) ?_)
      all_goals ((first | refine fn_ret1 (v := .bool _) rfl rfl ⟨?_, H.fr⟩ | refine fn_ret1 (v := .int _ _) rfl rfl ⟨?_, H.fr⟩ | refine fn_ret1 (v := .string _) rfl rfl ⟨?_, H.fr⟩); congr 1; symm; first | exact rightP_iff.2 ⟨hso, hY (by omega)⟩ | (refine rightP_no.2 fun h => ?_; have h2 := hN h.2; omega))
theorem r13_Right (p : PageT) (A : PAd) (h0 : FH) (w : World) (hs : Sat h0 w) (hP : PgR h0 p A) : SpecV Tryd.prog 24 #[.agg (pgV p A).toArray] w (.bool (rightP p)) := by
  have H := St.start hs
  obtain ⟨lf, ks, ls, ds⟩ := p
  obtain ⟨ak, ck, al, cl, ad, cd⟩ := A
  rw [show pgV ⟨lf, ks, ls, ds⟩ ⟨ak, ck, al, cl, ad, cd⟩ = pgL lf ks.length ls.length ds.length ak ck al cl ad cd from rfl]
  have lp : (pgL lf ks.length ls.length ds.length ak ck al cl ad cd).length = 4 := rfl
  have q1 := hP.k.lenM
  have q2 := hP.l.lenM
  have q3 := hP.d.lenM
  dsimp only at q1 q2 q3
  unfold SpecV
  refine calls_of Tryd.func24 rfl Tryd.ntmps24 (by simp) ?_
  repeat' (first | ((first | refine WL.p rfl ?_ | refine WL.u ?_ | refine WL.g rfl rfl ?_ | refine WL.gu rfl ?_); first | refine pvQ ?_ | (refine opk 3 rfl ?_; (refine ost_cmp rfl rfl rfl rfl (fun hc => ?_) (fun hc => ?_) <;> (simp only [cmpP] at hc; try exact prIQ))) | (refine opk 4 rfl ?_; (refine ost_cmp rfl rfl rfl rfl (fun hc => ?_) (fun hc => ?_) <;> (simp only [cmpP] at hc; try exact prIQ))) | (refine opk 9 rfl ?_; (refine ost_boxq H rfl ?_; clear H; intro bk wk H))) | refine Wc.seq ?_ | refine then_n ?_ | refine WL.nil ?_ | refine Wc.region ?_ | refine Wc.block ?_ | refine then_r ?_ | refine then_e ?_ | refine inb_e rfl ?_ | refine inb_o rfl ?_ | refine inb_n ?_ | refine inb_r ?_ | refine Wc.skip ?_ | refine Wc.exit ?_ | refine Wc.ret ?_ | refine Wc.cond_true rfl ?_ | refine Wc.cond_false rfl ?_ | (refine Wc.drawn (id := 4) 11 (by kernel_rfl) ?_) | refine WL.skp rfl rfl ?_ | refine WL.sku rfl ?_ | (refine rgs_nil ?_; intro vs wk hE; replace H := H.ext hE; clear hE) | refine RGs.skp (fun _ => rfl) rfl ?_ | (refine RGs.bq (fun _ => rfl) rfl (by intro vs w hE hP; have H := H.ext hE; first | exact dbQ | fail) (fun hc => ?_) (fun hc => ?_) <;> ((try simp only [cmpP, decide_eq_true_eq, decide_eq_false_iff_not, dcd_iff, dcd_no] at hc); try exact prDQ)) | refine RGs.pq (fun _ => rfl) rfl (by intro vs w hE hP; have H := H.ext hE; first | exact dvQ | fail) ?_)
  refine Wc.loopE (fun s0 m s w' => ∃ i : Nat, m = ks.length + 1 - i ∧ 1 ≤ i ∧ i ≤ ks.length + 1 ∧ Agree [2, 3, 5, 6, 7, 8, 9, 10, 11, 12, 13, 14, 15, 16, 17, 18, 19, 20, 21, 22, 23, 24] s s0 ∧ s 3 = .int .i64 i ∧ (∀ j (h : j + 1 < ks.length), j + 1 < i → keyN (ks[j]'(by omega)) < keyN ks[j + 1]) ∧
    St w [] h0 h0 [.blk bk (.cells (pgL lf ks.length ls.length ds.length ak ck al cl ad cd).toArray 26 (0, 0))] w') ks.length ⟨1, rfl, by omega, by omega, Agree.refl _ _, rfl, fun j h hj => absurd hj (by omega), H⟩ ?_
  clear H
  rintro m s w' ⟨i, rfl, h1, h2, hA, e1, hsrt, H⟩
  obtain ⟨j, rfl⟩ := hA.env1 e1
  clear hA e1
  by_cases hlt : i < ks.length
  · obtain ⟨b, off, l, T, fr, e1, eb, eg⟩ := hP.k.getM (by decide) (Nat.lt_of_le_of_lt (Nat.zero_le _) hlt)
    dsimp only at e1 eg
    subst e1
    have g1 := eg ((i : Int) - 1).toNat (i - 1) (by omega) (by omega)
    have g2 := eg (i : Int).toNat i hlt (by omega)
    have hq : lessK ks[i - 1] ks[i] = true ↔ keyN ks[i - 1] < keyN ks[i] := by simp [lessK]
    have l1 := cKey_len ks[i - 1]
    have l2 := cKey_len ks[i]
    cases hlq : lessK ks[i - 1] ks[i] with
    | true =>
      have c1 : ∀ w, SpecV Tryd.prog 26 #[.agg (cKey ks[i - 1]).toArray, .agg (cKey ks[i]).toArray] w (.bool true) := fun w => by
        have := r13_Less ks[i - 1] ks[i] w; rw [hlq] at this; exact this
      repeat' (first | ((first | refine WL.p rfl ?_ | refine WL.u ?_ | refine WL.g rfl rfl ?_ | refine WL.gu rfl ?_); first | (refine opk 1 rfl ?_; (refine ost_V H rfl (c1 _) rfl ?_; clear H; intro wk H)) | refine pvQ ?_ | (refine opk 3 rfl ?_; (refine ost_cmp rfl rfl rfl rfl (fun hc => ?_) (fun hc => ?_) <;> (simp only [cmpP] at hc; try exact prIQ))) | (refine opk 4 rfl ?_; (refine ost_cmp rfl rfl rfl rfl (fun hc => ?_) (fun hc => ?_) <;> (simp only [cmpP] at hc; try exact prIQ))) | (refine opk 9 rfl ?_; (refine ost_boxq H rfl ?_; clear H; intro bk wk H))) | refine Wc.seq ?_ | refine then_n ?_ | refine WL.nil ?_ | refine Wc.region ?_ | refine Wc.block ?_ | refine then_r ?_ | refine then_e ?_ | refine inb_e rfl ?_ | refine inb_o rfl ?_ | refine inb_n ?_ | refine inb_r ?_ | refine Wc.skip ?_ | refine Wc.exit ?_ | refine Wc.ret ?_ | refine Wc.cond_true rfl ?_ | refine Wc.cond_false rfl ?_ | (refine Wc.drawn (id := 4) 11 (by kernel_rfl) ?_) | refine WL.skp rfl rfl ?_ | refine WL.sku rfl ?_ | (refine rgs_nil ?_; intro vs wk hE; replace H := H.ext hE; clear hE) | refine RGs.skp (fun _ => rfl) rfl ?_ | (refine RGs.bq (fun _ => rfl) rfl (by intro vs w hE hP; have H := H.ext hE; first | exact dbQ | fail) (fun hc => ?_) (fun hc => ?_) <;> ((try simp only [cmpP, decide_eq_true_eq, decide_eq_false_iff_not, dcd_iff, dcd_no] at hc); try exact prDQ)) | refine RGs.pq (fun _ => rfl) rfl (by intro vs w hE hP; have H := H.ext hE; first | (refine opk 1 rfl ?_; (exact ost_V0d rfl (c1 _) rfl)) | exact dvQ | fail) ?_)
      refine ⟨ks.length + 1 - (i + 1), by omega, i + 1, rfl, by omega, by omega, by (repeat' (first | exact Agree.refl _ _ | exact Agree.havoc | refine Agree.upd rfl ?_ | refine Agree.hav2 rfl ?_)), rfl, fun j h hj => ?_, H⟩
      by_cases hji : j + 1 < i
      · exact hsrt j h hji
      · obtain rfl : j + 1 = i := by omega
        exact hq.1 hlq
    | false =>
      have c1 : ∀ w, SpecV Tryd.prog 26 #[.agg (cKey ks[i - 1]).toArray, .agg (cKey ks[i]).toArray] w (.bool false) := fun w => by
        have := r13_Less ks[i - 1] ks[i] w; rw [hlq] at this; exact this
      repeat' (first | ((first | refine WL.p rfl ?_ | refine WL.u ?_ | refine WL.g rfl rfl ?_ | refine WL.gu rfl ?_); first | (refine opk 1 rfl ?_; (refine ost_V H rfl (c1 _) rfl ?_; clear H; intro wk H)) | refine pvQ ?_ | (refine opk 3 rfl ?_; (refine ost_cmp rfl rfl rfl rfl (fun hc => ?_) (fun hc => ?_) <;> (simp only [cmpP] at hc; try exact prIQ))) | (refine opk 4 rfl ?_; (refine ost_cmp rfl rfl rfl rfl (fun hc => ?_) (fun hc => ?_) <;> (simp only [cmpP] at hc; try exact prIQ))) | (refine opk 9 rfl ?_; (refine ost_boxq H rfl ?_; clear H; intro bk wk H))) | refine Wc.seq ?_ | refine then_n ?_ | refine WL.nil ?_ | refine Wc.region ?_ | refine Wc.block ?_ | refine then_r ?_ | refine then_e ?_ | refine inb_e rfl ?_ | refine inb_o rfl ?_ | refine inb_n ?_ | refine inb_r ?_ | refine Wc.skip ?_ | refine Wc.exit ?_ | refine Wc.ret ?_ | refine Wc.cond_true rfl ?_ | refine Wc.cond_false rfl ?_ | (refine Wc.drawn (id := 4) 11 (by kernel_rfl) ?_) | refine WL.skp rfl rfl ?_ | refine WL.sku rfl ?_ | (refine rgs_nil ?_; intro vs wk hE; replace H := H.ext hE; clear hE) | refine RGs.skp (fun _ => rfl) rfl ?_ | (refine RGs.bq (fun _ => rfl) rfl (by intro vs w hE hP; have H := H.ext hE; first | exact dbQ | fail) (fun hc => ?_) (fun hc => ?_) <;> ((try simp only [cmpP, decide_eq_true_eq, decide_eq_false_iff_not, dcd_iff, dcd_no] at hc); try exact prDQ)) | refine RGs.pq (fun _ => rfl) rfl (by intro vs w hE hP; have H := H.ext hE; first | (refine opk 1 rfl ?_; (exact ost_V0d rfl (c1 _) rfl)) | exact dvQ | fail) ?_)
      (first | refine fn_ret1 (v := .bool _) rfl rfl ⟨?_, H.fr⟩ | refine fn_ret1 (v := .int _ _) rfl rfl ⟨?_, H.fr⟩ | refine fn_ret1 (v := .string _) rfl rfl ⟨?_, H.fr⟩); congr 1; symm
      refine rightP_no.2 fun h => ?_
      have h3 := h.1 (i - 1) (by show i - 1 + 1 < ks.length; omega)
      have e9 : (ks[i - 1 + 1]'(by omega)) = ks[i] := by congr 1; omega
      have h4 : keyN ks[i - 1] < keyN (ks[i - 1 + 1]'(by omega)) := h3
      rw [e9] at h4
      rw [hq.2 h4] at hlq; cases hlq
  · have hso : sortedK ks := fun j h => hsrt j h (by omega)
    cases lf
    · have hN := (shapeP_F ks ls ds).1
      have hY := (shapeP_F ks ls ds).2
      repeat' (first | ((first | refine WL.p rfl ?_ | refine WL.u ?_ | refine WL.g rfl rfl ?_ | refine WL.gu rfl ?_); first | refine pvQ ?_ | (refine opk 3 rfl ?_; (refine ost_cmp rfl rfl rfl rfl (fun hc => ?_) (fun hc => ?_) <;> (simp only [cmpP] at hc; try exact prIQ))) | (refine opk 4 rfl ?_; (refine ost_cmp rfl rfl rfl rfl (fun hc => ?_) (fun hc => ?_) <;> (simp only [cmpP] at hc; try exact prIQ))) | (refine opk 9 rfl ?_; (refine ost_boxq H rfl ?_; clear H; intro bk wk H))) | refine Wc.seq ?_ | refine then_n ?_ | refine WL.nil ?_ | refine Wc.region ?_ | refine Wc.block ?_ | refine then_r ?_ | refine then_e ?_ | refine inb_e rfl ?_ | refine inb_o rfl ?_ | refine inb_n ?_ | refine inb_r ?_ | refine Wc.skip ?_ | refine Wc.exit ?_ | refine Wc.ret ?_ | refine Wc.cond_true rfl ?_ | refine Wc.cond_false rfl ?_ | (refine Wc.drawn (id := 4) 11 (by kernel_rfl) ?_) | refine WL.skp rfl rfl ?_ | refine WL.sku rfl ?_ | (refine rgs_nil ?_; intro vs wk hE; replace H := H.ext hE; clear hE) | refine RGs.skp (fun _ => rfl) rfl ?_ | (refine RGs.bq (fun _ => rfl) rfl (by intro vs w hE hP; have H := H.ext hE; first | exact dbQ | fail) (fun hc => ?_) (fun hc => ?_) <;> ((try simp only [cmpP, decide_eq_true_eq, decide_eq_false_iff_not, dcd_iff, dcd_no] at hc); try exact prDQ)) | refine RGs.pq (fun _ => rfl) rfl (by intro vs w hE hP; have H := H.ext hE; first | exact dvQ | fail) ?_)
      all_goals ((first | refine fn_ret1 (v := .bool _) rfl rfl ⟨?_, H.fr⟩ | refine fn_ret1 (v := .int _ _) rfl rfl ⟨?_, H.fr⟩ | refine fn_ret1 (v := .string _) rfl rfl ⟨?_, H.fr⟩); congr 1; symm; first | exact rightP_iff.2 ⟨hso, hY (by omega)⟩ | (refine rightP_no.2 fun h => ?_; have h2 := hN h.2; omega))
    · have hN := (shapeP_T ks ls ds).1
      have hY := (shapeP_T ks ls ds).2
      repeat' (first | ((first | refine WL.p rfl ?_ | refine WL.u ?_ | refine WL.g rfl rfl ?_ | refine WL.gu rfl ?_); first | refine pvQ ?_ | (refine opk 3 rfl ?_; (refine ost_cmp rfl rfl rfl rfl (fun hc => ?_) (fun hc => ?_) <;> (simp only [cmpP] at hc; try exact prIQ))) | (refine opk 4 rfl ?_; (refine ost_cmp rfl rfl rfl rfl (fun hc => ?_) (fun hc => ?_) <;> (simp only [cmpP] at hc; try exact prIQ))) | (refine opk 9 rfl ?_; (refine ost_boxq H rfl ?_; clear H; intro bk wk H))) | refine Wc.seq ?_ | refine then_n ?_ | refine WL.nil ?_ | refine Wc.region ?_ | refine Wc.block ?_ | refine then_r ?_ | refine then_e ?_ | refine inb_e rfl ?_ | refine inb_o rfl ?_ | refine inb_n ?_ | refine inb_r ?_ | refine Wc.skip ?_ | refine Wc.exit ?_ | refine Wc.ret ?_ | refine Wc.cond_true rfl ?_ | refine Wc.cond_false rfl ?_ | (refine Wc.drawn (id := 4) 11 (by kernel_rfl) ?_) | refine WL.skp rfl rfl ?_ | refine WL.sku rfl ?_ | (refine rgs_nil ?_; intro vs wk hE; replace H := H.ext hE; clear hE) | refine RGs.skp (fun _ => rfl) rfl ?_ | (refine RGs.bq (fun _ => rfl) rfl (by intro vs w hE hP; have H := H.ext hE; first | exact dbQ | fail) (fun hc => ?_) (fun hc => ?_) <;> ((try simp only [cmpP, decide_eq_true_eq, decide_eq_false_iff_not, dcd_iff, dcd_no] at hc); try exact prDQ)) | refine RGs.pq (fun _ => rfl) rfl (by intro vs w hE hP; have H := H.ext hE; first | exact dvQ | fail) ?_)
      all_goals ((first | refine fn_ret1 (v := .bool _) rfl rfl ⟨?_, H.fr⟩ | refine fn_ret1 (v := .int _ _) rfl rfl ⟨?_, H.fr⟩ | refine fn_ret1 (v := .string _) rfl rfl ⟨?_, H.fr⟩); congr 1; symm; first | exact rightP_iff.2 ⟨hso, hY (by omega)⟩ | (refine rightP_no.2 fun h => ?_; have h2 := hN h.2; omega))
end Go.Tg

set_option linter.unusedVariables false
set_option linter.unusedSimpArgs false
set_option maxRecDepth 100000
set_option maxHeartbeats 4000000
namespace Go.Tg
open Go Go.Proofs
def cntK (ks : List KeyT) (k : KeyT) : Nat := ks.countP fun x => lessK x k
noncomputable def hasK (ks : List KeyT) (k : KeyT) : Bool := dcd (k ∈ ks)
theorem lessK_iff {a b : KeyT} : lessK a b = true ↔ keyN a < keyN b := by simp [lessK]
theorem cntK_eq {ks : List KeyT} {k : KeyT} {i : Nat} (hi : i ≤ ks.length) (h1 : ∀ t (h : t < ks.length), t < i → keyN ks[t] < keyN k) (h2 : ∀ t (h : t < ks.length), i ≤ t → keyN k ≤ keyN ks[t]) : cntK ks k = i := by
  have e : ks = ks.take i ++ ks.drop i := (List.take_append_drop i ks).symm
  have ha : (ks.take i).countP (fun x => lessK x k) = (ks.take i).length := List.countP_eq_length.2 fun x hx => by
    obtain ⟨t, ht, rfl⟩ := List.getElem_of_mem hx
    have ht2 := ht
    simp at ht2
    rw [lessK_iff, List.getElem_take]
    exact h1 t (by omega) (by omega)
  have hb : (ks.drop i).countP (fun x => lessK x k) = 0 := List.countP_eq_zero.2 fun x hx => by
    obtain ⟨t, ht, rfl⟩ := List.getElem_of_mem hx
    have ht2 := ht
    simp at ht2
    rw [lessK_iff, List.getElem_drop]
    have := h2 (i + t) (by omega) (by omega)
    omega
  unfold cntK
  rw [e, List.countP_append, ha, hb]
  simp; omega
theorem sortedK_mono {ks : List KeyT} (hs : sortedK ks) : ∀ (d i : Nat) (h : i + d < ks.length), keyN (ks[i]'(by omega)) + d ≤ keyN ks[i + d]
  | 0, i, h => by simp
  | d + 1, i, h => by
    have h1 := sortedK_mono hs d i (by omega)
    have h2 := hs (i + d) (by omega)
    have e : (ks[i + (d + 1)]'h) = ks[i + d + 1]'(by omega) := rfl
    rw [e]; omega
theorem hasK_at {ks : List KeyT} {k : KeyT} {i : Nat} (h1 : ∀ t (h : t < ks.length), t < i → keyN ks[t] < keyN k) (hs : sortedK ks) : (∃ h : i < ks.length, keyN ks[i] = keyN k) ∨ ¬ (∃ h : i < ks.length, keyN ks[i] ≤ keyN k) → (hasK ks k = true ↔ ∃ h : i < ks.length, keyN ks[i] = keyN k) := by
  intro hor
  unfold hasK
  rw [dcd_iff]
  constructor
  · intro hm
    obtain ⟨t, ht, rfl⟩ := List.getElem_of_mem hm
    by_cases hti : t < i
    · have := h1 t ht hti; omega
    · have h3 := sortedK_mono hs (t - i) i (by omega)
      have e : (ks[i + (t - i)]'(by omega)) = ks[t] := by congr 1; omega
      rw [e] at h3
      rcases hor with h | h
      · exact h
      · exact absurd ⟨by omega, by omega⟩ h
  · rintro ⟨h, e⟩
    rw [← keyN_inj e]
    exact List.getElem_mem h
theorem bsearch (ks : List KeyT) (hsrt : sortedK ks) (k : KeyT) (a : Option Addr) (c : Nat) (h0 : FH) (w : World) (hs : Sat h0 w) (hr : Sl h0 3 a c (ks.map cKey)) (hb : ks.length ≤ 1000000) :
    SpecV Tryd.prog 62 #[.slice a ks.length c, .agg (cKey k).toArray, .func (.func 63) #[] #[]] w (.tuple #[.int .i64 (cntK ks k), .bool (hasK ks k)]) := by
  have H := St.start hs
  have q1 := hr.lenM
  have lk := cKey_len k
  unfold SpecV
  refine calls_of Tryd.func62 rfl Tryd.ntmps62 (by simp) ?_
  repeat' (first | ((first | refine WL.p rfl ?_ | refine WL.u ?_ | refine WL.g rfl rfl ?_ | refine WL.gu rfl ?_); first | refine pvQ ?_ | (refine opk 3 rfl ?_; (refine ost_cmp rfl rfl rfl rfl (fun hc => ?_) (fun hc => ?_) <;> (simp only [cmpP] at hc; try exact prIQ))) | (refine opk 4 rfl ?_; (refine ost_cmp rfl rfl rfl rfl (fun hc => ?_) (fun hc => ?_) <;> (simp only [cmpP] at hc; try exact prIQ))) | (refine opk 9 rfl ?_; (refine ost_boxq H rfl ?_; clear H; intro bk wk H))) | refine Wc.seq ?_ | refine then_n ?_ | refine WL.nil ?_ | refine Wc.region ?_ | refine Wc.block ?_ | refine then_r ?_ | refine then_e ?_ | refine inb_e rfl ?_ | refine inb_o rfl ?_ | refine inb_n ?_ | refine inb_r ?_ | refine Wc.skip ?_ | refine Wc.exit ?_ | refine Wc.ret ?_ | refine Wc.cond_true rfl ?_ | refine Wc.cond_false rfl ?_ | (refine Wc.drawn (id := 5) 6 (by kernel_rfl) ?_) | (refine Wc.drawn (id := 8) 15 (by kernel_rfl) ?_) | refine WL.skp rfl rfl ?_ | refine WL.sku rfl ?_ | (refine rgs_nil ?_; intro vs wk hE; replace H := H.ext hE; clear hE) | refine RGs.skp (fun _ => rfl) rfl ?_ | (refine RGs.bq (fun _ => rfl) rfl (by intro vs w hE hP; have H := H.ext hE; first | exact dbQ | fail) (fun hc => ?_) (fun hc => ?_) <;> ((try simp only [cmpP, decide_eq_true_eq, decide_eq_false_iff_not, dcd_iff, dcd_no] at hc); try exact prDQ)) | refine RGs.pq (fun _ => rfl) rfl (by intro vs w hE hP; have H := H.ext hE; first | exact dvQ | fail) ?_)
  refine Wc.loopE (fun s0 m s w' => ∃ i j : Nat, m = j - i ∧ i ≤ j ∧ j ≤ ks.length ∧ Agree [9, 10, 11, 15, 16, 17, 18, 19, 20, 21, 22, 23, 24, 25, 26, 27, 28, 29, 30, 31, 32, 33, 34] s s0 ∧ s 9 = .int .i64 i ∧ s 10 = .int .i64 j ∧
    (∀ t (h : t < ks.length), t < i → keyN ks[t] < keyN k) ∧ (∀ t (h : t < ks.length), j ≤ t → keyN k ≤ keyN ks[t]) ∧
    St w [] h0 h0 [.blk bk (.cells (cKey k).toArray 42 (0, 0))] w') ks.length ⟨0, ks.length, rfl, by omega, by omega, Agree.refl _ _, rfl, rfl, fun t h ht => absurd ht (by omega), fun t h ht => absurd h (by omega), H⟩ ?_
  clear H
  rintro m s w' ⟨i, j, rfl, hij, hj, hA, e1, e2, h1, h2, H⟩
  obtain ⟨jj, rfl⟩ := hA.env2 e1 e2
  clear hA e1 e2
  by_cases hlt : i < j
  · obtain ⟨b, off, l, T, fr, rfl, eb, eg⟩ := hr.getM (by decide) (by omega)
    have hfd : ((i : Int) + (j : Int)).fdiv (2 ^ min (1 : Int).toNat IntKind.u64.bits) = (((i + j) / 2 : Nat) : Int) := by
      rw [show (2 : Int) ^ min (1 : Int).toNat IntKind.u64.bits = 2 by decide, Int.fdiv_eq_ediv_of_nonneg _ (by decide)]; omega
    have hm1 : i ≤ (i + j) / 2 := by omega
    have hm2 : (i + j) / 2 < j := by omega
    generalize (i + j) / 2 = m at hfd hm1 hm2
    have g1 := eg (((i : Int) + (j : Int)).fdiv (2 ^ min (1 : Int).toNat IntKind.u64.bits)).toNat m (by omega) (by omega)
    have ho := ordK_lt ks[m] k
    have l1 := cKey_len ks[m]
    repeat' (first | ((first | refine WL.p rfl ?_ | refine WL.u ?_ | refine WL.g rfl rfl ?_ | refine WL.gu rfl ?_); first | (refine opk 1 rfl ?_; (refine ost_VE H (ent_v rfl rfl rfl) (page_order _ _ _) ?_; clear H; intro wk H)) | refine pvQ ?_ | (refine opk 3 rfl ?_; (refine ost_cmp rfl rfl rfl rfl (fun hc => ?_) (fun hc => ?_) <;> (simp only [cmpP] at hc; try exact prIQ))) | (refine opk 4 rfl ?_; (refine ost_cmp rfl rfl rfl rfl (fun hc => ?_) (fun hc => ?_) <;> (simp only [cmpP] at hc; try exact prIQ))) | (refine opk 9 rfl ?_; (refine ost_boxq H rfl ?_; clear H; intro bk wk H))) | refine Wc.seq ?_ | refine then_n ?_ | refine WL.nil ?_ | refine Wc.region ?_ | refine Wc.block ?_ | refine then_r ?_ | refine then_e ?_ | refine inb_e rfl ?_ | refine inb_o rfl ?_ | refine inb_n ?_ | refine inb_r ?_ | refine Wc.skip ?_ | refine Wc.exit ?_ | refine Wc.ret ?_ | refine Wc.cond_true rfl ?_ | refine Wc.cond_false rfl ?_ | (refine Wc.drawn (id := 5) 6 (by kernel_rfl) ?_) | (refine Wc.drawn (id := 8) 15 (by kernel_rfl) ?_) | refine WL.skp rfl rfl ?_ | refine WL.sku rfl ?_ | (refine rgs_nil ?_; intro vs wk hE; replace H := H.ext hE; clear hE) | refine RGs.skp (fun _ => rfl) rfl ?_ | (refine RGs.bq (fun _ => rfl) rfl (by intro vs w hE hP; have H := H.ext hE; first | exact dbQ | fail) (fun hc => ?_) (fun hc => ?_) <;> ((try simp only [cmpP, decide_eq_true_eq, decide_eq_false_iff_not, dcd_iff, dcd_no] at hc); try exact prDQ)) | refine RGs.pq (fun _ => rfl) rfl (by intro vs w hE hP; have H := H.ext hE; first | (refine opk 1 rfl ?_; (exact ost_V0E (ent_v rfl rfl rfl) (page_order _ _ _))) | exact dvQ | fail) ?_)
    · have hc : ordK ks[m] k < 0 := hc
      refine ⟨j - (m + 1), by omega, m + 1, j, rfl, by omega, by omega, by (repeat' (first | exact Agree.refl _ _ | exact Agree.havoc | refine Agree.upd rfl ?_ | refine Agree.hav2 rfl ?_)), ?_, rfl, fun t h ht => ?_, h2, H⟩
      · show Value.int .i64 (_ + 1) = _; rw [hfd]; rfl
      · have h3 := sortedK_mono hsrt (m - t) t (by omega)
        have e : (ks[t + (m - t)]'(by omega)) = ks[m] := by congr 1; omega
        rw [e] at h3
        have := ho.1 hc
        omega
    · have hc : ¬ ordK ks[m] k < 0 := hc
      refine ⟨m - i, by omega, i, m, rfl, by omega, by omega, by (repeat' (first | exact Agree.refl _ _ | exact Agree.havoc | refine Agree.upd rfl ?_ | refine Agree.hav2 rfl ?_)), rfl, ?_, h1, fun t h ht => ?_, H⟩
      · show Value.int .i64 _ = _; rw [hfd]
      · have h3 := sortedK_mono hsrt (t - m) m (by omega)
        have e : (ks[m + (t - m)]'(by omega)) = ks[t] := by congr 1; omega
        rw [e] at h3
        have := fun h => hc (ho.2 h)
        omega
  · obtain rfl : i = j := by omega
    have hcnt := cntK_eq hj h1 h2
    by_cases hn : i < ks.length
    · obtain ⟨b, off, l, T, fr, rfl, eb, eg⟩ := hr.getM (by decide) (by omega)
      have g1 := eg (i : Int).toNat i hn (by omega)
      have ho := ordK_zero ks[i] k
      have l1 := cKey_len ks[i]
      have h3 := h2 i hn (Nat.le_refl _)
      have hh := hasK_at (i := i) h1 hsrt (by
        by_cases h : keyN ks[i] = keyN k
        · exact .inl ⟨hn, h⟩
        · exact .inr fun ⟨_, h⟩ => by omega)
      repeat' (first | ((first | refine WL.p rfl ?_ | refine WL.u ?_ | refine WL.g rfl rfl ?_ | refine WL.gu rfl ?_); first | (refine opk 1 rfl ?_; (refine ost_VE H (ent_v rfl rfl rfl) (page_order _ _ _) ?_; clear H; intro wk H)) | refine pvQ ?_ | (refine opk 3 rfl ?_; (refine ost_cmp rfl rfl rfl rfl (fun hc => ?_) (fun hc => ?_) <;> (simp only [cmpP] at hc; try exact prIQ))) | (refine opk 4 rfl ?_; (refine ost_cmp rfl rfl rfl rfl (fun hc => ?_) (fun hc => ?_) <;> (simp only [cmpP] at hc; try exact prIQ))) | (refine opk 9 rfl ?_; (refine ost_boxq H rfl ?_; clear H; intro bk wk H))) | refine Wc.seq ?_ | refine then_n ?_ | refine WL.nil ?_ | refine Wc.region ?_ | refine Wc.block ?_ | refine then_r ?_ | refine then_e ?_ | refine inb_e rfl ?_ | refine inb_o rfl ?_ | refine inb_n ?_ | refine inb_r ?_ | refine Wc.skip ?_ | refine Wc.exit ?_ | refine Wc.ret ?_ | refine Wc.cond_true rfl ?_ | refine Wc.cond_false rfl ?_ | (refine Wc.drawn (id := 5) 6 (by kernel_rfl) ?_) | (refine Wc.drawn (id := 8) 15 (by kernel_rfl) ?_) | refine WL.skp rfl rfl ?_ | refine WL.sku rfl ?_ | (refine rgs_nil ?_; intro vs wk hE; replace H := H.ext hE; clear hE) | refine RGs.skp (fun _ => rfl) rfl ?_ | (refine RGs.bq (fun _ => rfl) rfl (by intro vs w hE hP; have H := H.ext hE; first | exact dbQ | fail) (fun hc => ?_) (fun hc => ?_) <;> ((try simp only [cmpP, decide_eq_true_eq, decide_eq_false_iff_not, dcd_iff, dcd_no] at hc); try exact prDQ)) | refine RGs.pq (fun _ => rfl) rfl (by intro vs w hE hP; have H := H.ext hE; first | (refine opk 1 rfl ?_; (exact ost_V0E (ent_v rfl rfl rfl) (page_order _ _ _))) | exact dvQ | fail) ?_)
      · have hc : ordK ks[i] k = 0 := hc
        refine fn_ret2 (v1 := .int _ _) (v2 := .bool _) rfl rfl rfl ⟨?_, H.fr⟩
        rw [hcnt, hh.2 ⟨hn, ho.1 hc⟩]
      · have hc : ¬ ordK ks[i] k = 0 := hc
        refine fn_ret2 (v1 := .int _ _) (v2 := .bool _) rfl rfl rfl ⟨?_, H.fr⟩
        have : hasK ks k = false := Bool.eq_false_iff.2 fun h => by obtain ⟨_, h4⟩ := hh.1 h; exact hc (ho.2 h4)
        rw [hcnt, this]
    · have hh := hasK_at (i := i) h1 hsrt (.inr fun ⟨h, _⟩ => hn h)
      have : hasK ks k = false := Bool.eq_false_iff.2 fun h => by obtain ⟨h4, _⟩ := hh.1 h; exact hn h4
      repeat' (first | ((first | refine WL.p rfl ?_ | refine WL.u ?_ | refine WL.g rfl rfl ?_ | refine WL.gu rfl ?_); first | refine pvQ ?_ | (refine opk 3 rfl ?_; (refine ost_cmp rfl rfl rfl rfl (fun hc => ?_) (fun hc => ?_) <;> (simp only [cmpP] at hc; try exact prIQ))) | (refine opk 4 rfl ?_; (refine ost_cmp rfl rfl rfl rfl (fun hc => ?_) (fun hc => ?_) <;> (simp only [cmpP] at hc; try exact prIQ))) | (refine opk 9 rfl ?_; (refine ost_boxq H rfl ?_; clear H; intro bk wk H))) | refine Wc.seq ?_ | refine then_n ?_ | refine WL.nil ?_ | refine Wc.region ?_ | refine Wc.block ?_ | refine then_r ?_ | refine then_e ?_ | refine inb_e rfl ?_ | refine inb_o rfl ?_ | refine inb_n ?_ | refine inb_r ?_ | refine Wc.skip ?_ | refine Wc.exit ?_ | refine Wc.ret ?_ | refine Wc.cond_true rfl ?_ | refine Wc.cond_false rfl ?_ | (refine Wc.drawn (id := 5) 6 (by kernel_rfl) ?_) | (refine Wc.drawn (id := 8) 15 (by kernel_rfl) ?_) | refine WL.skp rfl rfl ?_ | refine WL.sku rfl ?_ | (refine rgs_nil ?_; intro vs wk hE; replace H := H.ext hE; clear hE) | refine RGs.skp (fun _ => rfl) rfl ?_ | (refine RGs.bq (fun _ => rfl) rfl (by intro vs w hE hP; have H := H.ext hE; first | exact dbQ | fail) (fun hc => ?_) (fun hc => ?_) <;> ((try simp only [cmpP, decide_eq_true_eq, decide_eq_false_iff_not, dcd_iff, dcd_no] at hc); try exact prDQ)) | refine RGs.pq (fun _ => rfl) rfl (by intro vs w hE hP; have H := H.ext hE; first | exact dvQ | fail) ?_)
      refine fn_ret2 (v1 := .int _ _) (v2 := .bool _) rfl rfl rfl ⟨?_, H.fr⟩
      rw [hcnt, this]
end Go.Tg

set_option linter.unusedVariables false
set_option linter.unusedSimpArgs false
set_option maxRecDepth 100000
set_option maxHeartbeats 4000000
namespace Go.Tg
open Go Go.Proofs
noncomputable def findP (p : PageT) (k : KeyT) : Nat × Bool := if rightP p = true then (cntK p.keys k, hasK p.keys k) else (0, false)
theorem page_Find (p : PageT) (A : PAd) (k : KeyT) (h0 : FH) (w : World) (hs : Sat h0 w) (hP : PgR h0 p A) : SpecV Tryd.prog 20 #[.agg (pgV p A).toArray, .agg (cKey k).toArray] w (.tuple #[.int .i64 (findP p k).1, .bool (findP p k).2]) := by
  have H := St.start hs
  have hR := page_Right p A h0
  have hq := @rightP_iff p
  have hF : ∀ q, rightP p = q → findP p k = if q = true then (cntK p.keys k, hasK p.keys k) else (0, false) := fun q h => by unfold findP; rw [h]
  generalize rightP p = q at hR hq hF
  rw [hF q rfl]
  clear hF
  obtain ⟨lf, ks, ls, ds⟩ := p
  obtain ⟨ak, ck, al, cl, ad, cd⟩ := A
  have e : pgV ⟨lf, ks, ls, ds⟩ ⟨ak, ck, al, cl, ad, cd⟩ = pgL lf ks.length ls.length ds.length ak ck al cl ad cd := rfl
  rw [e] at hR ⊢
  have lp : (pgL lf ks.length ls.length ds.length ak ck al cl ad cd).length = 4 := rfl
  have lk := cKey_len k
  dsimp only
  unfold SpecV
  refine calls_of Tryd.func20 rfl Tryd.ntmps20 (by simp) ?_
  cases q with
  | false =>
    repeat' (first | ((first | refine WL.p rfl ?_ | refine WL.u ?_); first | (refine opk 1 rfl ?_; (refine ost_V H rfl (hR _ H.sat hP) rfl ?_; clear H; intro wk H)) | refine pvQ ?_ | (refine opk 9 rfl ?_; (refine ost_boxq H rfl ?_; clear H; intro bk wk H))) | refine Wc.seq ?_ | refine then_n ?_ | refine WL.nil ?_ | refine Wc.region ?_ | refine Wc.block ?_ | refine then_r ?_ | refine then_e ?_ | refine inb_e rfl ?_ | refine inb_o rfl ?_ | refine inb_n ?_ | refine inb_r ?_ | refine Wc.skip ?_ | refine Wc.exit ?_ | refine Wc.ret ?_ | refine Wc.cond_true rfl ?_ | refine Wc.cond_false rfl ?_)
    exact fn_ret2 (v1 := .int _ _) (v2 := .bool _) rfl rfl rfl ⟨rfl, H.fr⟩
  | true =>
    obtain ⟨h1, h2⟩ := hq.1 rfl
    have h3 : ks.length ≤ 8 := by
      cases lf
      · exact ((shapeP_F _ _ _).1 h2).2.1
      · exact ((shapeP_T _ _ _).1 h2).1
    repeat' (first | ((first | refine WL.p rfl ?_ | refine WL.u ?_); first | (refine opk 1 rfl ?_; first | (refine ost_V H rfl (hR _ H.sat hP) rfl ?_; clear H; intro wk H) | (refine ost_V H rfl (bsearch ks h1 k _ _ _ _ H.sat hP.k (by omega)) rfl ?_; clear H; intro wk H)) | refine pvQ ?_ | (refine opk 9 rfl ?_; (refine ost_boxq H rfl ?_; clear H; intro bk wk H))) | refine Wc.seq ?_ | refine then_n ?_ | refine WL.nil ?_ | refine Wc.region ?_ | refine Wc.block ?_ | refine then_r ?_ | refine then_e ?_ | refine inb_e rfl ?_ | refine inb_o rfl ?_ | refine inb_n ?_ | refine inb_r ?_ | refine Wc.skip ?_ | refine Wc.exit ?_ | refine Wc.ret ?_ | refine Wc.cond_true rfl ?_ | refine Wc.cond_false rfl ?_)
    exact fn_ret2 (v1 := .int _ _) (v2 := .bool _) rfl rfl rfl ⟨rfl, H.fr⟩
end Go.Tg

