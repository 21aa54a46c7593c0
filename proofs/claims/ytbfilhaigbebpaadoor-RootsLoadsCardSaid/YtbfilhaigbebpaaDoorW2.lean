/- Contracts of Go functions that the laws reach: what each call answers and leaves in memory, for all arguments within the bounds that each theorem names. -/
import Derived.Test.YtbfilhaigbebpaaDoorInst
import Derived.Test.YtbfilhaigbebpaaDoorAuto
import Derived.Test.YtbfilhaigbebpaaDoorL2
import Derived.Test.YtbfilhaigbebpaaDoorSl
import Derived.Test.YtbfilhaigbebpaaDoorV3
set_option linter.unusedVariables false
set_option linter.unusedSimpArgs false
set_option maxRecDepth 100000
set_option maxHeartbeats 4000000
namespace Go.Tg
open Go Go.Proofs
structure LocT where
  seg : UInt32
  at_ : UInt32
def cLoc (l : LocT) : List Value := [.int .u32 l.seg.toNat, .int .u32 l.at_.toNat]
def cKid (x : UInt32) : List Value := [.int .u32 x.toNat]
structure PageT where
  leaf : Bool
  keys : List KeyT
  locs : List LocT
  kids : List UInt32
structure PAd where
  ak : Option Addr
  ck : Nat
  al : Option Addr
  cl : Nat
  ad : Option Addr
  cd : Nat
def pgL (lf : Bool) (nk nl nd : Nat) (ak : Option Addr) (ck : Nat) (al : Option Addr) (cl : Nat) (ad : Option Addr) (cd : Nat) : List Value := [.bool lf, .slice ak nk ck, .slice al nl cl, .slice ad nd cd]
def pgV (p : PageT) (A : PAd) : List Value := [.bool p.leaf, .slice A.ak p.keys.length A.ck, .slice A.al p.locs.length A.cl, .slice A.ad p.kids.length A.cd]
theorem pgV_len (p : PageT) (A : PAd) : (pgV p A).length = 4 := rfl
structure PgR (h : FH) (p : PageT) (A : PAd) : Prop where
  k : Sl h 3 A.ak A.ck (p.keys.map cKey)
  l : Sl h 2 A.al A.cl (p.locs.map cLoc)
  d : Sl h 1 A.ad A.cd (p.kids.map cKid)
theorem PgR.mono {h h' : FH} {p : PageT} {A : PAd} (hle : FLe h h') (r : PgR h p A) : PgR h' p A := ⟨r.k.mono hle, r.l.mono hle, r.d.mono hle⟩
theorem PgR.full {ws w : World} {S : List Nat} {h0 h : FH} {L : List HA} {p : PageT} {A : PAd} (r : PgR h p A) (H : St ws S h0 h L w) : PgR (full w) p A := r.mono H.sat.le
theorem Sl.getM {α : Type} {f : α → List Value} {xs : List α} {h : FH} {sz : Nat} {a : Option Addr} {c : Nat} (r : Sl h sz a c (xs.map f)) (hs : 0 < sz) (hx : 0 < xs.length) :
    ∃ b off l T fr, a = some ⟨b, off, none⟩ ∧ h b = some (.cells (List.toArray l) T fr) ∧ ∀ (m j : Nat) (hj : j < xs.length), m = j → (l.drop (off + m * sz)).take sz = f xs[j] := by
  obtain ⟨b, off, l, T, fr, e1, e2, e3⟩ := r.get hs (i := 0) (by simpa using hx)
  exact ⟨b, off, l, T, fr, e1, e2, fun m j hj hm => by subst hm; have := e3 m (by simpa using hj); rw [this]; simp⟩
theorem Sl.lenM {α : Type} {f : α → List Value} {xs : List α} {h : FH} {sz : Nat} {a : Option Addr} {c : Nat} (r : Sl h sz a c (xs.map f)) : xs.length ≤ c ∧ c ≤ 9223372036854775807 := by
  have h1 := r.le; have h2 := r.mx
  have h9 : (maxLen : Nat) ≤ 9223372036854775807 := by decide
  exact ⟨by simpa using h1, by omega⟩
def sortedK (ks : List KeyT) : Prop := ∀ i (h : i + 1 < ks.length), keyN (ks[i]'(by omega)) < keyN ks[i + 1]
def shapeP (p : PageT) : Prop := if p.leaf = true then p.keys.length ≤ 8 ∧ p.locs.length = p.keys.length ∧ p.kids.length = 0 else 1 ≤ p.keys.length ∧ p.keys.length ≤ 8 ∧ p.kids.length = p.keys.length ∧ p.locs.length = 0
theorem shapeP_T (ks : List KeyT) (ls : List LocT) (ds : List UInt32) : shapeP ⟨true, ks, ls, ds⟩ ↔ ks.length ≤ 8 ∧ ls.length = ks.length ∧ ds.length = 0 := by unfold shapeP; rw [if_pos rfl]
theorem shapeP_F (ks : List KeyT) (ls : List LocT) (ds : List UInt32) : shapeP ⟨false, ks, ls, ds⟩ ↔ 1 ≤ ks.length ∧ ks.length ≤ 8 ∧ ds.length = ks.length ∧ ls.length = 0 := by unfold shapeP; rw [if_neg Bool.false_ne_true]
noncomputable def rightP (p : PageT) : Bool := dcd (sortedK p.keys ∧ shapeP p)
theorem rightP_iff {p : PageT} : rightP p = true ↔ sortedK p.keys ∧ shapeP p := dcd_iff
theorem rightP_no {p : PageT} : rightP p = false ↔ ¬ (sortedK p.keys ∧ shapeP p) := dcd_no
theorem page_Right (p : PageT) (A : PAd) (h0 : FH) (w : World) (hs : Sat h0 w) (hP : PgR h0 p A) : SpecV Tryd.prog 42 #[.agg (pgV p A).toArray] w (.bool (rightP p)) := by
  have H := St.start hs
  obtain ⟨lf, ks, ls, ds⟩ := p
  obtain ⟨ak, ck, al, cl, ad, cd⟩ := A
  rw [show pgV ⟨lf, ks, ls, ds⟩ ⟨ak, ck, al, cl, ad, cd⟩ = pgL lf ks.length ls.length ds.length ak ck al cl ad cd from rfl]
  have lp : (pgL lf ks.length ls.length ds.length ak ck al cl ad cd).length = 4 := rfl
  have q1 := hP.k.lenM
  have q2 := hP.l.lenM
  have q3 := hP.d.lenM
  dsimp only at q1 q2 q3
  unfold SpecV
  refine calls_of Tryd.func42 rfl Tryd.ntmps42 (by simp) ?_
  repeat' (first | ((first | refine WL.p rfl ?_ | refine WL.u ?_ | refine WL.g rfl rfl ?_ | refine WL.gu rfl ?_); first | refine pvQ ?_ | (refine opk 3 rfl ?_; (refine ost_cmp rfl rfl rfl rfl (fun hc => ?_) (fun hc => ?_) <;> (simp only [cmpP] at hc; try exact prIQ))) | (refine opk 4 rfl ?_; (refine ost_cmp rfl rfl rfl rfl (fun hc => ?_) (fun hc => ?_) <;> (simp only [cmpP] at hc; try exact prIQ))) | (refine opk 9 rfl ?_; (refine ost_boxq H rfl ?_; clear H; intro bk wk H))) | refine Wc.seq ?_ | refine then_n ?_ | refine WL.nil ?_ | refine Wc.region ?_ | refine Wc.block ?_ | refine then_r ?_ | refine then_e ?_ | refine inb_e rfl ?_ | refine inb_o rfl ?_ | refine inb_n ?_ | refine inb_r ?_ | refine Wc.skip ?_ | refine Wc.exit ?_ | refine Wc.ret ?_ | refine Wc.cond_true rfl ?_ | refine Wc.cond_false rfl ?_ | (refine Wc.drawn (id := 5) 11 (by kernel_rfl) ?_) | refine WL.skp rfl rfl ?_ | refine WL.sku rfl ?_ | (refine rgs_nil ?_; intro vs wk hE; replace H := H.ext hE; clear hE) | refine RGs.skp (fun _ => rfl) rfl ?_ | (refine RGs.bq (fun _ => rfl) rfl (by intro vs w hE hP; have H := H.ext hE; first | exact dbQ | fail) (fun hc => ?_) (fun hc => ?_) <;> ((try simp only [cmpP, decide_eq_true_eq, decide_eq_false_iff_not, dcd_iff, dcd_no] at hc); try exact prDQ)) | refine RGs.pq (fun _ => rfl) rfl (by intro vs w hE hP; have H := H.ext hE; first | exact dvQ | fail) ?_)
  refine Wc.loopE (fun s0 m s w' => ∃ i : Nat, m = ks.length + 1 - i ∧ 1 ≤ i ∧ i ≤ ks.length + 1 ∧ Agree [2, 4, 8, 9, 10, 11, 12, 13, 14, 15, 16, 17, 18, 19, 20, 21, 22, 23, 24, 25] s s0 ∧ s 4 = .int .i64 i ∧ (∀ j (h : j + 1 < ks.length), j + 1 < i → keyN (ks[j]'(by omega)) < keyN ks[j + 1]) ∧
    St w [] h0 h0 [.blk bk (.cells (pgL lf ks.length ls.length ds.length ak ck al cl ad cd).toArray 59 (0, 0))] w') ks.length ⟨1, rfl, by omega, by omega, Agree.refl _ _, rfl, fun j h hj => absurd hj (by omega), H⟩ ?_
  clear H
  rintro m s w' ⟨i, rfl, h1, h2, hA, e1, hsrt, H⟩
  obtain ⟨j, rfl⟩ := hA.env1 e1
  clear hA e1
  by_cases hlt : i < ks.length
  · obtain ⟨b, off, l, T, fr, e1, eb, eg⟩ := hP.k.getM (by decide) (Nat.lt_of_le_of_lt (Nat.zero_le _) hlt)
    dsimp only at e1 eg
    subst e1
    have g1 := eg ((i : Int) - 1).toNat (i - 1) (by omega) (by omega)
    have g2 := eg (i : Int).toNat i hlt (by omega)
    have hq : lessK ks[i - 1] ks[i] = true ↔ keyN ks[i - 1] < keyN ks[i] := by simp [lessK]
    have l1 := cKey_len ks[i - 1]
    have l2 := cKey_len ks[i]
    cases hlq : lessK ks[i - 1] ks[i] with
    | true =>
      have c1 : ∀ w, SpecV Tryd.prog 43 #[.agg (cKey ks[i - 1]).toArray, .agg (cKey ks[i]).toArray] w (.bool true) := fun w => by
        have := page_Less ks[i - 1] ks[i] w; rw [hlq] at this; exact this
      repeat' (first | ((first | refine WL.p rfl ?_ | refine WL.u ?_ | refine WL.g rfl rfl ?_ | refine WL.gu rfl ?_); first | (refine opk 1 rfl ?_; (refine ost_V H rfl (c1 _) rfl ?_; clear H; intro wk H)) | refine pvQ ?_ | (refine opk 3 rfl ?_; (refine ost_cmp rfl rfl rfl rfl (fun hc => ?_) (fun hc => ?_) <;> (simp only [cmpP] at hc; try exact prIQ))) | (refine opk 4 rfl ?_; (refine ost_cmp rfl rfl rfl rfl (fun hc => ?_) (fun hc => ?_) <;> (simp only [cmpP] at hc; try exact prIQ))) | (refine opk 9 rfl ?_; (refine ost_boxq H rfl ?_; clear H; intro bk wk H))) | refine Wc.seq ?_ | refine then_n ?_ | refine WL.nil ?_ | refine Wc.region ?_ | refine Wc.block ?_ | refine then_r ?_ | refine then_e ?_ | refine inb_e rfl ?_ | refine inb_o rfl ?_ | refine inb_n ?_ | refine inb_r ?_ | refine Wc.skip ?_ | refine Wc.exit ?_ | refine Wc.ret ?_ | refine Wc.cond_true rfl ?_ | refine Wc.cond_false rfl ?_ | (refine Wc.drawn (id := 5) 11 (by kernel_rfl) ?_) | refine WL.skp rfl rfl ?_ | refine WL.sku rfl ?_ | (refine rgs_nil ?_; intro vs wk hE; replace H := H.ext hE; clear hE) | refine RGs.skp (fun _ => rfl) rfl ?_ | (refine RGs.bq (fun _ => rfl) rfl (by intro vs w hE hP; have H := H.ext hE; first | exact dbQ | fail) (fun hc => ?_) (fun hc => ?_) <;> ((try simp only [cmpP, decide_eq_true_eq, decide_eq_false_iff_not, dcd_iff, dcd_no] at hc); try exact prDQ)) | refine RGs.pq (fun _ => rfl) rfl (by intro vs w hE hP; have H := H.ext hE; first | (refine opk 1 rfl ?_; (exact ost_V0d rfl (c1 _) rfl)) | exact dvQ | fail) ?_)
      refine ⟨ks.length + 1 - (i + 1), by omega, i + 1, rfl, by omega, by omega, by (repeat' (first | exact Agree.refl _ _ | exact Agree.havoc | refine Agree.upd rfl ?_ | refine Agree.hav2 rfl ?_)), rfl, fun j h hj => ?_, H⟩
      by_cases hji : j + 1 < i
      · exact hsrt j h hji
      · obtain rfl : j + 1 = i := by omega
        exact hq.1 hlq
    | false =>
      have c1 : ∀ w, SpecV Tryd.prog 43 #[.agg (cKey ks[i - 1]).toArray, .agg (cKey ks[i]).toArray] w (.bool false) := fun w => by
        have := page_Less ks[i - 1] ks[i] w; rw [hlq] at this; exact this
      repeat' (first | ((first | refine WL.p rfl ?_ | refine WL.u ?_ | refine WL.g rfl rfl ?_ | refine WL.gu rfl ?_); first | (refine opk 1 rfl ?_; (refine ost_V H rfl (c1 _) rfl ?_; clear H; intro wk H)) | refine pvQ ?_ | (refine opk 3 rfl ?_; (refine ost_cmp rfl rfl rfl rfl (fun hc => ?_) (fun hc => ?_) <;> (simp only [cmpP] at hc; try exact prIQ))) | (refine opk 4 rfl ?_; (refine ost_cmp rfl rfl rfl rfl (fun hc => ?_) (fun hc => ?_) <;> (simp only [cmpP] at hc; try exact prIQ))) | (refine opk 9 rfl ?_; (refine ost_boxq H rfl ?_; clear H; intro bk wk H))) | refine Wc.seq ?_ | refine then_n ?_ | refine WL.nil ?_ | refine Wc.region ?_ | refine Wc.block ?_ | refine then_r ?_ | refine then_e ?_ | refine inb_e rfl ?_ | refine inb_o rfl ?_ | refine inb_n ?_ | refine inb_r ?_ | refine Wc.skip ?_ | refine Wc.exit ?_ | refine Wc.ret ?_ | refine Wc.cond_true rfl ?_ | refine Wc.cond_false rfl ?_ | (refine Wc.drawn (id := 5) 11 (by kernel_rfl) ?_) | refine WL.skp rfl rfl ?_ | refine WL.sku rfl ?_ | (refine rgs_nil ?_; intro vs wk hE; replace H := H.ext hE; clear hE) | refine RGs.skp (fun _ => rfl) rfl ?_ | (refine RGs.bq (fun _ => rfl) rfl (by intro vs w hE hP; have H := H.ext hE; first | exact dbQ | fail) (fun hc => ?_) (fun hc => ?_) <;> ((try simp only [cmpP, decide_eq_true_eq, decide_eq_false_iff_not, dcd_iff, dcd_no] at hc); try exact prDQ)) | refine RGs.pq (fun _ => rfl) rfl (by intro vs w hE hP; have H := H.ext hE; first | (refine opk 1 rfl ?_; (exact ost_V0d rfl (c1 _) rfl)) | exact dvQ | fail) ?_)
      (first | refine fn_ret1 (v := .bool _) rfl rfl ⟨?_, H.fr⟩ | refine fn_ret1 (v := .int _ _) rfl rfl ⟨?_, H.fr⟩ | refine fn_ret1 (v := .string _) rfl rfl ⟨?_, H.fr⟩); congr 1; symm
      refine rightP_no.2 fun h => ?_
      have h3 := h.1 (i - 1) (by show i - 1 + 1 < ks.length; omega)
      have e9 : (ks[i - 1 + 1]'(by omega)) = ks[i] := by congr 1; omega
      have h4 : keyN ks[i - 1] < keyN (ks[i - 1 + 1]'(by omega)) := h3
      rw [e9] at h4
      rw [hq.2 h4] at hlq; cases hlq
  · have hso : sortedK ks := fun j h => hsrt j h (by omega)
    cases lf
    · have hN := (shapeP_F ks ls ds).1
      have hY := (shapeP_F ks ls ds).2
      repeat' (first | ((first | refine WL.p rfl ?_ | refine WL.u ?_ | refine WL.g rfl rfl ?_ | refine WL.gu rfl ?_); first | refine pvQ ?_ | (refine opk 3 rfl ?_; (refine ost_cmp rfl rfl rfl rfl (fun hc => ?_) (fun hc => ?_) <;> (simp only [cmpP] at hc; try exact prIQ))) | (refine opk 4 rfl ?_; (refine ost_cmp rfl rfl rfl rfl (fun hc => ?_) (fun hc => ?_) <;> (simp only [cmpP] at hc; try exact prIQ))) | (refine opk 9 rfl ?_; (refine ost_boxq H rfl ?_; clear H; intro bk wk H))) | refine Wc.seq ?_ | refine then_n ?_ | refine WL.nil ?_ | refine Wc.region ?_ | refine Wc.block ?_ | refine then_r ?_ | refine then_e ?_ | refine inb_e rfl ?_ | refine inb_o rfl ?_ | refine inb_n ?_ | refine inb_r ?_ | refine Wc.skip ?_ | refine Wc.exit ?_ | refine Wc.ret ?_ | refine Wc.cond_true rfl ?_ | refine Wc.cond_false rfl ?_ | (refine Wc.drawn (id := 5) 11 (by kernel_rfl) ?_) | refine WL.skp rfl rfl ?_ | refine WL.sku rfl ?_ | (refine rgs_nil ?_; intro vs wk hE; replace H := H.ext hE; clear hE) | refine RGs.skp (fun _ => rfl) rfl ?_ | (refine RGs.bq (fun _ => rfl) rfl (by intro vs w hE hP; have H := H.ext hE; first | exact dbQ | fail) (fun hc => ?_) (fun hc => ?_) <;> ((try simp only [cmpP, decide_eq_true_eq, decide_eq_false_iff_not, dcd_iff, dcd_no] at hc); try exact prDQ)) | refine RGs.pq (fun _ => rfl) rfl (by intro vs w hE hP; have H := H.ext hE; first | exact dvQ | fail) ?_)
      all_goals ((first | refine fn_ret1 (v := .bool _) rfl rfl ⟨?_, H.fr⟩ | refine fn_ret1 (v := .int _ _) rfl rfl ⟨?_, H.fr⟩ | refine fn_ret1 (v := .string _) rfl rfl ⟨?_, H.fr⟩); congr 1; symm; first | exact rightP_iff.2 ⟨hso, hY (by omega)⟩ | (refine rightP_no.2 fun h => ?_; have h2 := hN h.2; omega))
    · have hN := (shapeP_T ks ls ds).1
      have hY := (shapeP_T ks ls ds).2
      repeat' (first | ((first | refine WL.p rfl ?_ | refine WL.u ?_ | refine WL.g rfl rfl ?_ | refine WL.gu rfl ?_); first | refine pvQ ?_ | (refine opk 3 rfl ?_; (refine ost_cmp rfl rfl rfl rfl (fun hc => ?_) (fun hc => ?_) <;> (simp only [cmpP] at hc; try exact prIQ))) | (refine opk 4 rfl ?_; (refine ost_cmp rfl rfl rfl rfl (fun hc => ?_) (fun hc => ?_) <;> (simp only [cmpP] at hc; try exact prIQ))) | (refine opk 9 rfl ?_; (refine ost_boxq H rfl ?_; clear H; intro bk wk H))) | refine Wc.seq ?_ | refine then_n ?_ | refine WL.nil ?_ | refine Wc.region ?_ | refine Wc.block ?_ | refine then_r ?_ | refine then_e ?_ | refine inb_e rfl ?_ | refine inb_o rfl ?_ | refine inb_n ?_ | refine inb_r ?_ | refine Wc.skip ?_ | refine Wc.exit ?_ | refine Wc.ret ?_ | refine Wc.cond_true rfl ?_ | refine Wc.cond_false rfl ?_ | (refine Wc.drawn (id := 5) 11 (by kernel_rfl) ?_) | refine WL.skp rfl rfl ?_ | refine WL.sku rfl ?_ | (refine rgs_nil ?_; intro vs wk hE; replace H := H.ext hE; clear hE) | refine RGs.skp (fun _ => rfl) rfl ?_ | (refine RGs.bq (fun _ => rfl) rfl (by intro vs w hE hP; have H := H.ext hE; first | exact dbQ | fail) (fun hc => ?_) (fun hc => ?_) <;> ((try simp only [cmpP, decide_eq_true_eq, decide_eq_false_iff_not, dcd_iff, dcd_no] at hc); try exact prDQ)) | refine RGs.pq (fun _ => rfl) rfl (by intro vs w hE hP; have H := H.ext hE; first | exact dvQ | fail) ?_)
      all_goals ((first | refine fn_ret1 (v := .bool _) rfl rfl ⟨?_, H.fr⟩ | refine fn_ret1 (v := .int _ _) rfl rfl ⟨?_, H.fr⟩ | refine fn_ret1 (v := .string _) rfl rfl ⟨?_, H.fr⟩); congr 1; symm; first | exact rightP_iff.2 ⟨hso, hY (by omega)⟩ | (refine rightP_no.2 fun h => ?_; have h2 := hN h.2; omega))
theorem r13_Right (p : PageT) (A : PAd) (h0 : FH) (w : World) (hs : Sat h0 w) (hP : PgR h0 p A) : SpecV Tryd.prog 64 #[.agg (pgV p A).toArray] w (.bool (rightP p)) := by
  have H := St.start hs
  obtain ⟨lf, ks, ls, ds⟩ := p
  obtain ⟨ak, ck, al, cl, ad, cd⟩ := A
  rw [show pgV ⟨lf, ks, ls, ds⟩ ⟨ak, ck, al, cl, ad, cd⟩ = pgL lf ks.length ls.length ds.length ak ck al cl ad cd from rfl]
  have lp : (pgL lf ks.length ls.length ds.length ak ck al cl ad cd).length = 4 := rfl
  have q1 := hP.k.lenM
  have q2 := hP.l.lenM
  have q3 := hP.d.lenM
  dsimp only at q1 q2 q3
  unfold SpecV
  refine calls_of Tryd.func64 rfl Tryd.ntmps64 (by simp) ?_
  repeat' (first | ((first | refine WL.p rfl ?_ | refine WL.u ?_ | refine WL.g rfl rfl ?_ | refine WL.gu rfl ?_); first | refine pvQ ?_ | (refine opk 3 rfl ?_; (refine ost_cmp rfl rfl rfl rfl (fun hc => ?_) (fun hc => ?_) <;> (simp only [cmpP] at hc; try exact prIQ))) | (refine opk 4 rfl ?_; (refine ost_cmp rfl rfl rfl rfl (fun hc => ?_) (fun hc => ?_) <;> (simp only [cmpP] at hc; try exact prIQ))) | (refine opk 9 rfl ?_; (refine ost_boxq H rfl ?_; clear H; intro bk wk H))) | refine Wc.seq ?_ | refine then_n ?_ | refine WL.nil ?_ | refine Wc.region ?_ | refine Wc.block ?_ | refine then_r ?_ | refine then_e ?_ | refine inb_e rfl ?_ | refine inb_o rfl ?_ | refine inb_n ?_ | refine inb_r ?_ | refine Wc.skip ?_ | refine Wc.exit ?_ | refine Wc.ret ?_ | refine Wc.cond_true rfl ?_ | refine Wc.cond_false rfl ?_ | (refine Wc.drawn (id := 4) 11 (by kernel_rfl) ?_) | refine WL.skp rfl rfl ?_ | refine WL.sku rfl ?_ | (refine rgs_nil ?_; intro vs wk hE; replace H := H.ext hE; clear hE) | refine RGs.skp (fun _ => rfl) rfl ?_ | (refine RGs.bq (fun _ => rfl) rfl (by intro vs w hE hP; have H := H.ext hE; first | exact dbQ | fail) (fun hc => ?_) (fun hc => ?_) <;> ((try simp only [cmpP, decide_eq_true_eq, decide_eq_false_iff_not, dcd_iff, dcd_no] at hc); try exact prDQ)) | refine RGs.pq (fun _ => rfl) rfl (by intro vs w hE hP; have H := H.ext hE; first | exact dvQ | fail) ?_)
  refine Wc.loopE (fun s0 m s w' => ∃ i : Nat, m = ks.length + 1 - i ∧ 1 ≤ i ∧ i ≤ ks.length + 1 ∧ Agree [2, 3, 5, 6, 7, 8, 9, 10, 11, 12, 13, 14, 15, 16, 17, 18, 19, 20, 21, 22, 23, 24] s s0 ∧ s 3 = .int .i64 i ∧ (∀ j (h : j + 1 < ks.length), j + 1 < i → keyN (ks[j]'(by omega)) < keyN ks[j + 1]) ∧
    St w [] h0 h0 [.blk bk (.cells (pgL lf ks.length ls.length ds.length ak ck al cl ad cd).toArray 134 (0, 0))] w') ks.length ⟨1, rfl, by omega, by omega, Agree.refl _ _, rfl, fun j h hj => absurd hj (by omega), H⟩ ?_
  clear H
  rintro m s w' ⟨i, rfl, h1, h2, hA, e1, hsrt, H⟩
  obtain ⟨j, rfl⟩ := hA.env1 e1
  clear hA e1
  by_cases hlt : i < ks.length
  · obtain ⟨b, off, l, T, fr, e1, eb, eg⟩ := hP.k.getM (by decide) (Nat.lt_of_le_of_lt (Nat.zero_le _) hlt)
    dsimp only at e1 eg
    subst e1
    have g1 := eg ((i : Int) - 1).toNat (i - 1) (by omega) (by omega)
    have g2 := eg (i : Int).toNat i hlt (by omega)
    have hq : lessK ks[i - 1] ks[i] = true ↔ keyN ks[i - 1] < keyN ks[i] := by simp [lessK]
    have l1 := cKey_len ks[i - 1]
    have l2 := cKey_len ks[i]
    cases hlq : lessK ks[i - 1] ks[i] with
    | true =>
      have c1 : ∀ w, SpecV Tryd.prog 47 #[.agg (cKey ks[i - 1]).toArray, .agg (cKey ks[i]).toArray] w (.bool true) := fun w => by
        have := r13_Less ks[i - 1] ks[i] w; rw [hlq] at this; exact this
      repeat' (first | ((first | refine WL.p rfl ?_ | refine WL.u ?_ | refine WL.g rfl rfl ?_ | refine WL.gu rfl ?_); first | (refine opk 1 rfl ?_; (refine ost_V H rfl (c1 _) rfl ?_; clear H; intro wk H)) | refine pvQ ?_ | (refine opk 3 rfl ?_; (refine ost_cmp rfl rfl rfl rfl (fun hc => ?_) (fun hc => ?_) <;> (simp only [cmpP] at hc; try exact prIQ))) | (refine opk 4 rfl ?_; (refine ost_cmp rfl rfl rfl rfl (fun hc => ?_) (fun hc => ?_) <;> (simp only [cmpP] at hc; try exact prIQ))) | (refine opk 9 rfl ?_; (refine ost_boxq H rfl ?_; clear H; intro bk wk H))) | refine Wc.seq ?_ | refine then_n ?_ | refine WL.nil ?_ | refine Wc.region ?_ | refine Wc.block ?_ | refine then_r ?_ | refine then_e ?_ | refine inb_e rfl ?_ | refine inb_o rfl ?_ | refine inb_n ?_ | refine inb_r ?_ | refine Wc.skip ?_ | refine Wc.exit ?_ | refine Wc.ret ?_ | refine Wc.cond_true rfl ?_ | refine Wc.cond_false rfl ?_ | (refine Wc.drawn (id := 4) 11 (by kernel_rfl) ?_) | refine WL.skp rfl rfl ?_ | refine WL.sku rfl ?_ | (refine rgs_nil ?_; intro vs wk hE; replace H := H.ext hE; clear hE) | refine RGs.skp (fun _ => rfl) rfl ?_ | (refine RGs.bq (fun _ => rfl) rfl (by intro vs w hE hP; have H := H.ext hE; first | exact dbQ | fail) (fun hc => ?_) (fun hc => ?_) <;> ((try simp only [cmpP, decide_eq_true_eq, decide_eq_false_iff_not, dcd_iff, dcd_no] at hc); try exact prDQ)) | refine RGs.pq (fun _ => rfl) rfl (by intro vs w hE hP; have H := H.ext hE; first | (refine opk 1 rfl ?_; (exact ost_V0d rfl (c1 _) rfl)) | exact dvQ | fail) ?_)
      refine ⟨ks.length + 1 - (i + 1), by omega, i + 1, rfl, by omega, by omega, by (repeat' (first | exact Agree.refl _ _ | exact Agree.havoc | refine Agree.upd rfl ?_ | refine Agree.hav2 rfl ?_)), rfl, fun j h hj => ?_, H⟩
      by_cases hji : j + 1 < i
      · exact hsrt j h hji
      · obtain rfl : j + 1 = i := by omega
        exact hq.1 hlq
    | false =>
      have c1 : ∀ w, SpecV Tryd.prog 47 #[.agg (cKey ks[i - 1]).toArray, .agg (cKey ks[i]).toArray] w (.bool false) := fun w => by
        have := r13_Less ks[i - 1] ks[i] w; rw [hlq] at this; exact this
      repeat' (first | ((first | refine WL.p rfl ?_ | refine WL.u ?_ | refine WL.g rfl rfl ?_ | refine WL.gu rfl ?_); first | (refine opk 1 rfl ?_; (refine ost_V H rfl (c1 _) rfl ?_; clear H; intro wk H)) | refine pvQ ?_ | (refine opk 3 rfl ?_; (refine ost_cmp rfl rfl rfl rfl (fun hc => ?_) (fun hc => ?_) <;> (simp only [cmpP] at hc; try exact prIQ))) | (refine opk 4 rfl ?_; (refine ost_cmp rfl rfl rfl rfl (fun hc => ?_) (fun hc => ?_) <;> (simp only [cmpP] at hc; try exact prIQ))) | (refine opk 9 rfl ?_; (refine ost_boxq H rfl ?_; clear H; intro bk wk H))) | refine Wc.seq ?_ | refine then_n ?_ | refine WL.nil ?_ | refine Wc.region ?_ | refine Wc.block ?_ | refine then_r ?_ | refine then_e ?_ | refine inb_e rfl ?_ | refine inb_o rfl ?_ | refine inb_n ?_ | refine inb_r ?_ | refine Wc.skip ?_ | refine Wc.exit ?_ | refine Wc.ret ?_ | refine Wc.cond_true rfl ?_ | refine Wc.cond_false rfl ?_ | (refine Wc.drawn (id := 4) 11 (by kernel_rfl) ?_) | refine WL.skp rfl rfl ?_ | refine WL.sku rfl ?_ | (refine rgs_nil ?_; intro vs wk hE; replace H := H.ext hE; clear hE) | refine RGs.skp (fun _ => rfl) rfl ?_ | (refine RGs.bq (fun _ => rfl) rfl (by intro vs w hE hP; have H := H.ext hE; first | exact dbQ | fail) (fun hc => ?_) (fun hc => ?_) <;> ((try simp only [cmpP, decide_eq_true_eq, decide_eq_false_iff_not, dcd_iff, dcd_no] at hc); try exact prDQ)) | refine RGs.pq (fun _ => rfl) rfl (by intro vs w hE hP; have H := H.ext hE; first | (refine opk 1 rfl ?_; (exact ost_V0d rfl (c1 _) rfl)) | exact dvQ | fail) ?_)
      (first | refine fn_ret1 (v := .bool _) rfl rfl ⟨?_, H.fr⟩ | refine fn_ret1 (v := .int _ _) rfl rfl ⟨?_, H.fr⟩ | refine fn_ret1 (v := .string _) rfl rfl ⟨?_, H.fr⟩); congr 1; symm
      refine rightP_no.2 fun h => ?_
      have h3 := h.1 (i - 1) (by show i - 1 + 1 < ks.length; omega)
      have e9 : (ks[i - 1 + 1]'(by omega)) = ks[i] := by congr 1; omega
      have h4 : keyN ks[i - 1] < keyN (ks[i - 1 + 1]'(by omega)) := h3
      rw [e9] at h4
      rw [hq.2 h4] at hlq; cases hlq
  · have hso : sortedK ks := fun j h => hsrt j h (by omega)
    cases lf
    · have hN := (shapeP_F ks ls ds).1
      have hY := (shapeP_F ks ls ds).2
      repeat' (first | ((first | refine WL.p rfl ?_ | refine WL.u ?_ | refine WL.g rfl rfl ?_ | refine WL.gu rfl ?_); first | refine pvQ ?_ | (refine opk 3 rfl ?_; (refine ost_cmp rfl rfl rfl rfl (fun hc => ?_) (fun hc => ?_) <;> (simp only [cmpP] at hc; try exact prIQ))) | (refine opk 4 rfl ?_; (refine ost_cmp rfl rfl rfl rfl (fun hc => ?_) (fun hc => ?_) <;> (simp only [cmpP] at hc; try exact prIQ))) | (refine opk 9 rfl ?_; (refine ost_boxq H rfl ?_; clear H; intro bk wk H))) | refine Wc.seq ?_ | refine then_n ?_ | refine WL.nil ?_ | refine Wc.region ?_ | refine Wc.block ?_ | refine then_r ?_ | refine then_e ?_ | refine inb_e rfl ?_ | refine inb_o rfl ?_ | refine inb_n ?_ | refine inb_r ?_ | refine Wc.skip ?_ | refine Wc.exit ?_ | refine Wc.ret ?_ | refine Wc.cond_true rfl ?_ | refine Wc.cond_false rfl ?_ | (refine Wc.drawn (id := 4) 11 (by kernel_rfl) ?_) | refine WL.skp rfl rfl ?_ | refine WL.sku rfl ?_ | (refine rgs_nil ?_; intro vs wk hE; replace H := H.ext hE; clear hE) | refine RGs.skp (fun _ => rfl) rfl ?_ | (refine RGs.bq (fun _ => rfl) rfl (by intro vs w hE hP; have H := H.ext hE; first | exact dbQ | fail) (fun hc => ?_) (fun hc => ?_) <;> ((try simp only [cmpP, decide_eq_true_eq, decide_eq_false_iff_not, dcd_iff, dcd_no] at hc); try exact prDQ)) | refine RGs.pq (fun _ => rfl) rfl (by intro vs w hE hP; have H := H.ext hE; first | exact dvQ | fail) ?_)
      all_goals ((first | refine fn_ret1 (v := .bool _) rfl rfl ⟨?_, H.fr⟩ | refine fn_ret1 (v := .int _ _) rfl rfl ⟨?_, H.fr⟩ | refine fn_ret1 (v := .string _) rfl rfl ⟨?_, H.fr⟩); congr 1; symm; first | exact rightP_iff.2 ⟨hso, hY (by omega)⟩ | (refine rightP_no.2 fun h => ?_; have h2 := hN h.2; omega))
    · have hN := (shapeP_T ks ls ds).1
      have hY := (shapeP_T ks ls ds).2
      repeat' (first | ((first | refine WL.p rfl ?_ | refine WL.u ?_ | refine WL.g rfl rfl ?_ | refine WL.gu rfl ?_); first | refine pvQ ?_ | (refine opk 3 rfl ?_; (refine ost_cmp rfl rfl rfl rfl (fun hc => ?_) (fun hc => ?_) <;> (simp only [cmpP] at hc; try exact prIQ))) | (refine opk 4 rfl ?_; (refine ost_cmp rfl rfl rfl rfl (fun hc => ?_) (fun hc => ?_) <;> (simp only [cmpP] at hc; try exact prIQ))) | (refine opk 9 rfl ?_; (refine ost_boxq H rfl ?_; clear H; intro bk wk H))) | refine Wc.seq ?_ | refine then_n ?_ | refine WL.nil ?_ | refine Wc.region ?_ | refine Wc.block ?_ | refine then_r ?_ | refine then_e ?_ | refine inb_e rfl ?_ | refine inb_o rfl ?_ | refine inb_n ?_ | refine inb_r ?_ | refine Wc.skip ?_ | refine Wc.exit ?_ | refine Wc.ret ?_ | refine Wc.cond_true rfl ?_ | refine Wc.cond_false rfl ?_ | (refine Wc.drawn (id := 4) 11 (by kernel_rfl) ?_) | refine WL.skp rfl rfl ?_ | refine WL.sku rfl ?_ | (refine rgs_nil ?_; intro vs wk hE; replace H := H.ext hE; clear hE) | refine RGs.skp (fun _ => rfl) rfl ?_ | (refine RGs.bq (fun _ => rfl) rfl (by intro vs w hE hP; have H := H.ext hE; first | exact dbQ | fail) (fun hc => ?_) (fun hc => ?_) <;> ((try simp only [cmpP, decide_eq_true_eq, decide_eq_false_iff_not, dcd_iff, dcd_no] at hc); try exact prDQ)) | refine RGs.pq (fun _ => rfl) rfl (by intro vs w hE hP; have H := H.ext hE; first | exact dvQ | fail) ?_)
      all_goals ((first | refine fn_ret1 (v := .bool _) rfl rfl ⟨?_, H.fr⟩ | refine fn_ret1 (v := .int _ _) rfl rfl ⟨?_, H.fr⟩ | refine fn_ret1 (v := .string _) rfl rfl ⟨?_, H.fr⟩); congr 1; symm; first | exact rightP_iff.2 ⟨hso, hY (by omega)⟩ | (refine rightP_no.2 fun h => ?_; have h2 := hN h.2; omega))
end Go.Tg

set_option linter.unusedVariables false
set_option linter.unusedSimpArgs false
set_option maxRecDepth 100000
set_option maxHeartbeats 4000000
namespace Go.Tg
open Go Go.Proofs
def getL : Nat → Nat → List UInt8 → Nat × Nat × Nat
  | _, _, [] => (0, 0, 4)
  | i, acc, c :: r => if 9 < i ∨ (i = 9 ∧ 1 < c.toNat) then (0, 0, 5) else
      if 128 ≤ c.toNat then getL (i + 1) (acc + (c.toNat % 128) * 128 ^ i) r
      else if c.toNat = 0 ∧ 0 < i then (0, 0, 5) else (acc + c.toNat % 128 * 128 ^ i, i + 1, 0)
def getB (b : List UInt8) : Nat × Nat × Nat := getL 0 0 b
theorem getL_le : ∀ (b : List UInt8) (i acc : Nat), (getL i acc b).2.1 ≤ i + b.length
  | [], i, acc => by simp [getL]
  | c :: r, i, acc => by
    have := getL_le r (i + 1) (acc + (c.toNat % 128) * 128 ^ i)
    unfold getL; split
    · simp
    · split
      · simp; omega
      · split <;> simp
theorem getB_le (b : List UInt8) : (getB b).2.1 ≤ b.length := by have := getL_le b 0 0; simpa [getB] using this
theorem pow128 (k : Nat) : 128 ^ k = 2 ^ (7 * k) := by rw [Nat.pow_mul]
theorem pow_le9 {k : Nat} (h : k ≤ 8) : 128 ^ k ≤ 72057594037927936 := Nat.pow_le_pow_right (by omega : 0 < 128) h
theorem getL_lt : ∀ (b : List UInt8) (i acc : Nat), acc < 128 ^ i → i ≤ 9 → (getL i acc b).1 < 18446744073709551616
  | [], i, acc, _, _ => by simp [getL]
  | c :: r, i, acc, h1, h2 => by
    unfold getL
    have hs : acc + (c.toNat % 128) * 128 ^ i < 128 ^ (i + 1) := by
      rw [Nat.pow_succ]
      have : (c.toNat % 128) * 128 ^ i ≤ 127 * 128 ^ i := Nat.mul_le_mul_right _ (by omega)
      omega
    split
    · simp
    · rename_i hn
      split
      · rename_i hc
        have : i ≠ 9 := fun e => hn (.inr ⟨e, by omega⟩)
        exact getL_lt r (i + 1) _ hs (by omega)
      · split
        · simp
        · by_cases h9 : i = 9
          · subst h9
            have h1' : c.toNat ≤ 1 := by omega
            have : (c.toNat % 128) * 128 ^ 9 ≤ 1 * 128 ^ 9 := Nat.mul_le_mul_right _ (by omega)
            have e : (128 : Nat) ^ 9 = 9223372036854775808 := by decide
            rw [e] at this h1
            simp only
            rw [e]
            omega
          · have := pow_le9 (k := i) (by omega)
            have e2 : (c.toNat % 128) * 128 ^ i ≤ 127 * 128 ^ i := Nat.mul_le_mul_right _ (by omega)
            simp only
            omega
theorem getB_lt (b : List UInt8) : (getB b).1 < 18446744073709551616 := getL_lt b 0 0 (by simp) (by omega)
theorem and127_all : (List.range 256).all (fun m => bitv .and .u8 (m : Int) 127 == ((m % 128 : Nat) : Int)) = true := by kernel_rfl
theorem and127 (c : UInt8) : bitv .and .u8 c.toNat 127 = ((c.toNat % 128 : Nat) : Int) := eq_of_beq (List.all_eq_true.1 and127_all c.toNat (List.mem_range.2 c.toNat_lt))
theorem and128_all : (List.range 256).all (fun m => bitv .and .u8 (m : Int) 128 == (((m / 128) * 128 : Nat) : Int)) = true := by kernel_rfl
theorem and128 (c : UInt8) : bitv .and .u8 c.toNat 128 = (((c.toNat / 128) * 128 : Nat) : Int) := eq_of_beq (List.all_eq_true.1 and128_all c.toNat (List.mem_range.2 c.toNat_lt))
theorem wrap64 (n : Int) : IntKind.u64.wrap n = n % 18446744073709551616 := by simp [IntKind.wrap, IntKind.bits, IntKind.signed]
theorem bv_of (n : Nat) : BitVec.ofInt 64 (n : Int) = BitVec.ofNat 64 n := by simp
theorem or_add {a m k : Nat} (h1 : a < 2 ^ k) (h2 : a + m * 2 ^ k < 18446744073709551616) : bitv .or .u64 (a : Int) ((m * 2 ^ k : Nat) : Int) = ((a + m * 2 ^ k : Nat) : Int) := by
  have e : a ||| m * 2 ^ k = a + m * 2 ^ k := by
    rw [Nat.mul_comm, Nat.or_comm, ← Nat.two_pow_add_eq_or_of_lt h1, Nat.add_comm]
  show IntKind.u64.wrap (((BitVec.ofInt 64 (a : Int) ||| BitVec.ofInt 64 ((m * 2 ^ k : Nat) : Int)).toNat : Nat) : Int) = _
  rw [bv_of, bv_of, BitVec.toNat_or, BitVec.toNat_ofNat, BitVec.toNat_ofNat, Nat.mod_eq_of_lt (by omega), Nat.mod_eq_of_lt (by omega), e, wrap64]
  omega
theorem get_step {acc k : Nat} (c : UInt8) (hk : k ≤ 9) (ha : acc < 128 ^ k) (hc : k = 9 → c.toNat ≤ 1) :
    bitv .or .u64 (acc : Int) (IntKind.u64.wrap ((bitv .and .u8 c.toNat 127) * 2 ^ min (Int.toNat (7 * (k : Int))) (IntKind.bits .u64))) = ((acc + c.toNat % 128 * 128 ^ k : Nat) : Int) ∧ acc + c.toNat % 128 * 128 ^ k < 128 ^ (k + 1) := by
  have hs : acc + (c.toNat % 128) * 128 ^ k < 128 ^ (k + 1) := by
    rw [Nat.pow_succ]
    have : (c.toNat % 128) * 128 ^ k ≤ 127 * 128 ^ k := Nat.mul_le_mul_right _ (by omega)
    omega
  refine ⟨?_, hs⟩
  have hb : acc + (c.toNat % 128) * 128 ^ k < 18446744073709551616 := by
    by_cases h9 : k = 9
    · subst h9
      have := hc rfl
      have : (c.toNat % 128) * 128 ^ 9 ≤ 1 * 128 ^ 9 := Nat.mul_le_mul_right _ (by omega)
      have e : (128 : Nat) ^ 9 = 9223372036854775808 := by decide
      rw [e] at this ha ⊢
      omega
    · have := pow_le9 (k := k) (by omega)
      have e2 : (c.toNat % 128) * 128 ^ k ≤ 127 * 128 ^ k := Nat.mul_le_mul_right _ (by omega)
      omega
  have e1 : min (Int.toNat (7 * (k : Int))) (IntKind.bits .u64) = 7 * k := by show min _ 64 = _; omega
  rw [e1, and127]
  have e2 : (((c.toNat % 128 : Nat) : Int) * 2 ^ (7 * k)) = (((c.toNat % 128) * 2 ^ (7 * k) : Nat) : Int) := by simp
  rw [pow128] at hb ha ⊢
  rw [e2, wrap64]
  have e3 : (((c.toNat % 128) * 2 ^ (7 * k) : Nat) : Int) % 18446744073709551616 = (((c.toNat % 128) * 2 ^ (7 * k) : Nat) : Int) := by omega
  rw [e3]
  exact or_add ha hb
theorem vint_Get (h0 : FH) (a : Option Addr) (c : Nat) (xs : List UInt8) (w : World) (hs : Sat h0 w) (hr : BS h0 a c xs) :
    SpecV Tryd.prog 59 #[.slice a xs.length c] w (.tuple #[.int .u64 (getB xs).1, .int .i64 (getB xs).2.1, .int .i64 (getB xs).2.2]) := by
  have H := St.start hs
  have fin : ∀ (x : Nat × Nat × Nat) (n k e : Int), getB xs = x → n = x.1 → k = x.2.1 → e = x.2.2 → Value.tuple #[.int .u64 n, .int .i64 k, .int .i64 e] = .tuple #[.int .u64 (getB xs).1, .int .i64 (getB xs).2.1, .int .i64 (getB xs).2.2] := fun x n k e h1 h2 h3 h4 => by rw [h1, h2, h3, h4]
  unfold SpecV
  refine calls_of Tryd.func59 rfl Tryd.ntmps59 (by simp) ?_
  repeat' (first | ((first | refine WL.p rfl ?_ | refine WL.u ?_ | refine WL.g rfl rfl ?_ | refine WL.gu rfl ?_); first | refine pvQ ?_ | (refine opk 3 rfl ?_; (refine ost_cmp rfl rfl rfl rfl (fun hc => ?_) (fun hc => ?_) <;> (simp only [cmpP] at hc; try exact prIQ))) | (refine opk 4 rfl ?_; (refine ost_cmp rfl rfl rfl rfl (fun hc => ?_) (fun hc => ?_) <;> (simp only [cmpP] at hc; try exact prIQ)))) | refine Wc.seq ?_ | refine then_n ?_ | refine WL.nil ?_ | refine Wc.region ?_ | refine Wc.block ?_ | refine then_r ?_ | refine then_e ?_ | refine inb_e rfl ?_ | refine inb_o rfl ?_ | refine inb_n ?_ | refine inb_r ?_ | refine Wc.skip ?_ | refine Wc.exit ?_ | refine Wc.ret ?_ | refine Wc.cond_true rfl ?_ | refine Wc.cond_false rfl ?_ | refine WL.skp rfl rfl ?_ | refine WL.sku rfl ?_)
  refine Wc.loopE (fun s0 m s w' => ∃ (k acc : Nat), m = xs.length - k ∧ k ≤ xs.length ∧ Agree [2, 3, 4, 5, 6, 7, 10, 11, 12, 13, 14, 15, 16, 17, 18, 19, 20, 21, 22, 23, 24, 25, 26, 27, 28, 29, 30, 31, 32, 33, 34, 35, 36, 37, 38, 39, 40, 41, 42, 43, 44, 45] s s0 ∧ s 10 = .int .i64 k ∧ s 5 = .int .u64 acc ∧ getB xs = getL k acc (xs.drop k) ∧ acc < 128 ^ k ∧ k ≤ 9 ∧
    St w [] h0 h0 [] w') xs.length ⟨0, 0, rfl, by omega, Agree.refl _ _, rfl, rfl, rfl, by simp, by omega, H⟩ ?_
  clear H
  rintro m s w' ⟨k, acc, rfl, hk, hA, e1, e2, hg, hacc, h9, H⟩
  obtain ⟨j, rfl⟩ := hA.env2 e1 e2
  clear hA e1 e2
  by_cases hlt : k < xs.length
  · obtain ⟨b, off, l, T, fr, rfl, eb, eg⟩ := hr.get hlt
    have g1 : l[off + (k : Int).toNat * 1]? = some (.int .u8 (xs[k]).toNat) := by rw [show off + (k : Int).toNat * 1 = off + k by omega]; exact eg k hlt
    rw [List.drop_eq_getElem_cons hlt] at hg
    generalize hx : xs[k] = x at g1 hg
    have hx2 := x.toNat_lt
    have b1 := and127 x; have b2 := and128 x
    repeat' (first | ((first | refine WL.p rfl ?_ | refine WL.u ?_ | refine WL.g rfl rfl ?_ | refine WL.gu rfl ?_); first | refine pvQ ?_ | (refine opk 3 rfl ?_; (refine ost_cmp rfl rfl rfl rfl (fun hc => ?_) (fun hc => ?_) <;> (simp only [cmpP] at hc; try exact prIQ))) | (refine opk 4 rfl ?_; (refine ost_cmp rfl rfl rfl rfl (fun hc => ?_) (fun hc => ?_) <;> (simp only [cmpP] at hc; try exact prIQ)))) | refine Wc.seq ?_ | refine then_n ?_ | refine WL.nil ?_ | refine Wc.region ?_ | refine Wc.block ?_ | refine then_r ?_ | refine then_e ?_ | refine inb_e rfl ?_ | refine inb_o rfl ?_ | refine inb_n ?_ | refine inb_r ?_ | refine Wc.skip ?_ | refine Wc.exit ?_ | refine Wc.ret ?_ | refine Wc.cond_true rfl ?_ | refine Wc.cond_false rfl ?_ | refine WL.skp rfl rfl ?_ | refine WL.sku rfl ?_)
    all_goals first
      | (refine fn_ret3 (v1 := .int _ _) (v2 := .int _ _) (v3 := .int _ _) rfl rfl rfl rfl ⟨fin (0, 0, 5) _ _ _ ?_ rfl rfl rfl, H.fr⟩; rw [hg, getL]; first | rw [if_pos (by omega)] | rw [if_neg (by omega), if_neg (by omega), if_pos (by omega)])
      | (refine fn_ret3 (v1 := .int _ _) (v2 := .int _ _) (v3 := .int _ _) rfl rfl rfl rfl ⟨fin (acc + x.toNat % 128 * 128 ^ k, k + 1, 0) _ _ _ ?_ (get_step x h9 hacc (by omega)).1 rfl rfl, H.fr⟩; rw [hg, getL, if_neg (by omega), if_neg (by omega), if_neg (by omega)])
      | exact ⟨xs.length - (k + 1), by omega, k + 1, _, rfl, by omega, by (repeat' (first | exact Agree.refl _ _ | exact Agree.havoc | refine Agree.upd rfl ?_ | refine Agree.hav2 rfl ?_)), rfl, by rw [← (get_step x h9 hacc (by omega)).1]; rfl, by rw [hg, getL, if_neg (by omega), if_pos (by omega)], (get_step x h9 hacc (by omega)).2, by omega, H⟩
  · obtain rfl : k = xs.length := by omega
    repeat' (first | ((first | refine WL.p rfl ?_ | refine WL.u ?_ | refine WL.g rfl rfl ?_ | refine WL.gu rfl ?_); first | refine pvQ ?_ | (refine opk 3 rfl ?_; (refine ost_cmp rfl rfl rfl rfl (fun hc => ?_) (fun hc => ?_) <;> (simp only [cmpP] at hc; try exact prIQ))) | (refine opk 4 rfl ?_; (refine ost_cmp rfl rfl rfl rfl (fun hc => ?_) (fun hc => ?_) <;> (simp only [cmpP] at hc; try exact prIQ)))) | refine Wc.seq ?_ | refine then_n ?_ | refine WL.nil ?_ | refine Wc.region ?_ | refine Wc.block ?_ | refine then_r ?_ | refine then_e ?_ | refine inb_e rfl ?_ | refine inb_o rfl ?_ | refine inb_n ?_ | refine inb_r ?_ | refine Wc.skip ?_ | refine Wc.exit ?_ | refine Wc.ret ?_ | refine Wc.cond_true rfl ?_ | refine Wc.cond_false rfl ?_ | refine WL.skp rfl rfl ?_ | refine WL.sku rfl ?_)
    refine fn_ret3 (v1 := .int _ _) (v2 := .int _ _) (v3 := .int _ _) rfl rfl rfl rfl ⟨fin (0, 0, 4) _ _ _ ?_ rfl rfl rfl, H.fr⟩
    rw [hg]; simp [getL]

theorem r2_Put (n : Nat) (hn : n < 18446744073709551616) (h0 : FH) (w : World) (hs : Sat h0 w) :
    Spec Tryd.prog 36 #[.int .u64 n] w [] h0 (fun v h' L' => ∃ a' c', v = .slice a' (putB n).length c' ∧ h' = h0 ∧ L' = [own8 v 5 (putB n)]) := by
  have H := St.start hs
  unfold Spec
  refine calls_of Tryd.func36 rfl Tryd.ntmps36 (by simp) ?_
  repeat' (first | ((first | refine WL.p rfl ?_ | refine WL.u ?_); first | refine pvQ ?_ | (refine opk 3 rfl ?_; (refine ost_cmp rfl rfl rfl rfl (fun hc => ?_) (fun hc => ?_) <;> (simp only [cmpP] at hc; try exact prIQ))) | (refine opk 4 rfl ?_; (refine ost_cmp rfl rfl rfl rfl (fun hc => ?_) (fun hc => ?_) <;> (simp only [cmpP] at hc; try exact prIQ))) | (refine opk 9 rfl ?_; (refine ost_build1 H rfl rfl rfl evQ lsQ rfl ?_; clear H; intro bk wk H))) | refine Wc.seq ?_ | refine then_n ?_ | refine WL.nil ?_ | refine Wc.region ?_ | refine Wc.block ?_ | refine then_r ?_ | refine then_e ?_ | refine inb_e rfl ?_ | refine inb_o rfl ?_ | refine inb_n ?_ | refine inb_r ?_ | refine Wc.skip ?_ | refine Wc.exit ?_ | refine Wc.ret ?_ | refine Wc.cond_true rfl ?_ | refine Wc.cond_false rfl ?_)
  have H := H.nil8 5
  refine Wc.loopE (fun s0 m s w' => ∃ (k : Nat) (xs : List UInt8) (a' : Option Addr) (c' : Nat), m = 10 - xs.length ∧ xs.length ≤ 9 ∧ Agree (0 :: [0, 3, 4, 5, 6, 7, 8, 9, 10, 11, 12, 13, 14]) s s0 ∧ s 0 = .int .u64 k ∧ s 3 = .slice a' xs.length c' ∧
    putB n = xs ++ putL (10 - xs.length) k ∧ (k * 128 ^ xs.length ≤ n) ∧ ∃ L', St w [] h0 h0 (own8 (.slice a' xs.length c') 5 xs :: L') w') 10 ⟨n, [], none, 0, rfl, by simp, Agree.refl _ _, rfl, rfl, rfl, by simp, _, H⟩ ?_
  clear H
  rintro m s w' ⟨k, xs, a', c', rfl, hk, hA, e0, e3, hp, hle, L', H⟩
  obtain ⟨j, rfl⟩ := hA.env2 e0 e3
  clear hA e0 e3
  have hkn : k < 18446744073709551616 := by
    have : k * 1 ≤ k * 128 ^ xs.length := Nat.mul_le_mul_left _ (Nat.one_le_pow _ _ (by omega))
    omega
  by_cases hlt : 127 < k
  · repeat' (first | ((first | refine WL.p rfl ?_ | refine WL.u ?_); first | (refine opk 1 rfl ?_; (refine ost_app1 (xs := xs) (y := UInt8.ofNat (k % 128 + 128)) H rfl rfl rfl (by (exact ixQ)) (by (exact ixQ)) (by simp; omega) (by (try simp only [List.length_nil, List.length_append, List.length_cons, List.length_singleton]); omega) ?_; clear H; intro aa ca wk H; simp only [List.set_cons_zero, List.set_cons_succ, List.nil_append] at H)) | refine pvQ ?_ | (refine opk 3 rfl ?_; (refine ost_cmp rfl rfl rfl rfl (fun hc => ?_) (fun hc => ?_) <;> (simp only [cmpP] at hc; try exact prIQ))) | (refine opk 4 rfl ?_; (refine ost_cmp rfl rfl rfl rfl (fun hc => ?_) (fun hc => ?_) <;> (simp only [cmpP] at hc; try exact prIQ))) | (refine opk 9 rfl ?_; (refine ost_build1 H rfl rfl rfl evQ lsQ rfl ?_; clear H; intro bk wk H))) | refine Wc.seq ?_ | refine then_n ?_ | refine WL.nil ?_ | refine Wc.region ?_ | refine Wc.block ?_ | refine then_r ?_ | refine then_e ?_ | refine inb_e rfl ?_ | refine inb_o rfl ?_ | refine inb_n ?_ | refine inb_r ?_ | refine Wc.skip ?_ | refine Wc.exit ?_ | refine Wc.ret ?_ | refine Wc.cond_true rfl ?_ | refine Wc.cond_false rfl ?_)
    obtain ⟨h1, h2, h3⟩ := put_step hn hk hp hle hlt
    exact ⟨_, h3, k / 128, xs ++ [UInt8.ofNat (k % 128 + 128)], aa, ca, rfl, by simpa using h2, by (repeat' (first | exact Agree.refl _ _ | exact Agree.havoc | refine Agree.upd rfl ?_ | refine Agree.hav2 rfl ?_)), rfl, rfl, h1.1, h1.2, _, H.tl⟩
  · repeat' (first | ((first | refine WL.p rfl ?_ | refine WL.u ?_); first | (refine opk 1 rfl ?_; (refine ost_app1 (xs := xs) (y := UInt8.ofNat k) H rfl rfl rfl (by (exact ixQ)) (by (exact ixQ)) (by simp; omega) (by (try simp only [List.length_nil, List.length_append, List.length_cons, List.length_singleton]); omega) ?_; clear H; intro aa ca wk H; simp only [List.set_cons_zero, List.set_cons_succ, List.nil_append] at H)) | refine pvQ ?_ | (refine opk 3 rfl ?_; (refine ost_cmp rfl rfl rfl rfl (fun hc => ?_) (fun hc => ?_) <;> (simp only [cmpP] at hc; try exact prIQ))) | (refine opk 4 rfl ?_; (refine ost_cmp rfl rfl rfl rfl (fun hc => ?_) (fun hc => ?_) <;> (simp only [cmpP] at hc; try exact prIQ))) | (refine opk 9 rfl ?_; (refine ost_build1 H rfl rfl rfl evQ lsQ rfl ?_; clear H; intro bk wk H))) | refine Wc.seq ?_ | refine then_n ?_ | refine WL.nil ?_ | refine Wc.region ?_ | refine Wc.block ?_ | refine then_r ?_ | refine then_e ?_ | refine inb_e rfl ?_ | refine inb_o rfl ?_ | refine inb_n ?_ | refine inb_r ?_ | refine Wc.skip ?_ | refine Wc.exit ?_ | refine Wc.ret ?_ | refine Wc.cond_true rfl ?_ | refine Wc.cond_false rfl ?_)
    have e : putB n = xs ++ [UInt8.ofNat k] := by rw [hp, putL_last (by omega)]
    rw [e]
    exact fn_ret1 (v := .slice _ _ _) rfl rfl ⟨_, _, H.pick 1 rfl, _, _, rfl, rfl, rfl⟩
theorem xor_zero (a : Nat) (h : a < 18446744073709551616) : bitv .xor .u64 (a : Int) 0 = a := by
  show IntKind.u64.wrap (((BitVec.ofInt 64 (a : Int) ^^^ BitVec.ofInt 64 0).toNat : Nat) : Int) = _
  rw [bv_of]
  simp [wrap64]
  omega
def valL : List UInt8 → Nat
  | [] => 0
  | x :: r => x.toNat % 128 + 128 * valL r
theorem valL_app : ∀ (xs : List UInt8) (c : UInt8), valL (xs ++ [c]) = valL xs + c.toNat % 128 * 128 ^ xs.length
  | [], c => by simp [valL]
  | x :: r, c => by
    rw [List.cons_append, valL, valL_app r c, valL, List.length_cons, Nat.pow_succ, Nat.mul_add]
    rw [show c.toNat % 128 * (128 ^ r.length * 128) = 128 * (c.toNat % 128 * 128 ^ r.length) by rw [← Nat.mul_assoc, Nat.mul_comm]]
    omega
theorem putL_val : ∀ (xs : List UInt8) (c : UInt8) (m : Nat), xs.length ≤ m → (∀ x, x ∈ xs → 128 ≤ x.toNat) → c.toNat < 128 → (c.toNat ≠ 0 ∨ xs = []) → putL m (valL (xs ++ [c])) = xs ++ [c]
  | [], c, m, _, _, hc, _ => by
    have e : valL ([] ++ [c]) = c.toNat := by simp [valL]; omega
    rw [e, putL_last hc]; simp
  | x :: r, c, m, hm, hx, hc, h0 => by
    have h0 : c.toNat ≠ 0 := h0.resolve_right (by simp)
    obtain ⟨m, rfl⟩ : ∃ q, m = q + 1 := ⟨m - 1, by simp at hm; omega⟩
    have hr := putL_val r c m (by simpa using hm) (fun y hy => hx y (by simp [hy])) hc (.inl h0)
    have hp : 0 < valL (r ++ [c]) := by
      rw [valL_app]
      have : 1 * 1 ≤ c.toNat % 128 * 128 ^ r.length := Nat.mul_le_mul (by omega) (Nat.one_le_pow _ _ (by omega))
      omega
    have hx1 := hx x (by simp)
    have hx2 := x.toNat_lt
    rw [List.cons_append, valL, putL, if_neg (by omega)]
    have e1 : (x.toNat % 128 + 128 * valL (r ++ [c])) / 128 = valL (r ++ [c]) := by omega
    have e2 : (x.toNat % 128 + 128 * valL (r ++ [c])) % 128 + 128 = x.toNat := by omega
    rw [e1, e2, hr]; simp
theorem putL_end : ∀ (m n : Nat), 0 < n → n < 128 ^ (m + 1) → ∃ ys c, putL m n = ys ++ [c] ∧ c ≠ (0 : UInt8)
  | 0, n, h1, h2 => ⟨[], UInt8.ofNat n, rfl, fun e => by
      have := congrArg UInt8.toNat e
      simp at this; omega⟩
  | m + 1, n, h1, h2 => by
    unfold putL
    split
    · exact ⟨[], _, rfl, fun e => by
        have := congrArg UInt8.toNat e
        simp at this; omega⟩
    · obtain ⟨ys, c, e, hc⟩ := putL_end m (n / 128) (by omega) (by rw [Nat.pow_succ] at h2; omega)
      exact ⟨_ :: ys, c, by rw [e]; rfl, hc⟩
theorem putB_iff {xs : List UInt8} {c : UInt8} {n : Nat} (h9 : xs.length ≤ 9) (hx : ∀ x, x ∈ xs → 128 ≤ x.toNat) (hc : c.toNat < 128) (hn : n = valL (xs ++ [c])) (hb : n < 18446744073709551616) : putB n = xs ++ [c] ↔ ¬ (c.toNat = 0 ∧ 0 < xs.length) := by
  constructor
  · rintro h ⟨h1, h2⟩
    have hc0 : c = 0 := by apply UInt8.toNat_inj.1; simpa using h1
    by_cases hz : n = 0
    · rw [hz, show putB 0 = [0] from rfl, hc0] at h
      have := congrArg List.length h
      simp at this; subst this; simp at h2
    · obtain ⟨ys, d, e, hd⟩ := putL_end 10 n (by omega) (by omega)
      rw [putB, e] at h
      have := (List.append_inj' h rfl).2
      simp at this
      exact hd (this.trans hc0)
  · intro h
    rw [hn]
    refine putL_val xs c 10 (by omega) hx hc ?_
    by_cases h0 : c.toNat = 0
    · exact .inr (List.eq_nil_of_length_eq_zero (by omega))
    · exact .inl h0
theorem r2_Get (h0 : FH) (a : Option Addr) (c : Nat) (xs : List UInt8) (w : World) (hs : Sat h0 w) (hr : BS h0 a c xs) :
    SpecV Tryd.prog 68 #[.slice a xs.length c] w (.tuple #[.int .u64 (getB xs).1, .int .i64 (getB xs).2.1, .int .i64 (getB xs).2.2]) := by
  have H := St.start hs
  have hcap := hr.le
  have hmx := hr.mx
  have fin : ∀ (x : Nat × Nat × Nat) (n k e : Int), getB xs = x → n = x.1 → k = x.2.1 → e = x.2.2 → Value.tuple #[.int .u64 n, .int .i64 k, .int .i64 e] = .tuple #[.int .u64 (getB xs).1, .int .i64 (getB xs).2.1, .int .i64 (getB xs).2.2] := fun x n k e h1 h2 h3 h4 => by rw [h1, h2, h3, h4]
  unfold SpecV
  refine calls_of Tryd.func68 rfl Tryd.ntmps68 (by simp) ?_
  repeat' (first | ((first | refine WL.p rfl ?_ | refine WL.u ?_ | refine WL.g rfl rfl ?_ | refine WL.gu rfl ?_); first | refine pvQ ?_ | (refine opk 3 rfl ?_; first | (refine ost_cmp rfl rfl rfl rfl (fun hc => ?_) (fun hc => ?_) <;> (simp only [cmpP] at hc; try exact prIQ)) | (refine ost_streqB rfl rfl rfl (fun hc => ?_) (fun hc => ?_) <;> try exact prEQ) | (refine ost_strneB rfl rfl rfl (fun hc => ?_) (fun hc => ?_) <;> try exact prEQ) | (refine ost_streq rfl rfl rfl (fun hc => ?_) (fun hc => ?_) <;> try exact absurd rfl hc) | (refine ost_strne rfl rfl rfl (fun hc => ?_) (fun hc => ?_))) | (refine opk 4 rfl ?_; (refine ost_cmp rfl rfl rfl rfl (fun hc => ?_) (fun hc => ?_) <;> (simp only [cmpP] at hc; try exact prIQ)))) | refine Wc.seq ?_ | refine then_n ?_ | refine WL.nil ?_ | refine Wc.region ?_ | refine Wc.block ?_ | refine then_r ?_ | refine then_e ?_ | refine inb_e rfl ?_ | refine inb_o rfl ?_ | refine inb_n ?_ | refine inb_r ?_ | refine Wc.skip ?_ | refine Wc.exit ?_ | refine Wc.ret ?_ | refine Wc.cond_true rfl ?_ | refine Wc.cond_false rfl ?_ | (refine Wc.drawn (id := 12) 8 (by kernel_rfl) ?_) | refine WL.skp rfl rfl ?_ | refine WL.sku rfl ?_ | (refine rgs_nil ?_; intro vs wk hE; replace H := H.ext hE; clear hE) | refine RGs.skp (fun _ => rfl) rfl ?_ | (refine RGs.bq (fun _ => rfl) rfl (by intro vs w hE hP; have H := H.ext hE; first | exact dbQ | fail) (fun hc => ?_) (fun hc => ?_) <;> ((try simp only [cmpP, decide_eq_true_eq, decide_eq_false_iff_not, dcd_iff, dcd_no] at hc); try exact prDQ)) | refine RGs.pq (fun _ => rfl) rfl (by intro vs w hE hP; have H := H.ext hE; first | exact dvQ | fail) ?_)
  refine Wc.loopE (fun s0 m s w' => ∃ (k acc S : Nat), m = xs.length - k ∧ k ≤ xs.length ∧ Agree [2, 3, 4, 5, 6, 7, 8, 9, 10, 11, 12, 13, 14, 15, 16, 17, 18, 19, 20, 21, 22, 23, 24, 25, 26, 27, 28, 29, 30, 31, 32, 33, 34, 35, 36, 37, 38, 39, 40, 41, 42, 43, 44, 45, 46, 47, 48, 49, 50, 51, 52, 53] s s0 ∧ s 7 = .int .i64 k ∧ s 5 = .int .u64 acc ∧ s 6 = .int .u64 S ∧ S = 128 ^ k ∧ getB xs = getL k acc (xs.drop k) ∧ acc < 128 ^ k ∧ k ≤ 9 ∧
    acc = valL (xs.take k) ∧ (∀ x, x ∈ xs.take k → 128 ≤ x.toNat) ∧ St w [] h0 h0 [] w') xs.length ⟨0, 0, 1, rfl, by omega, Agree.refl _ _, rfl, rfl, rfl, rfl, rfl, by simp, by omega, rfl, by simp, H⟩ ?_
  clear H
  rintro m s w' ⟨k, acc, S, rfl, hk, hA, e1, e2, e3, hS, hg, hacc, h9, hv, hx, H⟩
  obtain ⟨j, rfl⟩ := hA.env3 e1 e2 e3
  clear hA e1 e2 e3
  by_cases hlt : k < xs.length
  · obtain ⟨b, off, l, T, fr, rfl, eb, eg⟩ := hr.get hlt
    have g1 : l[off + (k : Int).toNat * 1]? = some (.int .u8 (xs[k]).toNat) := by rw [show off + (k : Int).toNat * 1 = off + k by omega]; exact eg k hlt
    rw [List.drop_eq_getElem_cons hlt] at hg
    have ht : xs.take (k + 1) = xs.take k ++ [xs[k]] := by rw [List.take_add_one, List.getElem?_eq_getElem hlt]; rfl
    have htl : (xs.take k).length = k := by simp; omega
    generalize hx9 : xs[k] = x at g1 hg ht
    have hx2 := x.toNat_lt
    have hst : ∀ hb : k = 9 → x.toNat ≤ 1, acc + x.toNat % 128 * 128 ^ k < 18446744073709551616 := fun hb => by
      by_cases h : k = 9
      · subst h
        have := hb rfl
        have : (x.toNat % 128) * 128 ^ 9 ≤ 1 * 128 ^ 9 := Nat.mul_le_mul_right _ (by omega)
        have e : (128 : Nat) ^ 9 = 9223372036854775808 := by decide
        rw [e] at this hacc ⊢
        omega
      · have := pow_le9 (k := k) (by omega)
        have e2 : (x.toNat % 128) * 128 ^ k ≤ 127 * 128 ^ k := Nat.mul_le_mul_right _ (by omega)
        omega
    have hnext : acc + x.toNat % 128 * 128 ^ k < 128 ^ (k + 1) := by
      rw [Nat.pow_succ]
      have : (x.toNat % 128) * 128 ^ k ≤ 127 * 128 ^ k := Nat.mul_le_mul_right _ (by omega)
      omega
    rw [← hS] at hst hacc hnext
    by_cases hb : k = 9 ∧ 1 < x.toNat
    · repeat' (first | ((first | refine WL.p rfl ?_ | refine WL.u ?_ | refine WL.g rfl rfl ?_ | refine WL.gu rfl ?_); first | refine pvQ ?_ | (refine opk 3 rfl ?_; first | (refine ost_cmp rfl rfl rfl rfl (fun hc => ?_) (fun hc => ?_) <;> (simp only [cmpP] at hc; try exact prIQ)) | (refine ost_streqB rfl rfl rfl (fun hc => ?_) (fun hc => ?_) <;> try exact prEQ) | (refine ost_strneB rfl rfl rfl (fun hc => ?_) (fun hc => ?_) <;> try exact prEQ) | (refine ost_streq rfl rfl rfl (fun hc => ?_) (fun hc => ?_) <;> try exact absurd rfl hc) | (refine ost_strne rfl rfl rfl (fun hc => ?_) (fun hc => ?_))) | (refine opk 4 rfl ?_; (refine ost_cmp rfl rfl rfl rfl (fun hc => ?_) (fun hc => ?_) <;> (simp only [cmpP] at hc; try exact prIQ)))) | refine Wc.seq ?_ | refine then_n ?_ | refine WL.nil ?_ | refine Wc.region ?_ | refine Wc.block ?_ | refine then_r ?_ | refine then_e ?_ | refine inb_e rfl ?_ | refine inb_o rfl ?_ | refine inb_n ?_ | refine inb_r ?_ | refine Wc.skip ?_ | refine Wc.exit ?_ | refine Wc.ret ?_ | refine Wc.cond_true rfl ?_ | refine Wc.cond_false rfl ?_ | (refine Wc.drawn (id := 12) 8 (by kernel_rfl) ?_) | refine WL.skp rfl rfl ?_ | refine WL.sku rfl ?_ | (refine rgs_nil ?_; intro vs wk hE; replace H := H.ext hE; clear hE) | refine RGs.skp (fun _ => rfl) rfl ?_ | (refine RGs.bq (fun _ => rfl) rfl (by intro vs w hE hP; have H := H.ext hE; first | exact dbQ | fail) (fun hc => ?_) (fun hc => ?_) <;> ((try simp only [cmpP, decide_eq_true_eq, decide_eq_false_iff_not, dcd_iff, dcd_no] at hc); try exact prDQ)) | refine RGs.pq (fun _ => rfl) rfl (by intro vs w hE hP; have H := H.ext hE; first | exact dvQ | fail) ?_)
      refine fn_ret3 (v1 := .int _ _) (v2 := .int _ _) (v3 := .int _ _) rfl rfl rfl rfl ⟨fin (0, 0, 5) _ _ _ ?_ rfl rfl rfl, H.fr⟩
      rw [hg, getL, if_pos (by omega)]
    · have hst := hst (by omega)
      have p1 : ((x.toNat : Int) % 128) * (S : Int) = ((x.toNat % 128 * S : Nat) : Int) := by simp
      have p2 : 0 ≤ x.toNat % 128 * S := Nat.zero_le _
      have p1' : (acc : Int) + ((x.toNat : Int) % 128) * (S : Int) = ((acc + x.toNat % 128 * S : Nat) : Int) := by omega
      by_cases hc : x.toNat < 128
      · have hq := putB_iff (xs := xs.take k) (c := x) (n := acc + x.toNat % 128 * S) (by omega) hx hc (by rw [valL_app, htl, hv, hS]) hst
        rw [htl] at hq
        repeat' (first | ((first | refine WL.p rfl ?_ | refine WL.u ?_ | refine WL.g rfl rfl ?_ | refine WL.gu rfl ?_); first | refine pvQ ?_ | (refine opk 3 rfl ?_; first | (refine ost_cmp rfl rfl rfl rfl (fun hc => ?_) (fun hc => ?_) <;> (simp only [cmpP] at hc; try exact prIQ)) | (refine ost_streqB rfl rfl rfl (fun hc => ?_) (fun hc => ?_) <;> try exact prEQ) | (refine ost_strneB rfl rfl rfl (fun hc => ?_) (fun hc => ?_) <;> try exact prEQ) | (refine ost_streq rfl rfl rfl (fun hc => ?_) (fun hc => ?_) <;> try exact absurd rfl hc) | (refine ost_strne rfl rfl rfl (fun hc => ?_) (fun hc => ?_))) | (refine opk 4 rfl ?_; (refine ost_cmp rfl rfl rfl rfl (fun hc => ?_) (fun hc => ?_) <;> (simp only [cmpP] at hc; try exact prIQ)))) | refine Wc.seq ?_ | refine then_n ?_ | refine WL.nil ?_ | refine Wc.region ?_ | refine Wc.block ?_ | refine then_r ?_ | refine then_e ?_ | refine inb_e rfl ?_ | refine inb_o rfl ?_ | refine inb_n ?_ | refine inb_r ?_ | refine Wc.skip ?_ | refine Wc.exit ?_ | refine Wc.ret ?_ | refine Wc.cond_true rfl ?_ | refine Wc.cond_false rfl ?_ | (refine Wc.drawnB (id := 12) 8 [(1, putB (acc + x.toNat % 128 * S))] (by kernel_rfl) ?_) | refine WL.skp rfl rfl ?_ | refine WL.sku rfl ?_ | (refine rgs_nil ?_; intro vs wk hE; replace H := H.ext hE; clear hE) | refine RGs.skp (fun _ => rfl) rfl ?_ | (refine RGs.bq (fun _ => rfl) rfl (by intro vs w hE hP; have H := H.ext hE; first | exact dbQ | fail) (fun hc => ?_) (fun hc => ?_) <;> ((try simp only [cmpP, decide_eq_true_eq, decide_eq_false_iff_not, dcd_iff, dcd_no] at hc); try exact prDQ)) | refine RGs.pq (fun _ => rfl) rfl (by intro vs w hE hP; have H := H.ext hE; first | (refine opk 6 rfl ?_; (refine ost_toStrN (xs := xs.take (k + 1)) rfl rfl (by first | rfl | (simp; omega)) ((hr.take (k + 1)).full H) ?_; exact ⟨Fr.refl _ _, rfl⟩)) | (refine ost_toStrV rfl (pf_B hP 1 (by kernel_rfl) rfl rfl) ?_; exact ⟨Fr.refl _ _, rfl⟩) | exact dvQ | fail) ?_ | refine RGs.sq (fun _ => rfl) rfl (by intro vs w hE hP; have H := H.ext hE; first | (refine ost_B rfl (r2_Put (acc + x.toNat % 128 * S) hst _ _ (sat_full _)) rfl (fun _ _ _ ⟨_, _, _, _, e⟩ => e) ?_; intro vk wk hX hB; exact ⟨hX, hB⟩) | fail) ?_)
        all_goals (simp only [ht, ne_eq, hq, Classical.not_not] at hc)
        all_goals first
          | (refine fn_ret3 (v1 := .int _ _) (v2 := .int _ _) (v3 := .int _ _) rfl rfl rfl rfl ⟨fin (0, 0, 5) _ _ _ ?_ rfl rfl rfl, H.fr⟩; rw [hg, getL, if_neg (by omega), if_neg (by omega), if_pos (by omega)])
          | (refine fn_ret3 (v1 := .int _ _) (v2 := .int _ _) (v3 := .int _ _) rfl rfl rfl rfl ⟨fin (acc + x.toNat % 128 * 128 ^ k, k + 1, 0) _ _ _ ?_ (by rw [← hS]; omega) rfl rfl, H.fr⟩; rw [hg, getL, if_neg (by omega), if_neg (by omega), if_neg (by omega)])
      · repeat' (first | ((first | refine WL.p rfl ?_ | refine WL.u ?_ | refine WL.g rfl rfl ?_ | refine WL.gu rfl ?_); first | refine pvQ ?_ | (refine opk 3 rfl ?_; first | (refine ost_cmp rfl rfl rfl rfl (fun hc => ?_) (fun hc => ?_) <;> (simp only [cmpP] at hc; try exact prIQ)) | (refine ost_streqB rfl rfl rfl (fun hc => ?_) (fun hc => ?_) <;> try exact prEQ) | (refine ost_strneB rfl rfl rfl (fun hc => ?_) (fun hc => ?_) <;> try exact prEQ) | (refine ost_streq rfl rfl rfl (fun hc => ?_) (fun hc => ?_) <;> try exact absurd rfl hc) | (refine ost_strne rfl rfl rfl (fun hc => ?_) (fun hc => ?_))) | (refine opk 4 rfl ?_; (refine ost_cmp rfl rfl rfl rfl (fun hc => ?_) (fun hc => ?_) <;> (simp only [cmpP] at hc; try exact prIQ)))) | refine Wc.seq ?_ | refine then_n ?_ | refine WL.nil ?_ | refine Wc.region ?_ | refine Wc.block ?_ | refine then_r ?_ | refine then_e ?_ | refine inb_e rfl ?_ | refine inb_o rfl ?_ | refine inb_n ?_ | refine inb_r ?_ | refine Wc.skip ?_ | refine Wc.exit ?_ | refine Wc.ret ?_ | refine Wc.cond_true rfl ?_ | refine Wc.cond_false rfl ?_ | (refine Wc.drawn (id := 12) 8 (by kernel_rfl) ?_) | refine WL.skp rfl rfl ?_ | refine WL.sku rfl ?_ | (refine rgs_nil ?_; intro vs wk hE; replace H := H.ext hE; clear hE) | refine RGs.skp (fun _ => rfl) rfl ?_ | (refine RGs.bq (fun _ => rfl) rfl (by intro vs w hE hP; have H := H.ext hE; first | exact dbQ | fail) (fun hc => ?_) (fun hc => ?_) <;> ((try simp only [cmpP, decide_eq_true_eq, decide_eq_false_iff_not, dcd_iff, dcd_no] at hc); try exact prDQ)) | refine RGs.pq (fun _ => rfl) rfl (by intro vs w hE hP; have H := H.ext hE; first | exact dvQ | fail) ?_)
        have hk9 : k ≠ 9 := by omega
        have e1 : IntKind.u64.wrap ((S : Int) * 128) = ((S * 128 : Nat) : Int) := by
          have := pow_le9 (k := k) (by omega)
          rw [← hS] at this; rw [wrap64]; omega
        exact ⟨xs.length - (k + 1), by omega, k + 1, _, _, rfl, by omega, by (repeat' (first | exact Agree.refl _ _ | exact Agree.havoc | refine Agree.upd rfl ?_ | refine Agree.hav2 rfl ?_)), rfl, by rw [← p1']; rfl, by rw [← e1]; rfl, by rw [hS, Nat.pow_succ], by rw [hg, getL, if_neg (by omega), if_pos (by omega), ← hS], hnext, by omega, by rw [ht, valL_app, htl, ← hv, ← hS], fun y hy => by
          rw [ht, List.mem_append] at hy
          rcases hy with hy | hy
          · exact hx y hy
          · simp at hy; subst hy; omega, H⟩
  · obtain rfl : k = xs.length := by omega
    repeat' (first | ((first | refine WL.p rfl ?_ | refine WL.u ?_ | refine WL.g rfl rfl ?_ | refine WL.gu rfl ?_); first | refine pvQ ?_ | (refine opk 3 rfl ?_; first | (refine ost_cmp rfl rfl rfl rfl (fun hc => ?_) (fun hc => ?_) <;> (simp only [cmpP] at hc; try exact prIQ)) | (refine ost_streqB rfl rfl rfl (fun hc => ?_) (fun hc => ?_) <;> try exact prEQ) | (refine ost_strneB rfl rfl rfl (fun hc => ?_) (fun hc => ?_) <;> try exact prEQ) | (refine ost_streq rfl rfl rfl (fun hc => ?_) (fun hc => ?_) <;> try exact absurd rfl hc) | (refine ost_strne rfl rfl rfl (fun hc => ?_) (fun hc => ?_))) | (refine opk 4 rfl ?_; (refine ost_cmp rfl rfl rfl rfl (fun hc => ?_) (fun hc => ?_) <;> (simp only [cmpP] at hc; try exact prIQ)))) | refine Wc.seq ?_ | refine then_n ?_ | refine WL.nil ?_ | refine Wc.region ?_ | refine Wc.block ?_ | refine then_r ?_ | refine then_e ?_ | refine inb_e rfl ?_ | refine inb_o rfl ?_ | refine inb_n ?_ | refine inb_r ?_ | refine Wc.skip ?_ | refine Wc.exit ?_ | refine Wc.ret ?_ | refine Wc.cond_true rfl ?_ | refine Wc.cond_false rfl ?_ | (refine Wc.drawn (id := 12) 8 (by kernel_rfl) ?_) | refine WL.skp rfl rfl ?_ | refine WL.sku rfl ?_ | (refine rgs_nil ?_; intro vs wk hE; replace H := H.ext hE; clear hE) | refine RGs.skp (fun _ => rfl) rfl ?_ | (refine RGs.bq (fun _ => rfl) rfl (by intro vs w hE hP; have H := H.ext hE; first | exact dbQ | fail) (fun hc => ?_) (fun hc => ?_) <;> ((try simp only [cmpP, decide_eq_true_eq, decide_eq_false_iff_not, dcd_iff, dcd_no] at hc); try exact prDQ)) | refine RGs.pq (fun _ => rfl) rfl (by intro vs w hE hP; have H := H.ext hE; first | exact dvQ | fail) ?_)
    refine fn_ret3 (v1 := .int _ _) (v2 := .int _ _) (v3 := .int _ _) rfl rfl rfl rfl ⟨fin (0, 0, 4) _ _ _ ?_ rfl rfl rfl, H.fr⟩
    rw [hg]; simp [getL]
end Go.Tg

set_option linter.unusedVariables false
set_option linter.unusedSimpArgs false
set_option maxRecDepth 100000
set_option maxHeartbeats 4000000
namespace Go.Tg
open Go Go.Proofs
def fieldB (xs : List UInt8) : List UInt8 := putB xs.length ++ xs
abbrev rdr (b : Nat) (made : Bool) (e : Int) (a : Option Addr) (n c : Nat) : HA := .blk b (.cells [.bool made, .int .i64 e, .slice a n c].toArray 160 (0, 0))
theorem pack_Read (h0 : FH) (a : Option Addr) (c : Nat) (xs : List UInt8) (w : World) (hs : Sat h0 w) (hr : BS h0 a c xs) (hb : xs.length ≤ 1000000000) :
    Spec Tryd.prog 39 #[.slice a xs.length c] w [] h0 (fun v h' L' => ∃ b a' c', v = pt b ∧ BS h' a' c' xs ∧ L' = [rdr b true 0 a' xs.length c']) := by
  have H := St.start hs
  unfold Spec
  refine calls_of Tryd.func39 rfl Tryd.ntmps39 (by simp) ?_
  repeat' (first | ((first | refine WL.p rfl ?_ | refine WL.u ?_); first | (refine opk 1 rfl ?_; (refine ost_Sk H rfl (clone8 _ _ _ _ _ H.sat hr hb) rfl ?_; clear H; rintro vk wk hfk Lk ⟨a1, c1, rfl, rfl, rfl⟩ hle H; simp only [List.cons_append, List.nil_append] at H)) | refine pvQ ?_ | (refine opk 9 rfl ?_; (refine ost_boxq H rfl ?_; clear H; intro bk wk H))) | refine Wc.seq ?_ | refine then_n ?_ | refine WL.nil ?_ | refine Wc.region ?_ | refine Wc.block ?_ | refine then_r ?_ | refine then_e ?_ | refine inb_e rfl ?_ | refine inb_o rfl ?_ | refine inb_n ?_ | refine inb_r ?_ | refine Wc.skip ?_ | refine Wc.exit ?_ | refine Wc.ret ?_ | refine Wc.cond_true rfl ?_ | refine Wc.cond_false rfl ?_)
  obtain ⟨a2, c2, h2, e2, hle2, hr2, H⟩ := (H.front 1 rfl).freeze8
  cases e2
  exact fn_ret1 (v := .pointer _) rfl rfl ⟨_, _, H, _, _, _, rfl, hr2, rfl⟩
def numE (e : Int) (xs : List UInt8) : Nat × Int × Int × List UInt8 :=
  if e ≠ 0 then (0, e, e, xs) else if (getB xs).2.2 ≠ 0 then (0, (((getB xs).2.2 : Nat) : Int), (((getB xs).2.2 : Nat) : Int), xs) else ((getB xs).1, 0, 0, xs.drop (getB xs).2.1)
theorem numE_lt (e : Int) (xs : List UInt8) : (numE e xs).1 < 18446744073709551616 := by
  have := getB_lt xs
  unfold numE; split
  · simp
  · split <;> simp; omega
theorem rd_Num (b : Nat) (e : Int) (a : Option Addr) (c : Nat) (xs : List UInt8) (g : FH) (w : World) (HO : St w [b] g g [rdr b true e a xs.length c] w) (hr : BS g a c xs) :
    Spec Tryd.prog 50 #[pt b] w [b] g (fun v' h' L' => v' = .tuple #[.int .u64 (numE e xs).1, .int .i64 (numE e xs).2.1] ∧ h' = g ∧ ∃ a' c', BS g a' c' (numE e xs).2.2.2 ∧ L' = [rdr b true (numE e xs).2.2.1 a' (numE e xs).2.2.2.length c']) := by
  have H := HO
  have hl := getB_le xs
  have hcap := hr.le
  unfold Spec
  refine calls_of Tryd.func50 rfl Tryd.ntmps50 (by simp) ?_
  by_cases he : e = 0
  · subst he
    by_cases hg : (getB xs).2.2 = 0
    · have en : numE 0 xs = ((getB xs).1, 0, 0, xs.drop (getB xs).2.1) := by unfold numE; rw [if_neg (by simp), if_neg (by simpa using hg)]
      rw [en]
      have hg' : (((getB xs).2.2 : Nat) : Int) = 0 := by omega
      repeat' (first | ((first | refine WL.p rfl ?_ | refine WL.u ?_ | refine WL.g rfl rfl ?_ | refine WL.gu rfl ?_); first | (refine opk 1 rfl ?_; (refine ost_V H rfl (vint_Get _ _ _ _ _ H.sat hr) rfl ?_; clear H; intro wk H)) | refine pvQ ?_ | (refine opk 3 rfl ?_; first | (refine ost_cmp rfl rfl rfl rfl (fun hc => ?_) (fun hc => ?_) <;> (simp only [cmpP] at hc; try exact prIQ)) | (refine ost_ptEq rfl rfl rfl (fun hc => ?_) (fun hc => ?_) <;> try (simp at hc; done)) | (refine ost_ptNe rfl rfl rfl (fun hc => ?_) (fun hc => ?_) <;> try (simp at hc; done))) | (refine opk 4 rfl ?_; (refine ost_cmp rfl rfl rfl rfl (fun hc => ?_) (fun hc => ?_) <;> (simp only [cmpP] at hc; try exact prIQ))) | (refine opk 8 rfl ?_; (refine ost_store1 H rfl rfl vlQ gvQ ixQ (by first | decide | (simp; omega) | (simp; done) | omega) ?_; clear H; intro wk H; simp only [List.set_cons_zero, List.set_cons_succ, Nat.reduceAdd] at H))) | refine Wc.seq ?_ | refine then_n ?_ | refine WL.nil ?_ | refine Wc.region ?_ | refine Wc.block ?_ | refine then_r ?_ | refine then_e ?_ | refine inb_e rfl ?_ | refine inb_o rfl ?_ | refine inb_n ?_ | refine inb_r ?_ | refine Wc.skip ?_ | refine Wc.exit ?_ | refine Wc.ret ?_ | refine Wc.cond_true rfl ?_ | refine Wc.cond_false rfl ?_ | (refine Wc.drawn (id := 4) 6 (by kernel_rfl) ?_) | refine WL.skp rfl rfl ?_ | refine WL.sku rfl ?_ | (refine rgs_nil ?_; intro vs wk hE; replace H := H.ext hE; clear hE) | refine RGs.skp (fun _ => rfl) rfl ?_ | (refine RGs.bq (fun _ => rfl) rfl (by intro vs w hE hP; have H := H.ext hE; first | exact dbQ | fail) (fun hc => ?_) (fun hc => ?_) <;> ((try simp only [cmpP, decide_eq_true_eq, decide_eq_false_iff_not, dcd_iff, dcd_no] at hc); try exact prDQ)) | refine RGs.pq (fun _ => rfl) rfl (by intro vs w hE hP; have H := H.ext hE; first | exact dvQ | fail) ?_)
      exact fn_ret2 (v1 := .int _ _) (v2 := .int _ _) rfl rfl rfl ⟨_, _, H, rfl, rfl, _, _, hr.drop hl, by rw [List.length_drop]; rfl⟩
    · have en : numE 0 xs = (0, (((getB xs).2.2 : Nat) : Int), (((getB xs).2.2 : Nat) : Int), xs) := by unfold numE; rw [if_neg (by simp), if_pos (by simpa using hg)]
      rw [en]
      have hg' : ¬ (((getB xs).2.2 : Nat) : Int) = 0 := by omega
      repeat' (first | ((first | refine WL.p rfl ?_ | refine WL.u ?_ | refine WL.g rfl rfl ?_ | refine WL.gu rfl ?_); first | (refine opk 1 rfl ?_; first | (refine ost_V H rfl (vint_Get _ _ _ _ _ H.sat hr) rfl ?_; clear H; intro wk H) | (refine ost_O (A := .blk _ _) H rfl (by (exact ixQ)) (fun HO => stop_fail _ _ _ _ _ _ _ _ HO rfl) rfl ?_; clear H; rintro vk wk hfk Lk ⟨rfl, rfl⟩ H; simp only [List.cons_append, List.nil_append, List.eraseIdx_cons_zero, List.eraseIdx_cons_succ] at H)) | refine pvQ ?_ | (refine opk 3 rfl ?_; first | (refine ost_cmp rfl rfl rfl rfl (fun hc => ?_) (fun hc => ?_) <;> (simp only [cmpP] at hc; try exact prIQ)) | (refine ost_ptEq rfl rfl rfl (fun hc => ?_) (fun hc => ?_) <;> try (simp at hc; done)) | (refine ost_ptNe rfl rfl rfl (fun hc => ?_) (fun hc => ?_) <;> try (simp at hc; done))) | (refine opk 4 rfl ?_; (refine ost_cmp rfl rfl rfl rfl (fun hc => ?_) (fun hc => ?_) <;> (simp only [cmpP] at hc; try exact prIQ))) | (refine opk 8 rfl ?_; (refine ost_store1 H rfl rfl vlQ gvQ ixQ (by first | decide | (simp; omega) | (simp; done) | omega) ?_; clear H; intro wk H; simp only [List.set_cons_zero, List.set_cons_succ, Nat.reduceAdd] at H))) | refine Wc.seq ?_ | refine then_n ?_ | refine WL.nil ?_ | refine Wc.region ?_ | refine Wc.block ?_ | refine then_r ?_ | refine then_e ?_ | refine inb_e rfl ?_ | refine inb_o rfl ?_ | refine inb_n ?_ | refine inb_r ?_ | refine Wc.skip ?_ | refine Wc.exit ?_ | refine Wc.ret ?_ | refine Wc.cond_true rfl ?_ | refine Wc.cond_false rfl ?_ | (refine Wc.drawn (id := 4) 6 (by kernel_rfl) ?_) | refine WL.skp rfl rfl ?_ | refine WL.sku rfl ?_ | (refine rgs_nil ?_; intro vs wk hE; replace H := H.ext hE; clear hE) | refine RGs.skp (fun _ => rfl) rfl ?_ | (refine RGs.bq (fun _ => rfl) rfl (by intro vs w hE hP; have H := H.ext hE; first | exact dbQ | fail) (fun hc => ?_) (fun hc => ?_) <;> ((try simp only [cmpP, decide_eq_true_eq, decide_eq_false_iff_not, dcd_iff, dcd_no] at hc); try exact prDQ)) | refine RGs.pq (fun _ => rfl) rfl (by intro vs w hE hP; have H := H.ext hE; first | exact dvQ | fail) ?_)
      exact fn_ret2 (v1 := .int _ _) (v2 := .int _ _) rfl rfl rfl ⟨_, _, H, rfl, rfl, _, _, hr, rfl⟩
  · have en : numE e xs = (0, e, e, xs) := by unfold numE; rw [if_pos he]
    rw [en]
    repeat' (first | ((first | refine WL.p rfl ?_ | refine WL.u ?_ | refine WL.g rfl rfl ?_ | refine WL.gu rfl ?_); first | refine pvQ ?_ | (refine opk 3 rfl ?_; first | (refine ost_cmp rfl rfl rfl rfl (fun hc => ?_) (fun hc => ?_) <;> (simp only [cmpP] at hc; try exact prIQ)) | (refine ost_ptEq rfl rfl rfl (fun hc => ?_) (fun hc => ?_) <;> try (simp at hc; done)) | (refine ost_ptNe rfl rfl rfl (fun hc => ?_) (fun hc => ?_) <;> try (simp at hc; done))) | (refine opk 4 rfl ?_; (refine ost_cmp rfl rfl rfl rfl (fun hc => ?_) (fun hc => ?_) <;> (simp only [cmpP] at hc; try exact prIQ))) | (refine opk 8 rfl ?_; (refine ost_store1 H rfl rfl vlQ gvQ ixQ (by first | decide | (simp; omega) | (simp; done) | omega) ?_; clear H; intro wk H; simp only [List.set_cons_zero, List.set_cons_succ, Nat.reduceAdd] at H))) | refine Wc.seq ?_ | refine then_n ?_ | refine WL.nil ?_ | refine Wc.region ?_ | refine Wc.block ?_ | refine then_r ?_ | refine then_e ?_ | refine inb_e rfl ?_ | refine inb_o rfl ?_ | refine inb_n ?_ | refine inb_r ?_ | refine Wc.skip ?_ | refine Wc.exit ?_ | refine Wc.ret ?_ | refine Wc.cond_true rfl ?_ | refine Wc.cond_false rfl ?_ | (refine Wc.drawn (id := 4) 6 (by kernel_rfl) ?_) | refine WL.skp rfl rfl ?_ | refine WL.sku rfl ?_ | (refine rgs_nil ?_; intro vs wk hE; replace H := H.ext hE; clear hE) | refine RGs.skp (fun _ => rfl) rfl ?_ | (refine RGs.bq (fun _ => rfl) rfl (by intro vs w hE hP; have H := H.ext hE; first | exact dbQ | fail) (fun hc => ?_) (fun hc => ?_) <;> ((try simp only [cmpP, decide_eq_true_eq, decide_eq_false_iff_not, dcd_iff, dcd_no] at hc); try exact prDQ)) | refine RGs.pq (fun _ => rfl) rfl (by intro vs w hE hP; have H := H.ext hE; first | exact dvQ | fail) ?_)
    exact fn_ret2 (v1 := .int _ _) (v2 := .int _ _) rfl rfl rfl ⟨_, _, H, rfl, rfl, _, _, hr, rfl⟩
theorem numE_len (e : Int) (xs : List UInt8) : (numE e xs).2.2.2.length ≤ xs.length := by
  unfold numE; split
  · exact Nat.le_refl _
  · split
    · exact Nat.le_refl _
    · simp
theorem rd_Done (b : Nat) (e : Int) (a : Option Addr) (c n : Nat) (w : World) {T : TypeId} {fr : Nat × Nat} (hb : w.heap[b]? = some (.cells [.bool true, .int .i64 e, .slice a n c].toArray T fr)) :
    SpecV Tryd.prog 41 #[pt b] w (.bool (decide (e = 0) && decide (n = 0))) := by
  have H := St.start (sat_full w)
  have hb' : full w b = some (.cells [.bool true, .int .i64 e, .slice a n c].toArray T fr) := hb
  unfold SpecV
  refine calls_of Tryd.func41 rfl Tryd.ntmps41 (by simp) ?_
  repeat' (first | ((first | refine WL.p rfl ?_ | refine WL.u ?_ | refine WL.g rfl rfl ?_ | refine WL.gu rfl ?_); first | refine pvQ ?_ | (refine opk 3 rfl ?_; first | (refine ost_cmp rfl rfl rfl rfl (fun hc => ?_) (fun hc => ?_) <;> (simp only [cmpP] at hc; try exact prIQ)) | (refine ost_ptEq rfl rfl rfl (fun hc => ?_) (fun hc => ?_) <;> try (simp at hc; done)) | (refine ost_ptNe rfl rfl rfl (fun hc => ?_) (fun hc => ?_) <;> try (simp at hc; done))) | (refine opk 4 rfl ?_; (refine ost_cmp rfl rfl rfl rfl (fun hc => ?_) (fun hc => ?_) <;> (simp only [cmpP] at hc; try exact prIQ)))) | refine Wc.seq ?_ | refine then_n ?_ | refine WL.nil ?_ | refine Wc.region ?_ | refine Wc.block ?_ | refine then_r ?_ | refine then_e ?_ | refine inb_e rfl ?_ | refine inb_o rfl ?_ | refine inb_n ?_ | refine inb_r ?_ | refine Wc.skip ?_ | refine Wc.exit ?_ | refine Wc.ret ?_ | refine Wc.cond_true rfl ?_ | refine Wc.cond_false rfl ?_ | refine WL.skp rfl rfl ?_ | refine WL.sku rfl ?_)
  all_goals ((first | refine fn_ret1 (v := .bool _) rfl rfl ⟨?_, H.fr⟩ | refine fn_ret1 (v := .int _ _) rfl rfl ⟨?_, H.fr⟩ | refine fn_ret1 (v := .string _) rfl rfl ⟨?_, H.fr⟩); congr 1; simp; omega)
end Go.Tg

