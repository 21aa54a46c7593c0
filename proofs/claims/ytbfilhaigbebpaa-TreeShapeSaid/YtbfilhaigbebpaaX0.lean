/- Contracts of Go functions that the laws reach: what each call answers and leaves in memory, for all arguments within the bounds that each theorem names. -/
import Derived.Test.YtbfilhaigbebpaaInst
import Derived.Test.YtbfilhaigbebpaaAuto
import Derived.Test.YtbfilhaigbebpaaO3
import Derived.Test.YtbfilhaigbebpaaSl
import Derived.Test.YtbfilhaigbebpaaPick
import Derived.Test.YtbfilhaigbebpaaChn
set_option linter.unusedVariables false
set_option linter.unusedSimpArgs false
set_option maxRecDepth 100000
set_option maxHeartbeats 4000000
namespace Go.Tg
open Go Go.Proofs
structure KeyT where
  cart : UInt16
  dot : DotT
def cKey (k : KeyT) : List Value := [.int .u16 k.cart.toNat, .int .u8 k.dot.rep.toNat, .int .u32 k.dot.seq.toNat]
theorem cKey_len (k : KeyT) : (cKey k).length = 3 := rfl
def keyN (k : KeyT) : Nat := k.cart.toNat * 1099511627776 + k.dot.rep.toNat * 4294967296 + k.dot.seq.toNat
theorem keyN_inj {a b : KeyT} (h : keyN a = keyN b) : a = b := by
  have h1 := a.cart.toNat_lt; have h2 := a.dot.rep.toNat_lt; have h3 := a.dot.seq.toNat_lt
  have h4 := b.cart.toNat_lt; have h5 := b.dot.rep.toNat_lt; have h6 := b.dot.seq.toNat_lt
  unfold keyN at h
  have e1 : a.cart = b.cart := UInt16.toNat_inj.1 (by omega)
  have e2 : a.dot.rep = b.dot.rep := UInt8.toNat_inj.1 (by omega)
  have e3 : a.dot.seq = b.dot.seq := UInt32.toNat_inj.1 (by omega)
  obtain ⟨c, ⟨r, q⟩⟩ := a
  obtain ⟨c', ⟨r', q'⟩⟩ := b
  simp only at e1 e2 e3
  subst e1; subst e2; subst e3; rfl
theorem cKey_inj {a b : KeyT} : cKey a = cKey b ↔ a = b := by
  refine ⟨fun h => ?_, fun h => by rw [h]⟩
  unfold cKey at h
  simp only [List.cons.injEq, Value.int.injEq, true_and, and_true] at h
  exact keyN_inj (by unfold keyN; omega)
theorem typed_cKey (k : KeyT) : Typed [.i .u16, .i .u8, .i .u32] (cKey k) := rfl
def lessK (a b : KeyT) : Bool := decide (keyN a < keyN b)
def ordK (a b : KeyT) : Int := or3 (cmp3 a.cart.toNat b.cart.toNat) (cmp3 a.dot.rep.toNat b.dot.rep.toNat) (cmp3 a.dot.seq.toNat b.dot.seq.toNat)
theorem ordK_lt (a b : KeyT) : ordK a b < 0 ↔ keyN a < keyN b := by
  have h1 := a.cart.toNat_lt; have h2 := a.dot.rep.toNat_lt; have h3 := a.dot.seq.toNat_lt
  have h4 := b.cart.toNat_lt; have h5 := b.dot.rep.toNat_lt; have h6 := b.dot.seq.toNat_lt
  unfold ordK or3 cmp3 keyN
  repeat' split
  all_goals omega
theorem ordK_zero (a b : KeyT) : ordK a b = 0 ↔ keyN a = keyN b := by
  have h1 := a.cart.toNat_lt; have h2 := a.dot.rep.toNat_lt; have h3 := a.dot.seq.toNat_lt
  have h4 := b.cart.toNat_lt; have h5 := b.dot.rep.toNat_lt; have h6 := b.dot.seq.toNat_lt
  unfold ordK or3 cmp3 keyN
  repeat' split
  all_goals omega
theorem ordK_self (a : KeyT) : ordK a a = 0 := (ordK_zero a a).2 rfl
theorem nan16 (x : Int) (w : World) : SpecV Try.prog 77 #[.int .u16 x] w (.bool false) := by
  refine specV_of fun h0 hs H => ?_
  refine calls_of Try.func77 rfl Try.ntmps77 (by simp) ?_
  repeat' (first | ((first | refine WL.p rfl ?_ | refine WL.u ?_); first | refine pvQ ?_ | (refine opk 3 rfl ?_; (refine ost_cmp rfl rfl rfl rfl (fun hc => ?_) (fun hc => ?_) <;> (simp only [cmpP] at hc; try exact prIQ))) | (refine opk 4 rfl ?_; (refine ost_cmp rfl rfl rfl rfl (fun hc => ?_) (fun hc => ?_) <;> (simp only [cmpP] at hc; try exact prIQ)))) | refine Wc.seq ?_ | refine then_n ?_ | refine WL.nil ?_ | refine Wc.region ?_ | refine Wc.block ?_ | refine then_r ?_ | refine then_e ?_ | refine inb_e rfl ?_ | refine inb_o rfl ?_ | refine inb_n ?_ | refine inb_r ?_ | refine Wc.skip ?_ | refine Wc.exit ?_ | refine Wc.ret ?_ | refine Wc.cond_true rfl ?_ | refine Wc.cond_false rfl ?_)
  (first | refine fn_ret1 (v := .bool _) rfl rfl ⟨?_, H.fr⟩ | refine fn_ret1 (v := .int _ _) rfl rfl ⟨?_, H.fr⟩ | refine fn_ret1 (v := .string _) rfl rfl ⟨?_, H.fr⟩); rfl
theorem compare16 (x y : Int) (w : World) : SpecV Try.prog 70 #[.int .u16 x, .int .u16 y] w (.int .i64 (cmp3 x y)) := by
  refine specV_of fun h0 hs H => ?_
  refine calls_of Try.func70 rfl Try.ntmps70 (by simp) ?_
  repeat' (first | ((first | refine WL.p rfl ?_ | refine WL.u ?_); first | (refine opk 1 rfl ?_; (refine ost_V H rfl (nan16 _ _) rfl ?_; clear H; intro wk H)) | refine pvQ ?_ | (refine opk 3 rfl ?_; (refine ost_cmp rfl rfl rfl rfl (fun hc => ?_) (fun hc => ?_) <;> (simp only [cmpP] at hc; try exact prIQ))) | (refine opk 4 rfl ?_; (refine ost_cmp rfl rfl rfl rfl (fun hc => ?_) (fun hc => ?_) <;> (simp only [cmpP] at hc; try exact prIQ)))) | refine Wc.seq ?_ | refine then_n ?_ | refine WL.nil ?_ | refine Wc.region ?_ | refine Wc.block ?_ | refine then_r ?_ | refine then_e ?_ | refine inb_e rfl ?_ | refine inb_o rfl ?_ | refine inb_n ?_ | refine inb_r ?_ | refine Wc.skip ?_ | refine Wc.exit ?_ | refine Wc.ret ?_ | refine Wc.cond_true rfl ?_ | refine Wc.cond_false rfl ?_)
  all_goals ((first | refine fn_ret1 (v := .bool _) rfl rfl ⟨?_, H.fr⟩ | refine fn_ret1 (v := .int _ _) rfl rfl ⟨?_, H.fr⟩ | refine fn_ret1 (v := .string _) rfl rfl ⟨?_, H.fr⟩); congr 1; simp [cmp3, *])
theorem page_order (a b : KeyT) (w : World) : SpecV Try.prog 55 #[.agg (cKey a).toArray, .agg (cKey b).toArray] w (.int .i64 (ordK a b)) := by
  refine specV_of fun h0 hs H => ?_
  have la := cKey_len a
  have lb := cKey_len b
  have ta := typed_cKey a; have tb := typed_cKey b
  refine calls_of Try.func55 rfl Try.ntmps55 (by simp) ?_
  repeat' (first | ((first | refine WL.p rfl ?_ | refine WL.u ?_); first | (refine opk 1 rfl ?_; first | (refine ost_V H rfl (cmp_Or _ _ _ _ _ _ (H.ownRdC (i := 0) rfl)) rfl ?_; clear H; intro wk H) | (refine ost_V H rfl (compare32 _ _ _) rfl ?_; clear H; intro wk H)) | refine pvQ ?_ | (refine opk 3 rfl ?_; first | (refine ost_eqA rfl (by decide) rfl rfl tyQ tyQ (fun hc => ?_) (fun hc => ?_) <;> try exact prEQ) | (refine ost_neA rfl (by decide) rfl rfl tyQ tyQ (fun hc => ?_) (fun hc => ?_) <;> try exact prEQ)) | (refine opk 9 rfl ?_; first | (refine ost_boxq H rfl ?_; clear H; intro bk wk H) | (refine ost_build1 H rfl rfl rfl evQ lsQ rfl ?_; clear H; intro bk wk H))) | refine Wc.seq ?_ | refine then_n ?_ | refine WL.nil ?_ | refine Wc.region ?_ | refine Wc.block ?_ | refine then_r ?_ | refine then_e ?_ | refine inb_e rfl ?_ | refine inb_o rfl ?_ | refine inb_n ?_ | refine inb_r ?_ | refine Wc.skip ?_ | refine Wc.exit ?_ | refine Wc.ret ?_ | refine Wc.cond_true rfl ?_ | refine Wc.cond_false rfl ?_ | (refine Wc.drawn (id := 3) 18 (by kernel_rfl) ?_) | (refine rgs_nil ?_; intro vs wk hE; replace H := H.ext hE; clear hE) | (refine RGs.bq (fun _ => rfl) rfl (by intro vs w hE hP; have H := H.ext hE; first | exact dbQ | fail) (fun hc => ?_) (fun hc => ?_) <;> ((try simp only [cmpP, decide_eq_true_eq, decide_eq_false_iff_not, dcd_iff, dcd_no] at hc); try exact prDQ)) | refine RGs.pq (fun _ => rfl) rfl (by intro vs w hE hP; have H := H.ext hE; first | (refine opk 1 rfl ?_; first | (exact ost_V0d rfl (compare16 _ _ _) rfl) | (exact ost_V0d rfl (compare32 _ _ _) rfl) | (exact ost_V0d rfl (compare8 _ _ _) rfl)) | exact dvQ | fail) ?_)
  · (first | refine fn_ret1 (v := .bool _) rfl rfl ⟨?_, H.fr⟩ | refine fn_ret1 (v := .int _ _) rfl rfl ⟨?_, H.fr⟩ | refine fn_ret1 (v := .string _) rfl rfl ⟨?_, H.fr⟩); rw [cKey_inj.1 hc, ordK_self]
  · (first | refine fn_ret1 (v := .bool _) rfl rfl ⟨?_, H.fr⟩ | refine fn_ret1 (v := .int _ _) rfl rfl ⟨?_, H.fr⟩ | refine fn_ret1 (v := .string _) rfl rfl ⟨?_, H.fr⟩); rfl
theorem page_Less (a b : KeyT) (w : World) : SpecV Try.prog 44 #[.agg (cKey a).toArray, .agg (cKey b).toArray] w (.bool (lessK a b)) := by
  refine specV_of fun h0 hs H => ?_
  have la := cKey_len a
  have lb := cKey_len b
  have hl := ordK_lt a b
  refine calls_of Try.func44 rfl Try.ntmps44 (by simp) ?_
  repeat' (first | ((first | refine WL.p rfl ?_ | refine WL.u ?_); first | (refine opk 1 rfl ?_; (refine ost_V H rfl (page_order _ _ _) rfl ?_; clear H; intro wk H)) | refine pvQ ?_ | (refine opk 3 rfl ?_; (refine ost_cmp rfl rfl rfl rfl (fun hc => ?_) (fun hc => ?_) <;> (simp only [cmpP] at hc; try exact prIQ))) | (refine opk 4 rfl ?_; (refine ost_cmp rfl rfl rfl rfl (fun hc => ?_) (fun hc => ?_) <;> (simp only [cmpP] at hc; try exact prIQ))) | (refine opk 9 rfl ?_; (refine ost_boxq H rfl ?_; clear H; intro bk wk H))) | refine Wc.seq ?_ | refine then_n ?_ | refine WL.nil ?_ | refine Wc.region ?_ | refine Wc.block ?_ | refine then_r ?_ | refine then_e ?_ | refine inb_e rfl ?_ | refine inb_o rfl ?_ | refine inb_n ?_ | refine inb_r ?_ | refine Wc.skip ?_ | refine Wc.exit ?_ | refine Wc.ret ?_ | refine Wc.cond_true rfl ?_ | refine Wc.cond_false rfl ?_)
  all_goals ((first | refine fn_ret1 (v := .bool _) rfl rfl ⟨?_, H.fr⟩ | refine fn_ret1 (v := .int _ _) rfl rfl ⟨?_, H.fr⟩ | refine fn_ret1 (v := .string _) rfl rfl ⟨?_, H.fr⟩); congr 1; simp [lessK, ← hl]; omega)
theorem r13_Less (a b : KeyT) (w : World) : SpecV Try.prog 38 #[.agg (cKey a).toArray, .agg (cKey b).toArray] w (.bool (lessK a b)) := by
  refine specV_of fun h0 hs H => ?_
  have la := cKey_len a
  have lb := cKey_len b
  have h1 := a.cart.toNat_lt; have h2 := a.dot.rep.toNat_lt; have h3 := a.dot.seq.toNat_lt
  have h4 := b.cart.toNat_lt; have h5 := b.dot.rep.toNat_lt; have h6 := b.dot.seq.toNat_lt
  refine calls_of Try.func38 rfl Try.ntmps38 (by simp) ?_
  repeat' (first | ((first | refine WL.p rfl ?_ | refine WL.u ?_); first | refine pvQ ?_ | (refine opk 3 rfl ?_; (refine ost_cmp rfl rfl rfl rfl (fun hc => ?_) (fun hc => ?_) <;> (simp only [cmpP] at hc; try exact prIQ))) | (refine opk 4 rfl ?_; (refine ost_cmp rfl rfl rfl rfl (fun hc => ?_) (fun hc => ?_) <;> (simp only [cmpP] at hc; try exact prIQ))) | (refine opk 9 rfl ?_; (refine ost_boxq H rfl ?_; clear H; intro bk wk H))) | refine Wc.seq ?_ | refine then_n ?_ | refine WL.nil ?_ | refine Wc.region ?_ | refine Wc.block ?_ | refine then_r ?_ | refine then_e ?_ | refine inb_e rfl ?_ | refine inb_o rfl ?_ | refine inb_n ?_ | refine inb_r ?_ | refine Wc.skip ?_ | refine Wc.exit ?_ | refine Wc.ret ?_ | refine Wc.cond_true rfl ?_ | refine Wc.cond_false rfl ?_)
  all_goals ((first | refine fn_ret1 (v := .bool _) rfl rfl ⟨?_, H.fr⟩ | refine fn_ret1 (v := .int _ _) rfl rfl ⟨?_, H.fr⟩ | refine fn_ret1 (v := .string _) rfl rfl ⟨?_, H.fr⟩); congr 1; symm; first | exact decide_eq_true (by unfold keyN; omega) | exact decide_eq_false (by unfold keyN; omega))
attribute [irreducible] keyN
end Go.Tg

set_option linter.unusedVariables false
set_option linter.unusedSimpArgs false
set_option maxRecDepth 100000
set_option maxHeartbeats 4000000
namespace Go.Tg
open Go Go.Proofs
structure LocT where
  seg : UInt32
  at_ : UInt32
def cLoc (l : LocT) : List Value := [.int .u32 l.seg.toNat, .int .u32 l.at_.toNat]
def cKid (x : UInt32) : List Value := [.int .u32 x.toNat]
structure PageT where
  leaf : Bool
  keys : List KeyT
  locs : List LocT
  kids : List UInt32
structure PAd where
  ak : Option Addr
  ck : Nat
  al : Option Addr
  cl : Nat
  ad : Option Addr
  cd : Nat
def pgL (lf : Bool) (nk nl nd : Nat) (ak : Option Addr) (ck : Nat) (al : Option Addr) (cl : Nat) (ad : Option Addr) (cd : Nat) : List Value := [.bool lf, .slice ak nk ck, .slice al nl cl, .slice ad nd cd]
def pgV (p : PageT) (A : PAd) : List Value := [.bool p.leaf, .slice A.ak p.keys.length A.ck, .slice A.al p.locs.length A.cl, .slice A.ad p.kids.length A.cd]
theorem pgV_len (p : PageT) (A : PAd) : (pgV p A).length = 4 := rfl
structure PgR (h : FH) (p : PageT) (A : PAd) : Prop where
  k : Sl h 3 A.ak A.ck (p.keys.map cKey)
  l : Sl h 2 A.al A.cl (p.locs.map cLoc)
  d : Sl h 1 A.ad A.cd (p.kids.map cKid)
theorem PgR.mono {h h' : FH} {p : PageT} {A : PAd} (hle : FLe h h') (r : PgR h p A) : PgR h' p A := ⟨r.k.mono hle, r.l.mono hle, r.d.mono hle⟩
theorem PgR.full {ws w : World} {S : List Nat} {h0 h : FH} {L : List HA} {p : PageT} {A : PAd} (r : PgR h p A) (H : St ws S h0 h L w) : PgR (full w) p A := r.mono H.sat.le
theorem Sl.getM {α : Type} {f : α → List Value} {xs : List α} {h : FH} {sz : Nat} {a : Option Addr} {c : Nat} (r : Sl h sz a c (xs.map f)) (hs : 0 < sz) (hx : 0 < xs.length) :
    ∃ b off l T fr, a = some ⟨b, off, none⟩ ∧ h b = some (.cells (List.toArray l) T fr) ∧ ∀ (m j : Nat) (hj : j < xs.length), m = j → (l.drop (off + m * sz)).take sz = f xs[j] := by
  obtain ⟨b, off, l, T, fr, e1, e2, e3⟩ := r.get hs (i := 0) (by simpa using hx)
  exact ⟨b, off, l, T, fr, e1, e2, fun m j hj hm => by subst hm; have := e3 m (by simpa using hj); rw [this]; simp⟩
theorem Sl.lenM {α : Type} {f : α → List Value} {xs : List α} {h : FH} {sz : Nat} {a : Option Addr} {c : Nat} (r : Sl h sz a c (xs.map f)) : xs.length ≤ c ∧ c ≤ 9223372036854775807 := by
  have h1 := r.le; have h2 := r.mx
  have h9 : (maxLen : Nat) ≤ 9223372036854775807 := by decide
  exact ⟨by simpa using h1, by omega⟩
def sortedK (ks : List KeyT) : Prop := ∀ i (h : i + 1 < ks.length), keyN (ks[i]'(by omega)) < keyN ks[i + 1]
def shapeP (p : PageT) : Prop := if p.leaf = true then p.keys.length ≤ 8 ∧ p.locs.length = p.keys.length ∧ p.kids.length = 0 else 1 ≤ p.keys.length ∧ p.keys.length ≤ 8 ∧ p.kids.length = p.keys.length ∧ p.locs.length = 0
theorem shapeP_T (ks : List KeyT) (ls : List LocT) (ds : List UInt32) : shapeP ⟨true, ks, ls, ds⟩ ↔ ks.length ≤ 8 ∧ ls.length = ks.length ∧ ds.length = 0 := by unfold shapeP; rw [if_pos rfl]
theorem shapeP_F (ks : List KeyT) (ls : List LocT) (ds : List UInt32) : shapeP ⟨false, ks, ls, ds⟩ ↔ 1 ≤ ks.length ∧ ks.length ≤ 8 ∧ ds.length = ks.length ∧ ls.length = 0 := by unfold shapeP; rw [if_neg Bool.false_ne_true]
noncomputable def rightP (p : PageT) : Bool := dcd (sortedK p.keys ∧ shapeP p)
theorem rightP_iff {p : PageT} : rightP p = true ↔ sortedK p.keys ∧ shapeP p := dcd_iff
theorem rightP_no {p : PageT} : rightP p = false ↔ ¬ (sortedK p.keys ∧ shapeP p) := dcd_no
theorem page_Right (p : PageT) (A : PAd) (h0 : FH) (w : World) (hs : Sat h0 w) (hP : PgR h0 p A) : SpecV Try.prog 53 #[.agg (pgV p A).toArray] w (.bool (rightP p)) := by
  have H := St.start hs
  obtain ⟨lf, ks, ls, ds⟩ := p
  obtain ⟨ak, ck, al, cl, ad, cd⟩ := A
  rw [show pgV ⟨lf, ks, ls, ds⟩ ⟨ak, ck, al, cl, ad, cd⟩ = pgL lf ks.length ls.length ds.length ak ck al cl ad cd from rfl]
  have lp : (pgL lf ks.length ls.length ds.length ak ck al cl ad cd).length = 4 := rfl
  have q1 := hP.k.lenM
  have q2 := hP.l.lenM
  have q3 := hP.d.lenM
  dsimp only at q1 q2 q3
  unfold SpecV
  refine calls_of Try.func53 rfl Try.ntmps53 (by simp) ?_
  repeat' (first | ((first | refine WL.p rfl ?_ | refine WL.u ?_ | refine WL.g rfl rfl ?_ | refine WL.gu rfl ?_); first | refine pvQ ?_ | (refine opk 3 rfl ?_; (refine ost_cmp rfl rfl rfl rfl (fun hc => ?_) (fun hc => ?_) <;> (simp only [cmpP] at hc; try exact prIQ))) | (refine opk 4 rfl ?_; (refine ost_cmp rfl rfl rfl rfl (fun hc => ?_) (fun hc => ?_) <;> (simp only [cmpP] at hc; try exact prIQ))) | (refine opk 9 rfl ?_; (refine ost_boxq H rfl ?_; clear H; intro bk wk H))) | refine Wc.seq ?_ | refine then_n ?_ | refine WL.nil ?_ | refine Wc.region ?_ | refine Wc.block ?_ | refine then_r ?_ | refine then_e ?_ | refine inb_e rfl ?_ | refine inb_o rfl ?_ | refine inb_n ?_ | refine inb_r ?_ | refine Wc.skip ?_ | refine Wc.exit ?_ | refine Wc.ret ?_ | refine Wc.cond_true rfl ?_ | refine Wc.cond_false rfl ?_ | (refine Wc.drawn (id := 5) 11 (by kernel_rfl) ?_) | refine WL.skp rfl rfl ?_ | refine WL.sku rfl ?_ | (refine rgs_nil ?_; intro vs wk hE; replace H := H.ext hE; clear hE) | refine RGs.skp (fun _ => rfl) rfl ?_ | (refine RGs.bq (fun _ => rfl) rfl (by intro vs w hE hP; have H := H.ext hE; first | exact dbQ | fail) (fun hc => ?_) (fun hc => ?_) <;> ((try simp only [cmpP, decide_eq_true_eq, decide_eq_false_iff_not, dcd_iff, dcd_no] at hc); try exact prDQ)) | refine RGs.pq (fun _ => rfl) rfl (by intro vs w hE hP; have H := H.ext hE; first | exact dvQ | fail) ?_)
  refine Wc.loopE (fun s0 m s w' => ∃ i : Nat, m = ks.length + 1 - i ∧ 1 ≤ i ∧ i ≤ ks.length + 1 ∧ Agree [2, 4, 8, 9, 10, 11, 12, 13, 14, 15, 16, 17, 18, 19, 20, 21, 22, 23, 24, 25] s s0 ∧ s 4 = .int .i64 i ∧ (∀ j (h : j + 1 < ks.length), j + 1 < i → keyN (ks[j]'(by omega)) < keyN ks[j + 1]) ∧
    St w [] h0 h0 [.blk bk (.cells (pgL lf ks.length ls.length ds.length ak ck al cl ad cd).toArray 85 (0, 0))] w') ks.length ⟨1, rfl, by omega, by omega, Agree.refl _ _, rfl, fun j h hj => absurd hj (by omega), H⟩ ?_
  clear H
  rintro m s w' ⟨i, rfl, h1, h2, hA, e1, hsrt, H⟩
  obtain ⟨j, rfl⟩ := hA.env1 e1
  clear hA e1
  by_cases hlt : i < ks.length
  · obtain ⟨b, off, l, T, fr, e1, eb, eg⟩ := hP.k.getM (by decide) (Nat.lt_of_le_of_lt (Nat.zero_le _) hlt)
    dsimp only at e1 eg
    subst e1
    have g1 := eg ((i : Int) - 1).toNat (i - 1) (by omega) (by omega)
    have g2 := eg (i : Int).toNat i hlt (by omega)
    have hq : lessK ks[i - 1] ks[i] = true ↔ keyN ks[i - 1] < keyN ks[i] := by simp [lessK]
    have l1 := cKey_len ks[i - 1]
    have l2 := cKey_len ks[i]
    cases hlq : lessK ks[i - 1] ks[i] with
    | true =>
      have c1 : ∀ w, SpecV Try.prog 44 #[.agg (cKey ks[i - 1]).toArray, .agg (cKey ks[i]).toArray] w (.bool true) := fun w => by
        have := page_Less ks[i - 1] ks[i] w; rw [hlq] at this; exact this
      repeat' (first | ((first | refine WL.p rfl ?_ | refine WL.u ?_ | refine WL.g rfl rfl ?_ | refine WL.gu rfl ?_); first | (refine opk 1 rfl ?_; (refine ost_V H rfl (c1 _) rfl ?_; clear H; intro wk H)) | refine pvQ ?_ | (refine opk 3 rfl ?_; (refine ost_cmp rfl rfl rfl rfl (fun hc => ?_) (fun hc => ?_) <;> (simp only [cmpP] at hc; try exact prIQ))) | (refine opk 4 rfl ?_; (refine ost_cmp rfl rfl rfl rfl (fun hc => ?_) (fun hc => ?_) <;> (simp only [cmpP] at hc; try exact prIQ))) | (refine opk 9 rfl ?_; (refine ost_boxq H rfl ?_; clear H; intro bk wk H))) | refine Wc.seq ?_ | refine then_n ?_ | refine WL.nil ?_ | refine Wc.region ?_ | refine Wc.block ?_ | refine then_r ?_ | refine then_e ?_ | refine inb_e rfl ?_ | refine inb_o rfl ?_ | refine inb_n ?_ | refine inb_r ?_ | refine Wc.skip ?_ | refine Wc.exit ?_ | refine Wc.ret ?_ | refine Wc.cond_true rfl ?_ | refine Wc.cond_false rfl ?_ | (refine Wc.drawn (id := 5) 11 (by kernel_rfl) ?_) | refine WL.skp rfl rfl ?_ | refine WL.sku rfl ?_ | (refine rgs_nil ?_; intro vs wk hE; replace H := H.ext hE; clear hE) | refine RGs.skp (fun _ => rfl) rfl ?_ | (refine RGs.bq (fun _ => rfl) rfl (by intro vs w hE hP; have H := H.ext hE; first | exact dbQ | fail) (fun hc => ?_) (fun hc => ?_) <;> ((try simp only [cmpP, decide_eq_true_eq, decide_eq_false_iff_not, dcd_iff, dcd_no] at hc); try exact prDQ)) | refine RGs.pq (fun _ => rfl) rfl (by intro vs w hE hP; have H := H.ext hE; first | (refine opk 1 rfl ?_; (exact ost_V0d rfl (c1 _) rfl)) | exact dvQ | fail) ?_)
      refine ⟨ks.length + 1 - (i + 1), by omega, i + 1, rfl, by omega, by omega, by (repeat' (first | exact Agree.refl _ _ | exact Agree.havoc | refine Agree.upd rfl ?_ | refine Agree.hav2 rfl ?_)), rfl, fun j h hj => ?_, H⟩
      by_cases hji : j + 1 < i
      · exact hsrt j h hji
      · obtain rfl : j + 1 = i := by omega
        exact hq.1 hlq
    | false =>
      have c1 : ∀ w, SpecV Try.prog 44 #[.agg (cKey ks[i - 1]).toArray, .agg (cKey ks[i]).toArray] w (.bool false) := fun w => by
        have := page_Less ks[i - 1] ks[i] w; rw [hlq] at this; exact this
      repeat' (first | ((first | refine WL.p rfl ?_ | refine WL.u ?_ | refine WL.g rfl rfl ?_ | refine WL.gu rfl ?_); first | (refine opk 1 rfl ?_; (refine ost_V H rfl (c1 _) rfl ?_; clear H; intro wk H)) | refine pvQ ?_ | (refine opk 3 rfl ?_; (refine ost_cmp rfl rfl rfl rfl (fun hc => ?_) (fun hc => ?_) <;> (simp only [cmpP] at hc; try exact prIQ))) | (refine opk 4 rfl ?_; (refine ost_cmp rfl rfl rfl rfl (fun hc => ?_) (fun hc => ?_) <;> (simp only [cmpP] at hc; try exact prIQ))) | (refine opk 9 rfl ?_; (refine ost_boxq H rfl ?_; clear H; intro bk wk H))) | refine Wc.seq ?_ | refine then_n ?_ | refine WL.nil ?_ | refine Wc.region ?_ | refine Wc.block ?_ | refine then_r ?_ | refine then_e ?_ | refine inb_e rfl ?_ | refine inb_o rfl ?_ | refine inb_n ?_ | refine inb_r ?_ | refine Wc.skip ?_ | refine Wc.exit ?_ | refine Wc.ret ?_ | refine Wc.cond_true rfl ?_ | refine Wc.cond_false rfl ?_ | (refine Wc.drawn (id := 5) 11 (by kernel_rfl) ?_) | refine WL.skp rfl rfl ?_ | refine WL.sku rfl ?_ | (refine rgs_nil ?_; intro vs wk hE; replace H := H.ext hE; clear hE) | refine RGs.skp (fun _ => rfl) rfl ?_ | (refine RGs.bq (fun _ => rfl) rfl (by intro vs w hE hP; have H := H.ext hE; first | exact dbQ | fail) (fun hc => ?_) (fun hc => ?_) <;> ((try simp only [cmpP, decide_eq_true_eq, decide_eq_false_iff_not, dcd_iff, dcd_no] at hc); try exact prDQ)) | refine RGs.pq (fun _ => rfl) rfl (by intro vs w hE hP; have H := H.ext hE; first | (refine opk 1 rfl ?_; (exact ost_V0d rfl (c1 _) rfl)) | exact dvQ | fail) ?_)
      (first | refine fn_ret1 (v := .bool _) rfl rfl ⟨?_, H.fr⟩ | refine fn_ret1 (v := .int _ _) rfl rfl ⟨?_, H.fr⟩ | refine fn_ret1 (v := .string _) rfl rfl ⟨?_, H.fr⟩); congr 1; symm
      refine rightP_no.2 fun h => ?_
      have h3 := h.1 (i - 1) (by show i - 1 + 1 < ks.length; omega)
      have e9 : (ks[i - 1 + 1]'(by omega)) = ks[i] := by congr 1; omega
      have h4 : keyN ks[i - 1] < keyN (ks[i - 1 + 1]'(by omega)) := h3
      rw [e9] at h4
      rw [hq.2 h4] at hlq; cases hlq
  · have hso : sortedK ks := fun j h => hsrt j h (by omega)
    cases lf
    · have hN := (shapeP_F ks ls ds).1
      have hY := (shapeP_F ks ls ds).2
      repeat' (first | ((first | refine WL.p rfl ?_ | refine WL.u ?_ | refine WL.g rfl rfl ?_ | refine WL.gu rfl ?_); first | refine pvQ ?_ | (refine opk 3 rfl ?_; (refine ost_cmp rfl rfl rfl rfl (fun hc => ?_) (fun hc => ?_) <;> (simp only [cmpP] at hc; try exact prIQ))) | (refine opk 4 rfl ?_; (refine ost_cmp rfl rfl rfl rfl (fun hc => ?_) (fun hc => ?_) <;> (simp only [cmpP] at hc; try exact prIQ))) | (refine opk 9 rfl ?_; (refine ost_boxq H rfl ?_; clear H; intro bk wk H))) | refine Wc.seq ?_ | refine then_n ?_ | refine WL.nil ?_ | refine Wc.region ?_ | refine Wc.block ?_ | refine then_r ?_ | refine then_e ?_ | refine inb_e rfl ?_ | refine inb_o rfl ?_ | refine inb_n ?_ | refine inb_r ?_ | refine Wc.skip ?_ | refine Wc.exit ?_ | refine Wc.ret ?_ | refine Wc.cond_true rfl ?_ | refine Wc.cond_false rfl ?_ | (refine Wc.drawn (id := 5) 11 (by kernel_rfl) ?_) | refine WL.skp rfl rfl ?_ | refine WL.sku rfl ?_ | (refine rgs_nil ?_; intro vs wk hE; replace H := H.ext hE; clear hE) | refine RGs.skp (fun _ => rfl) rfl ?_ | (refine RGs.bq (fun _ => rfl) rfl (by intro vs w hE hP; have H := H.ext hE; first | exact dbQ | fail) (fun hc => ?_) (fun hc => ?_) <;> ((try simp only [cmpP, decide_eq_true_eq, decide_eq_false_iff_not, dcd_iff, dcd_no] at hc); try exact prDQ)) | refine RGs.pq (fun _ => rfl) rfl (by intro vs w hE hP; have H := H.ext hE; first | exact dvQ | fail) ?_)
      all_goals ((first | refine fn_ret1 (v := .bool _) rfl rfl ⟨?_, H.fr⟩ | refine fn_ret1 (v := .int _ _) rfl rfl ⟨?_, H.fr⟩ | refine fn_ret1 (v := .string _) rfl rfl ⟨?_, H.fr⟩); congr 1; symm; first | exact rightP_iff.2 ⟨hso, hY (by omega)⟩ | (refine rightP_no.2 fun h => ?_; have h2 := hN h.2; omega))
    · have hN := (shapeP_T ks ls ds).1
      have hY := (shapeP_T ks ls ds).2
      repeat' (first | ((first | refine WL.p rfl ?_ | refine WL.u ?_ | refine WL.g rfl rfl ?_ | refine WL.gu rfl ?_); first | refine pvQ ?_ | (refine opk 3 rfl ?_; (refine ost_cmp rfl rfl rfl rfl (fun hc => ?_) (fun hc => ?_) <;> (simp only [cmpP] at hc; try exact prIQ))) | (refine opk 4 rfl ?_; (refine ost_cmp rfl rfl rfl rfl (fun hc => ?_) (fun hc => ?_) <;> (simp only [cmpP] at hc; try exact prIQ))) | (refine opk 9 rfl ?_; (refine ost_boxq H rfl ?_; clear H; intro bk wk H))) | refine Wc.seq ?_ | refine then_n ?_ | refine WL.nil ?_ | refine Wc.region ?_ | refine Wc.block ?_ | refine then_r ?_ | refine then_e ?_ | refine inb_e rfl ?_ | refine inb_o rfl ?_ | refine inb_n ?_ | refine inb_r ?_ | refine Wc.skip ?_ | refine Wc.exit ?_ | refine Wc.ret ?_ | refine Wc.cond_true rfl ?_ | refine Wc.cond_false rfl ?_ | (refine Wc.drawn (id := 5) 11 (by kernel_rfl) ?_) | refine WL.skp rfl rfl ?_ | refine WL.sku rfl ?_ | (refine rgs_nil ?_; intro vs wk hE; replace H := H.ext hE; clear hE) | refine RGs.skp (fun _ => rfl) rfl ?_ | (refine RGs.bq (fun _ => rfl) rfl (by intro vs w hE hP; have H := H.ext hE; first | exact dbQ | fail) (fun hc => ?_) (fun hc => ?_) <;> ((try simp only [cmpP, decide_eq_true_eq, decide_eq_false_iff_not, dcd_iff, dcd_no] at hc); try exact prDQ)) | refine RGs.pq (fun _ => rfl) rfl (by intro vs w hE hP; have H := H.ext hE; first | exact dvQ | fail) ?_)
      all_goals ((first | refine fn_ret1 (v := .bool _) rfl rfl ⟨?_, H.fr⟩ | refine fn_ret1 (v := .int _ _) rfl rfl ⟨?_, H.fr⟩ | refine fn_ret1 (v := .string _) rfl rfl ⟨?_, H.fr⟩); congr 1; symm; first | exact rightP_iff.2 ⟨hso, hY (by omega)⟩ | (refine rightP_no.2 fun h => ?_; have h2 := hN h.2; omega))
theorem r13_Right (p : PageT) (A : PAd) (h0 : FH) (w : World) (hs : Sat h0 w) (hP : PgR h0 p A) : SpecV Try.prog 48 #[.agg (pgV p A).toArray] w (.bool (rightP p)) := by
  have H := St.start hs
  obtain ⟨lf, ks, ls, ds⟩ := p
  obtain ⟨ak, ck, al, cl, ad, cd⟩ := A
  rw [show pgV ⟨lf, ks, ls, ds⟩ ⟨ak, ck, al, cl, ad, cd⟩ = pgL lf ks.length ls.length ds.length ak ck al cl ad cd from rfl]
  have lp : (pgL lf ks.length ls.length ds.length ak ck al cl ad cd).length = 4 := rfl
  have q1 := hP.k.lenM
  have q2 := hP.l.lenM
  have q3 := hP.d.lenM
  dsimp only at q1 q2 q3
  unfold SpecV
  refine calls_of Try.func48 rfl Try.ntmps48 (by simp) ?_
  repeat' (first | ((first | refine WL.p rfl ?_ | refine WL.u ?_ | refine WL.g rfl rfl ?_ | refine WL.gu rfl ?_); first | refine pvQ ?_ | (refine opk 3 rfl ?_; (refine ost_cmp rfl rfl rfl rfl (fun hc => ?_) (fun hc => ?_) <;> (simp only [cmpP] at hc; try exact prIQ))) | (refine opk 4 rfl ?_; (refine ost_cmp rfl rfl rfl rfl (fun hc => ?_) (fun hc => ?_) <;> (simp only [cmpP] at hc; try exact prIQ))) | (refine opk 9 rfl ?_; (refine ost_boxq H rfl ?_; clear H; intro bk wk H))) | refine Wc.seq ?_ | refine then_n ?_ | refine WL.nil ?_ | refine Wc.region ?_ | refine Wc.block ?_ | refine then_r ?_ | refine then_e ?_ | refine inb_e rfl ?_ | refine inb_o rfl ?_ | refine inb_n ?_ | refine inb_r ?_ | refine Wc.skip ?_ | refine Wc.exit ?_ | refine Wc.ret ?_ | refine Wc.cond_true rfl ?_ | refine Wc.cond_false rfl ?_ | (refine Wc.drawn (id := 4) 11 (by kernel_rfl) ?_) | refine WL.skp rfl rfl ?_ | refine WL.sku rfl ?_ | (refine rgs_nil ?_; intro vs wk hE; replace H := H.ext hE; clear hE) | refine RGs.skp (fun _ => rfl) rfl ?_ | (refine RGs.bq (fun _ => rfl) rfl (by intro vs w hE hP; have H := H.ext hE; first | exact dbQ | fail) (fun hc => ?_) (fun hc => ?_) <;> ((try simp only [cmpP, decide_eq_true_eq, decide_eq_false_iff_not, dcd_iff, dcd_no] at hc); try exact prDQ)) | refine RGs.pq (fun _ => rfl) rfl (by intro vs w hE hP; have H := H.ext hE; first | exact dvQ | fail) ?_)
  refine Wc.loopE (fun s0 m s w' => ∃ i : Nat, m = ks.length + 1 - i ∧ 1 ≤ i ∧ i ≤ ks.length + 1 ∧ Agree [2, 3, 5, 6, 7, 8, 9, 10, 11, 12, 13, 14, 15, 16, 17, 18, 19, 20, 21, 22, 23, 24] s s0 ∧ s 3 = .int .i64 i ∧ (∀ j (h : j + 1 < ks.length), j + 1 < i → keyN (ks[j]'(by omega)) < keyN ks[j + 1]) ∧
    St w [] h0 h0 [.blk bk (.cells (pgL lf ks.length ls.length ds.length ak ck al cl ad cd).toArray 112 (0, 0))] w') ks.length ⟨1, rfl, by omega, by omega, Agree.refl _ _, rfl, fun j h hj => absurd hj (by omega), H⟩ ?_
  clear H
  rintro m s w' ⟨i, rfl, h1, h2, hA, e1, hsrt, H⟩
  obtain ⟨j, rfl⟩ := hA.env1 e1
  clear hA e1
  by_cases hlt : i < ks.length
  · obtain ⟨b, off, l, T, fr, e1, eb, eg⟩ := hP.k.getM (by decide) (Nat.lt_of_le_of_lt (Nat.zero_le _) hlt)
    dsimp only at e1 eg
    subst e1
    have g1 := eg ((i : Int) - 1).toNat (i - 1) (by omega) (by omega)
    have g2 := eg (i : Int).toNat i hlt (by omega)
    have hq : lessK ks[i - 1] ks[i] = true ↔ keyN ks[i - 1] < keyN ks[i] := by simp [lessK]
    have l1 := cKey_len ks[i - 1]
    have l2 := cKey_len ks[i]
    cases hlq : lessK ks[i - 1] ks[i] with
    | true =>
      have c1 : ∀ w, SpecV Try.prog 38 #[.agg (cKey ks[i - 1]).toArray, .agg (cKey ks[i]).toArray] w (.bool true) := fun w => by
        have := r13_Less ks[i - 1] ks[i] w; rw [hlq] at this; exact this
      repeat' (first | ((first | refine WL.p rfl ?_ | refine WL.u ?_ | refine WL.g rfl rfl ?_ | refine WL.gu rfl ?_); first | (refine opk 1 rfl ?_; (refine ost_V H rfl (c1 _) rfl ?_; clear H; intro wk H)) | refine pvQ ?_ | (refine opk 3 rfl ?_; (refine ost_cmp rfl rfl rfl rfl (fun hc => ?_) (fun hc => ?_) <;> (simp only [cmpP] at hc; try exact prIQ))) | (refine opk 4 rfl ?_; (refine ost_cmp rfl rfl rfl rfl (fun hc => ?_) (fun hc => ?_) <;> (simp only [cmpP] at hc; try exact prIQ))) | (refine opk 9 rfl ?_; (refine ost_boxq H rfl ?_; clear H; intro bk wk H))) | refine Wc.seq ?_ | refine then_n ?_ | refine WL.nil ?_ | refine Wc.region ?_ | refine Wc.block ?_ | refine then_r ?_ | refine then_e ?_ | refine inb_e rfl ?_ | refine inb_o rfl ?_ | refine inb_n ?_ | refine inb_r ?_ | refine Wc.skip ?_ | refine Wc.exit ?_ | refine Wc.ret ?_ | refine Wc.cond_true rfl ?_ | refine Wc.cond_false rfl ?_ | (refine Wc.drawn (id := 4) 11 (by kernel_rfl) ?_) | refine WL.skp rfl rfl ?_ | refine WL.sku rfl ?_ | (refine rgs_nil ?_; intro vs wk hE; replace H := H.ext hE; clear hE) | refine RGs.skp (fun _ => rfl) rfl ?_ | (refine RGs.bq (fun _ => rfl) rfl (by intro vs w hE hP; have H := H.ext hE; first | exact dbQ | fail) (fun hc => ?_) (fun hc => ?_) <;> ((try simp only [cmpP, decide_eq_true_eq, decide_eq_false_iff_not, dcd_iff, dcd_no] at hc); try exact prDQ)) | refine RGs.pq (fun _ => rfl) rfl (by intro vs w hE hP; have H := H.ext hE; first | (refine opk 1 rfl ?_; (exact ost_V0d rfl (c1 _) rfl)) | exact dvQ | fail) ?_)
      refine ⟨ks.length + 1 - (i + 1), by omega, i + 1, rfl, by omega, by omega, by (repeat' (first | exact Agree.refl _ _ | exact Agree.havoc | refine Agree.upd rfl ?_ | refine Agree.hav2 rfl ?_)), rfl, fun j h hj => ?_, H⟩
      by_cases hji : j + 1 < i
      · exact hsrt j h hji
      · obtain rfl : j + 1 = i := by omega
        exact hq.1 hlq
    | false =>
      have c1 : ∀ w, SpecV Try.prog 38 #[.agg (cKey ks[i - 1]).toArray, .agg (cKey ks[i]).toArray] w (.bool false) := fun w => by
        have := r13_Less ks[i - 1] ks[i] w; rw [hlq] at this; exact this
      repeat' (first | ((first | refine WL.p rfl ?_ | refine WL.u ?_ | refine WL.g rfl rfl ?_ | refine WL.gu rfl ?_); first | (refine opk 1 rfl ?_; (refine ost_V H rfl (c1 _) rfl ?_; clear H; intro wk H)) | refine pvQ ?_ | (refine opk 3 rfl ?_; (refine ost_cmp rfl rfl rfl rfl (fun hc => ?_) (fun hc => ?_) <;> (simp only [cmpP] at hc; try exact prIQ))) | (refine opk 4 rfl ?_; (refine ost_cmp rfl rfl rfl rfl (fun hc => ?_) (fun hc => ?_) <;> (simp only [cmpP] at hc; try exact prIQ))) | (refine opk 9 rfl ?_; (refine ost_boxq H rfl ?_; clear H; intro bk wk H))) | refine Wc.seq ?_ | refine then_n ?_ | refine WL.nil ?_ | refine Wc.region ?_ | refine Wc.block ?_ | refine then_r ?_ | refine then_e ?_ | refine inb_e rfl ?_ | refine inb_o rfl ?_ | refine inb_n ?_ | refine inb_r ?_ | refine Wc.skip ?_ | refine Wc.exit ?_ | refine Wc.ret ?_ | refine Wc.cond_true rfl ?_ | refine Wc.cond_false rfl ?_ | (refine Wc.drawn (id := 4) 11 (by kernel_rfl) ?_) | refine WL.skp rfl rfl ?_ | refine WL.sku rfl ?_ | (refine rgs_nil ?_; intro vs wk hE; replace H := H.ext hE; clear hE) | refine RGs.skp (fun _ => rfl) rfl ?_ | (refine RGs.bq (fun _ => rfl) rfl (by intro vs w hE hP; have H := H.ext hE; first | exact dbQ | fail) (fun hc => ?_) (fun hc => ?_) <;> ((try simp only [cmpP, decide_eq_true_eq, decide_eq_false_iff_not, dcd_iff, dcd_no] at hc); try exact prDQ)) | refine RGs.pq (fun _ => rfl) rfl (by intro vs w hE hP; have H := H.ext hE; first | (refine opk 1 rfl ?_; (exact ost_V0d rfl (c1 _) rfl)) | exact dvQ | fail) ?_)
      (first | refine fn_ret1 (v := .bool _) rfl rfl ⟨?_, H.fr⟩ | refine fn_ret1 (v := .int _ _) rfl rfl ⟨?_, H.fr⟩ | refine fn_ret1 (v := .string _) rfl rfl ⟨?_, H.fr⟩); congr 1; symm
      refine rightP_no.2 fun h => ?_
      have h3 := h.1 (i - 1) (by show i - 1 + 1 < ks.length; omega)
      have e9 : (ks[i - 1 + 1]'(by omega)) = ks[i] := by congr 1; omega
      have h4 : keyN ks[i - 1] < keyN (ks[i - 1 + 1]'(by omega)) := h3
      rw [e9] at h4
      rw [hq.2 h4] at hlq; cases hlq
  · have hso : sortedK ks := fun j h => hsrt j h (by omega)
    cases lf
    · have hN := (shapeP_F ks ls ds).1
      have hY := (shapeP_F ks ls ds).2
      repeat' (first | ((first | refine WL.p rfl ?_ | refine WL.u ?_ | refine WL.g rfl rfl ?_ | refine WL.gu rfl ?_); first | refine pvQ ?_ | (refine opk 3 rfl ?_; (refine ost_cmp rfl rfl rfl rfl (fun hc => ?_) (fun hc => ?_) <;> (simp only [cmpP] at hc; try exact prIQ))) | (refine opk 4 rfl ?_; (refine ost_cmp rfl rfl rfl rfl (fun hc => ?_) (fun hc => ?_) <;> (simp only [cmpP] at hc; try exact prIQ))) | (refine opk 9 rfl ?_; (refine ost_boxq H rfl ?_; clear H; intro bk wk H))) | refine Wc.seq ?_ | refine then_n ?_ | refine WL.nil ?_ | refine Wc.region ?_ | refine Wc.block ?_ | refine then_r ?_ | refine then_e ?_ | refine inb_e rfl ?_ | refine inb_o rfl ?_ | refine inb_n ?_ | refine inb_r ?_ | refine Wc.skip ?_ | refine Wc.exit ?_ | refine Wc.ret ?_ | refine Wc.cond_true rfl ?_ | refine Wc.cond_false rfl ?_ | (refine Wc.drawn (id := 4) 11 (by kernel_rfl) ?_) | refine WL.skp rfl rfl ?_ | refine WL.sku rfl ?_ | (refine rgs_nil ?_; intro vs wk hE; replace H := H.ext hE; clear hE) | refine RGs.skp (fun _ => rfl) rfl ?_ | (refine RGs.bq (fun _ => rfl) rfl (by intro vs w hE hP; have H := H.ext hE; first | exact dbQ | fail) (fun hc => ?_) (fun hc => ?_) <;> ((try simp only [cmpP, decide_eq_true_eq, decide_eq_false_iff_not, dcd_iff, dcd_no] at hc); try exact prDQ)) | refine RGs.pq (fun _ => rfl) rfl (by intro vs w hE hP; have H := H.ext hE; first | exact dvQ | fail) ?_)
      all_goals ((first | refine fn_ret1 (v := .bool _) rfl rfl ⟨?_, H.fr⟩ | refine fn_ret1 (v := .int _ _) rfl rfl ⟨?_, H.fr⟩ | refine fn_ret1 (v := .string _) rfl rfl ⟨?_, H.fr⟩); congr 1; symm; first | exact rightP_iff.2 ⟨hso, hY (by omega)⟩ | (refine rightP_no.2 fun h => ?_; have h2 := hN h.2; omega))
    · have hN := (shapeP_T ks ls ds).1
      have hY := (shapeP_T ks ls ds).2
      repeat' (first | ((first | refine WL.p rfl ?_ | refine WL.u ?_ | refine WL.g rfl rfl ?_ | refine WL.gu rfl ?_); first | refine pvQ ?_ | (refine opk 3 rfl ?_; (refine ost_cmp rfl rfl rfl rfl (fun hc => ?_) (fun hc => ?_) <;> (simp only [cmpP] at hc; try exact prIQ))) | (refine opk 4 rfl ?_; (refine ost_cmp rfl rfl rfl rfl (fun hc => ?_) (fun hc => ?_) <;> (simp only [cmpP] at hc; try exact prIQ))) | (refine opk 9 rfl ?_; (refine ost_boxq H rfl ?_; clear H; intro bk wk H))) | refine Wc.seq ?_ | refine then_n ?_ | refine WL.nil ?_ | refine Wc.region ?_ | refine Wc.block ?_ | refine then_r ?_ | refine then_e ?_ | refine inb_e rfl ?_ | refine inb_o rfl ?_ | refine inb_n ?_ | refine inb_r ?_ | refine Wc.skip ?_ | refine Wc.exit ?_ | refine Wc.ret ?_ | refine Wc.cond_true rfl ?_ | refine Wc.cond_false rfl ?_ | (refine Wc.drawn (id := 4) 11 (by kernel_rfl) ?_) | refine WL.skp rfl rfl ?_ | refine WL.sku rfl ?_ | (refine rgs_nil ?_; intro vs wk hE; replace H := H.ext hE; clear hE) | refine RGs.skp (fun _ => rfl) rfl ?_ | (refine RGs.bq (fun _ => rfl) rfl (by intro vs w hE hP; have H := H.ext hE; first | exact dbQ | fail) (fun hc => ?_) (fun hc => ?_) <;> ((try simp only [cmpP, decide_eq_true_eq, decide_eq_false_iff_not, dcd_iff, dcd_no] at hc); try exact prDQ)) | refine RGs.pq (fun _ => rfl) rfl (by intro vs w hE hP; have H := H.ext hE; first | exact dvQ | fail) ?_)
      all_goals ((first | refine fn_ret1 (v := .bool _) rfl rfl ⟨?_, H.fr⟩ | refine fn_ret1 (v := .int _ _) rfl rfl ⟨?_, H.fr⟩ | refine fn_ret1 (v := .string _) rfl rfl ⟨?_, H.fr⟩); congr 1; symm; first | exact rightP_iff.2 ⟨hso, hY (by omega)⟩ | (refine rightP_no.2 fun h => ?_; have h2 := hN h.2; omega))
end Go.Tg

set_option linter.unusedVariables false
set_option linter.unusedSimpArgs false
set_option maxRecDepth 100000
set_option maxHeartbeats 4000000
namespace Go.Tg
open Go Go.Proofs
theorem cKey_one (k : KeyT) : (cKey k).all Value.oneCell' = true := rfl
theorem cLoc_one (k : LocT) : (cLoc k).all Value.oneCell' = true := rfl
theorem cLoc_len (k : LocT) : (cLoc k).length = 2 := rfl
structure ItemT where
  key : KeyT
  loc : LocT
def cItem (i : ItemT) : List Value := cKey i.key ++ cLoc i.loc
theorem cItem_len (i : ItemT) : (cItem i).length = 5 := rfl
theorem cItem_one (i : ItemT) : (cItem i).all Value.oneCell' = true := rfl
theorem cItem_key (i : ItemT) : ((cItem i).drop (0 + 0)).take 3 = cKey i.key := rfl
theorem cItem_loc (i : ItemT) : ((cItem i).drop (0 + 3)).take 2 = cLoc i.loc := rfl
theorem row_part {l : List Value} {o sz : Nat} {row : List Value} (h : (l.drop o).take sz = row) {q n : Nat} (hq : q + n ≤ sz) : (l.drop (o + q)).take n = (row.drop q).take n := by
  rw [← h, List.drop_take, List.take_take, List.drop_drop, Nat.min_eq_left (by omega)]
end Go.Tg

