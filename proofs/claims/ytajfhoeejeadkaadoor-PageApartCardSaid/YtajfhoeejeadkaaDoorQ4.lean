/- Contracts of Go functions that the laws reach: what each call answers and leaves in memory, for all arguments within the bounds that each theorem names. -/
import Derived.Test.YtajfhoeejeadkaaDoorInst
import Derived.Test.YtajfhoeejeadkaaDoorAuto
import Derived.Test.YtajfhoeejeadkaaDoorQ3
set_option linter.unusedVariables false
set_option linter.unusedSimpArgs false
set_option maxRecDepth 100000
set_option maxHeartbeats 4000000
namespace Go.Tg
open Go Go.Proofs
noncomputable def findP (p : PageT) (k : KeyT) : Nat × Bool := if rightP p = true then (cntK p.keys k, hasK p.keys k) else (0, false)
theorem page_Find (p : PageT) (A : PAd) (k : KeyT) (h0 : FH) (w : World) (hs : Sat h0 w) (hP : PgR h0 p A) : SpecV Tryd.prog 20 #[.agg (pgV p A).toArray, .agg (cKey k).toArray] w (.tuple #[.int .i64 (findP p k).1, .bool (findP p k).2]) := by
  have H := St.start hs
  have hR := page_Right p A h0
  have hq := @rightP_iff p
  have hF : ∀ q, rightP p = q → findP p k = if q = true then (cntK p.keys k, hasK p.keys k) else (0, false) := fun q h => by unfold findP; rw [h]
  generalize rightP p = q at hR hq hF
  rw [hF q rfl]
  clear hF
  obtain ⟨lf, ks, ls, ds⟩ := p
  obtain ⟨ak, ck, al, cl, ad, cd⟩ := A
  have e : pgV ⟨lf, ks, ls, ds⟩ ⟨ak, ck, al, cl, ad, cd⟩ = pgL lf ks.length ls.length ds.length ak ck al cl ad cd := rfl
  rw [e] at hR ⊢
  have lp : (pgL lf ks.length ls.length ds.length ak ck al cl ad cd).length = 4 := rfl
  have lk := cKey_len k
  dsimp only
  unfold SpecV
  refine calls_of Tryd.func20 rfl Tryd.ntmps20 (by simp) ?_
  cases q with
  | false =>
    repeat' (first | ((first | refine WL.p rfl ?_ | refine WL.u ?_); first | (refine opk 1 rfl ?_; (refine ost_V H rfl (hR _ H.sat hP) rfl ?_; clear H; intro wk H)) | refine pvQ ?_ | (refine opk 9 rfl ?_; (refine ost_boxq H rfl ?_; clear H; intro bk wk H))) | refine Wc.seq ?_ | refine then_n ?_ | refine WL.nil ?_ | refine Wc.region ?_ | refine Wc.block ?_ | refine then_r ?_ | refine then_e ?_ | refine inb_e rfl ?_ | refine inb_o rfl ?_ | refine inb_n ?_ | refine inb_r ?_ | refine Wc.skip ?_ | refine Wc.exit ?_ | refine Wc.ret ?_ | refine Wc.cond_true rfl ?_ | refine Wc.cond_false rfl ?_)
    exact fn_ret2 (v1 := .int _ _) (v2 := .bool _) rfl rfl rfl ⟨rfl, H.fr⟩
  | true =>
    obtain ⟨h1, h2⟩ := hq.1 rfl
    have h3 : ks.length ≤ 8 := by
      cases lf
      · exact ((shapeP_F _ _ _).1 h2).2.1
      · exact ((shapeP_T _ _ _).1 h2).1
    repeat' (first | ((first | refine WL.p rfl ?_ | refine WL.u ?_); first | (refine opk 1 rfl ?_; first | (refine ost_V H rfl (hR _ H.sat hP) rfl ?_; clear H; intro wk H) | (refine ost_V H rfl (bsearch ks h1 k _ _ _ _ H.sat hP.k (by omega)) rfl ?_; clear H; intro wk H)) | refine pvQ ?_ | (refine opk 9 rfl ?_; (refine ost_boxq H rfl ?_; clear H; intro bk wk H))) | refine Wc.seq ?_ | refine then_n ?_ | refine WL.nil ?_ | refine Wc.region ?_ | refine Wc.block ?_ | refine then_r ?_ | refine then_e ?_ | refine inb_e rfl ?_ | refine inb_o rfl ?_ | refine inb_n ?_ | refine inb_r ?_ | refine Wc.skip ?_ | refine Wc.exit ?_ | refine Wc.ret ?_ | refine Wc.cond_true rfl ?_ | refine Wc.cond_false rfl ?_)
    exact fn_ret2 (v1 := .int _ _) (v2 := .bool _) rfl rfl rfl ⟨rfl, H.fr⟩
end Go.Tg

