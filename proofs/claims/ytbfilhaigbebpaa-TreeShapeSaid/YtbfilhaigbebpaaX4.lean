/- Contracts of Go functions that the laws reach: what each call answers and leaves in memory, for all arguments within the bounds that each theorem names. -/
import Derived.Test.YtbfilhaigbebpaaInst
import Derived.Test.YtbfilhaigbebpaaAuto
import Derived.Test.YtbfilhaigbebpaaX0
import Derived.Test.YtbfilhaigbebpaaX3
import Derived.Test.YtbfilhaigbebpaaMp
set_option linter.unusedVariables false
set_option linter.unusedSimpArgs false
set_option maxRecDepth 100000
set_option maxHeartbeats 4000000
namespace Go.Tg
open Go Go.Proofs
def cntK (ks : List KeyT) (k : KeyT) : Nat := ks.countP fun x => lessK x k
noncomputable def hasK (ks : List KeyT) (k : KeyT) : Bool := dcd (k ∈ ks)
theorem lessK_iff {a b : KeyT} : lessK a b = true ↔ keyN a < keyN b := by simp [lessK]
theorem cntK_eq {ks : List KeyT} {k : KeyT} {i : Nat} (hi : i ≤ ks.length) (h1 : ∀ t (h : t < ks.length), t < i → keyN ks[t] < keyN k) (h2 : ∀ t (h : t < ks.length), i ≤ t → keyN k ≤ keyN ks[t]) : cntK ks k = i := by
  have e : ks = ks.take i ++ ks.drop i := (List.take_append_drop i ks).symm
  have ha : (ks.take i).countP (fun x => lessK x k) = (ks.take i).length := List.countP_eq_length.2 fun x hx => by
    obtain ⟨t, ht, rfl⟩ := List.getElem_of_mem hx
    have ht2 := ht
    simp at ht2
    rw [lessK_iff, List.getElem_take]
    exact h1 t (by omega) (by omega)
  have hb : (ks.drop i).countP (fun x => lessK x k) = 0 := List.countP_eq_zero.2 fun x hx => by
    obtain ⟨t, ht, rfl⟩ := List.getElem_of_mem hx
    have ht2 := ht
    simp at ht2
    rw [lessK_iff, List.getElem_drop]
    have := h2 (i + t) (by omega) (by omega)
    omega
  unfold cntK
  rw [e, List.countP_append, ha, hb]
  simp; omega
theorem sortedK_mono {ks : List KeyT} (hs : sortedK ks) : ∀ (d i : Nat) (h : i + d < ks.length), keyN (ks[i]'(by omega)) + d ≤ keyN ks[i + d]
  | 0, i, h => by simp
  | d + 1, i, h => by
    have h1 := sortedK_mono hs d i (by omega)
    have h2 := hs (i + d) (by omega)
    have e : (ks[i + (d + 1)]'h) = ks[i + d + 1]'(by omega) := rfl
    rw [e]; omega
theorem hasK_at {ks : List KeyT} {k : KeyT} {i : Nat} (h1 : ∀ t (h : t < ks.length), t < i → keyN ks[t] < keyN k) (hs : sortedK ks) : (∃ h : i < ks.length, keyN ks[i] = keyN k) ∨ ¬ (∃ h : i < ks.length, keyN ks[i] ≤ keyN k) → (hasK ks k = true ↔ ∃ h : i < ks.length, keyN ks[i] = keyN k) := by
  intro hor
  unfold hasK
  rw [dcd_iff]
  constructor
  · intro hm
    obtain ⟨t, ht, rfl⟩ := List.getElem_of_mem hm
    by_cases hti : t < i
    · have := h1 t ht hti; omega
    · have h3 := sortedK_mono hs (t - i) i (by omega)
      have e : (ks[i + (t - i)]'(by omega)) = ks[t] := by congr 1; omega
      rw [e] at h3
      rcases hor with h | h
      · exact h
      · exact absurd ⟨by omega, by omega⟩ h
  · rintro ⟨h, e⟩
    rw [← keyN_inj e]
    exact List.getElem_mem h
theorem bsearch (ks : List KeyT) (hsrt : sortedK ks) (k : KeyT) (a : Option Addr) (c : Nat) (h0 : FH) (w : World) (hs : Sat h0 w) (hr : Sl h0 3 a c (ks.map cKey)) (hb : ks.length ≤ 1000000) :
    SpecV Try.prog 54 #[.slice a ks.length c, .agg (cKey k).toArray, .func (.func 55) #[] #[]] w (.tuple #[.int .i64 (cntK ks k), .bool (hasK ks k)]) := by
  have H := St.start hs
  have q1 := hr.lenM
  have lk := cKey_len k
  unfold SpecV
  refine calls_of Try.func54 rfl Try.ntmps54 (by simp) ?_
  repeat' (first | ((first | refine WL.p rfl ?_ | refine WL.u ?_ | refine WL.g rfl rfl ?_ | refine WL.gu rfl ?_); first | refine pvQ ?_ | (refine opk 3 rfl ?_; (refine ost_cmp rfl rfl rfl rfl (fun hc => ?_) (fun hc => ?_) <;> (simp only [cmpP] at hc; try exact prIQ))) | (refine opk 4 rfl ?_; (refine ost_cmp rfl rfl rfl rfl (fun hc => ?_) (fun hc => ?_) <;> (simp only [cmpP] at hc; try exact prIQ))) | (refine opk 9 rfl ?_; (refine ost_boxq H rfl ?_; clear H; intro bk wk H))) | refine Wc.seq ?_ | refine then_n ?_ | refine WL.nil ?_ | refine Wc.region ?_ | refine Wc.block ?_ | refine then_r ?_ | refine then_e ?_ | refine inb_e rfl ?_ | refine inb_o rfl ?_ | refine inb_n ?_ | refine inb_r ?_ | refine Wc.skip ?_ | refine Wc.exit ?_ | refine Wc.ret ?_ | refine Wc.cond_true rfl ?_ | refine Wc.cond_false rfl ?_ | (refine Wc.drawn (id := 5) 6 (by kernel_rfl) ?_) | (refine Wc.drawn (id := 8) 15 (by kernel_rfl) ?_) | refine WL.skp rfl rfl ?_ | refine WL.sku rfl ?_ | (refine rgs_nil ?_; intro vs wk hE; replace H := H.ext hE; clear hE) | refine RGs.skp (fun _ => rfl) rfl ?_ | (refine RGs.bq (fun _ => rfl) rfl (by intro vs w hE hP; have H := H.ext hE; first | exact dbQ | fail) (fun hc => ?_) (fun hc => ?_) <;> ((try simp only [cmpP, decide_eq_true_eq, decide_eq_false_iff_not, dcd_iff, dcd_no] at hc); try exact prDQ)) | refine RGs.pq (fun _ => rfl) rfl (by intro vs w hE hP; have H := H.ext hE; first | exact dvQ | fail) ?_)
  refine Wc.loopE (fun s0 m s w' => ∃ i j : Nat, m = j - i ∧ i ≤ j ∧ j ≤ ks.length ∧ Agree [9, 10, 11, 15, 16, 17, 18, 19, 20, 21, 22, 23, 24, 25, 26, 27, 28, 29, 30, 31, 32, 33, 34] s s0 ∧ s 9 = .int .i64 i ∧ s 10 = .int .i64 j ∧
    (∀ t (h : t < ks.length), t < i → keyN ks[t] < keyN k) ∧ (∀ t (h : t < ks.length), j ≤ t → keyN k ≤ keyN ks[t]) ∧
    St w [] h0 h0 [.blk bk (.cells (cKey k).toArray 42 (0, 0))] w') ks.length ⟨0, ks.length, rfl, by omega, by omega, Agree.refl _ _, rfl, rfl, fun t h ht => absurd ht (by omega), fun t h ht => absurd h (by omega), H⟩ ?_
  clear H
  rintro m s w' ⟨i, j, rfl, hij, hj, hA, e1, e2, h1, h2, H⟩
  obtain ⟨jj, rfl⟩ := hA.env2 e1 e2
  clear hA e1 e2
  by_cases hlt : i < j
  · obtain ⟨b, off, l, T, fr, rfl, eb, eg⟩ := hr.getM (by decide) (by omega)
    have hfd : ((i : Int) + (j : Int)).fdiv (2 ^ min (1 : Int).toNat IntKind.u64.bits) = (((i + j) / 2 : Nat) : Int) := by
      rw [show (2 : Int) ^ min (1 : Int).toNat IntKind.u64.bits = 2 by decide, Int.fdiv_eq_ediv_of_nonneg _ (by decide)]; omega
    have hm1 : i ≤ (i + j) / 2 := by omega
    have hm2 : (i + j) / 2 < j := by omega
    generalize (i + j) / 2 = m at hfd hm1 hm2
    have g1 := eg (((i : Int) + (j : Int)).fdiv (2 ^ min (1 : Int).toNat IntKind.u64.bits)).toNat m (by omega) (by omega)
    have ho := ordK_lt ks[m] k
    have l1 := cKey_len ks[m]
    repeat' (first | ((first | refine WL.p rfl ?_ | refine WL.u ?_ | refine WL.g rfl rfl ?_ | refine WL.gu rfl ?_); first | (refine opk 1 rfl ?_; (refine ost_VE H (ent_v rfl rfl rfl) (page_order _ _ _) ?_; clear H; intro wk H)) | refine pvQ ?_ | (refine opk 3 rfl ?_; (refine ost_cmp rfl rfl rfl rfl (fun hc => ?_) (fun hc => ?_) <;> (simp only [cmpP] at hc; try exact prIQ))) | (refine opk 4 rfl ?_; (refine ost_cmp rfl rfl rfl rfl (fun hc => ?_) (fun hc => ?_) <;> (simp only [cmpP] at hc; try exact prIQ))) | (refine opk 9 rfl ?_; (refine ost_boxq H rfl ?_; clear H; intro bk wk H))) | refine Wc.seq ?_ | refine then_n ?_ | refine WL.nil ?_ | refine Wc.region ?_ | refine Wc.block ?_ | refine then_r ?_ | refine then_e ?_ | refine inb_e rfl ?_ | refine inb_o rfl ?_ | refine inb_n ?_ | refine inb_r ?_ | refine Wc.skip ?_ | refine Wc.exit ?_ | refine Wc.ret ?_ | refine Wc.cond_true rfl ?_ | refine Wc.cond_false rfl ?_ | (refine Wc.drawn (id := 5) 6 (by kernel_rfl) ?_) | (refine Wc.drawn (id := 8) 15 (by kernel_rfl) ?_) | refine WL.skp rfl rfl ?_ | refine WL.sku rfl ?_ | (refine rgs_nil ?_; intro vs wk hE; replace H := H.ext hE; clear hE) | refine RGs.skp (fun _ => rfl) rfl ?_ | (refine RGs.bq (fun _ => rfl) rfl (by intro vs w hE hP; have H := H.ext hE; first | exact dbQ | fail) (fun hc => ?_) (fun hc => ?_) <;> ((try simp only [cmpP, decide_eq_true_eq, decide_eq_false_iff_not, dcd_iff, dcd_no] at hc); try exact prDQ)) | refine RGs.pq (fun _ => rfl) rfl (by intro vs w hE hP; have H := H.ext hE; first | (refine opk 1 rfl ?_; (exact ost_V0E (ent_v rfl rfl rfl) (page_order _ _ _))) | exact dvQ | fail) ?_)
    · have hc : ordK ks[m] k < 0 := hc
      refine ⟨j - (m + 1), by omega, m + 1, j, rfl, by omega, by omega, by (repeat' (first | exact Agree.refl _ _ | exact Agree.havoc | refine Agree.upd rfl ?_ | refine Agree.hav2 rfl ?_)), ?_, rfl, fun t h ht => ?_, h2, H⟩
      · show Value.int .i64 (_ + 1) = _; rw [hfd]; rfl
      · have h3 := sortedK_mono hsrt (m - t) t (by omega)
        have e : (ks[t + (m - t)]'(by omega)) = ks[m] := by congr 1; omega
        rw [e] at h3
        have := ho.1 hc
        omega
    · have hc : ¬ ordK ks[m] k < 0 := hc
      refine ⟨m - i, by omega, i, m, rfl, by omega, by omega, by (repeat' (first | exact Agree.refl _ _ | exact Agree.havoc | refine Agree.upd rfl ?_ | refine Agree.hav2 rfl ?_)), rfl, ?_, h1, fun t h ht => ?_, H⟩
      · show Value.int .i64 _ = _; rw [hfd]
      · have h3 := sortedK_mono hsrt (t - m) m (by omega)
        have e : (ks[m + (t - m)]'(by omega)) = ks[t] := by congr 1; omega
        rw [e] at h3
        have := fun h => hc (ho.2 h)
        omega
  · obtain rfl : i = j := by omega
    have hcnt := cntK_eq hj h1 h2
    by_cases hn : i < ks.length
    · obtain ⟨b, off, l, T, fr, rfl, eb, eg⟩ := hr.getM (by decide) (by omega)
      have g1 := eg (i : Int).toNat i hn (by omega)
      have ho := ordK_zero ks[i] k
      have l1 := cKey_len ks[i]
      have h3 := h2 i hn (Nat.le_refl _)
      have hh := hasK_at (i := i) h1 hsrt (by
        by_cases h : keyN ks[i] = keyN k
        · exact .inl ⟨hn, h⟩
        · exact .inr fun ⟨_, h⟩ => by omega)
      repeat' (first | ((first | refine WL.p rfl ?_ | refine WL.u ?_ | refine WL.g rfl rfl ?_ | refine WL.gu rfl ?_); first | (refine opk 1 rfl ?_; (refine ost_VE H (ent_v rfl rfl rfl) (page_order _ _ _) ?_; clear H; intro wk H)) | refine pvQ ?_ | (refine opk 3 rfl ?_; (refine ost_cmp rfl rfl rfl rfl (fun hc => ?_) (fun hc => ?_) <;> (simp only [cmpP] at hc; try exact prIQ))) | (refine opk 4 rfl ?_; (refine ost_cmp rfl rfl rfl rfl (fun hc => ?_) (fun hc => ?_) <;> (simp only [cmpP] at hc; try exact prIQ))) | (refine opk 9 rfl ?_; (refine ost_boxq H rfl ?_; clear H; intro bk wk H))) | refine Wc.seq ?_ | refine then_n ?_ | refine WL.nil ?_ | refine Wc.region ?_ | refine Wc.block ?_ | refine then_r ?_ | refine then_e ?_ | refine inb_e rfl ?_ | refine inb_o rfl ?_ | refine inb_n ?_ | refine inb_r ?_ | refine Wc.skip ?_ | refine Wc.exit ?_ | refine Wc.ret ?_ | refine Wc.cond_true rfl ?_ | refine Wc.cond_false rfl ?_ | (refine Wc.drawn (id := 5) 6 (by kernel_rfl) ?_) | (refine Wc.drawn (id := 8) 15 (by kernel_rfl) ?_) | refine WL.skp rfl rfl ?_ | refine WL.sku rfl ?_ | (refine rgs_nil ?_; intro vs wk hE; replace H := H.ext hE; clear hE) | refine RGs.skp (fun _ => rfl) rfl ?_ | (refine RGs.bq (fun _ => rfl) rfl (by intro vs w hE hP; have H := H.ext hE; first | exact dbQ | fail) (fun hc => ?_) (fun hc => ?_) <;> ((try simp only [cmpP, decide_eq_true_eq, decide_eq_false_iff_not, dcd_iff, dcd_no] at hc); try exact prDQ)) | refine RGs.pq (fun _ => rfl) rfl (by intro vs w hE hP; have H := H.ext hE; first | (refine opk 1 rfl ?_; (exact ost_V0E (ent_v rfl rfl rfl) (page_order _ _ _))) | exact dvQ | fail) ?_)
      · have hc : ordK ks[i] k = 0 := hc
        refine fn_ret2 (v1 := .int _ _) (v2 := .bool _) rfl rfl rfl ⟨?_, H.fr⟩
        rw [hcnt, hh.2 ⟨hn, ho.1 hc⟩]
      · have hc : ¬ ordK ks[i] k = 0 := hc
        refine fn_ret2 (v1 := .int _ _) (v2 := .bool _) rfl rfl rfl ⟨?_, H.fr⟩
        have : hasK ks k = false := Bool.eq_false_iff.2 fun h => by obtain ⟨_, h4⟩ := hh.1 h; exact hc (ho.2 h4)
        rw [hcnt, this]
    · have hh := hasK_at (i := i) h1 hsrt (.inr fun ⟨h, _⟩ => hn h)
      have : hasK ks k = false := Bool.eq_false_iff.2 fun h => by obtain ⟨h4, _⟩ := hh.1 h; exact hn h4
      repeat' (first | ((first | refine WL.p rfl ?_ | refine WL.u ?_ | refine WL.g rfl rfl ?_ | refine WL.gu rfl ?_); first | refine pvQ ?_ | (refine opk 3 rfl ?_; (refine ost_cmp rfl rfl rfl rfl (fun hc => ?_) (fun hc => ?_) <;> (simp only [cmpP] at hc; try exact prIQ))) | (refine opk 4 rfl ?_; (refine ost_cmp rfl rfl rfl rfl (fun hc => ?_) (fun hc => ?_) <;> (simp only [cmpP] at hc; try exact prIQ))) | (refine opk 9 rfl ?_; (refine ost_boxq H rfl ?_; clear H; intro bk wk H))) | refine Wc.seq ?_ | refine then_n ?_ | refine WL.nil ?_ | refine Wc.region ?_ | refine Wc.block ?_ | refine then_r ?_ | refine then_e ?_ | refine inb_e rfl ?_ | refine inb_o rfl ?_ | refine inb_n ?_ | refine inb_r ?_ | refine Wc.skip ?_ | refine Wc.exit ?_ | refine Wc.ret ?_ | refine Wc.cond_true rfl ?_ | refine Wc.cond_false rfl ?_ | (refine Wc.drawn (id := 5) 6 (by kernel_rfl) ?_) | (refine Wc.drawn (id := 8) 15 (by kernel_rfl) ?_) | refine WL.skp rfl rfl ?_ | refine WL.sku rfl ?_ | (refine rgs_nil ?_; intro vs wk hE; replace H := H.ext hE; clear hE) | refine RGs.skp (fun _ => rfl) rfl ?_ | (refine RGs.bq (fun _ => rfl) rfl (by intro vs w hE hP; have H := H.ext hE; first | exact dbQ | fail) (fun hc => ?_) (fun hc => ?_) <;> ((try simp only [cmpP, decide_eq_true_eq, decide_eq_false_iff_not, dcd_iff, dcd_no] at hc); try exact prDQ)) | refine RGs.pq (fun _ => rfl) rfl (by intro vs w hE hP; have H := H.ext hE; first | exact dvQ | fail) ?_)
      refine fn_ret2 (v1 := .int _ _) (v2 := .bool _) rfl rfl rfl ⟨?_, H.fr⟩
      rw [hcnt, this]
end Go.Tg

set_option linter.unusedVariables false
set_option linter.unusedSimpArgs false
set_option maxRecDepth 100000
set_option maxHeartbeats 4000000
namespace Go.Tg
open Go Go.Proofs
noncomputable def findP (p : PageT) (k : KeyT) : Nat × Bool := if rightP p = true then (cntK p.keys k, hasK p.keys k) else (0, false)
theorem page_Find (p : PageT) (A : PAd) (k : KeyT) (h0 : FH) (w : World) (hs : Sat h0 w) (hP : PgR h0 p A) : SpecV Try.prog 34 #[.agg (pgV p A).toArray, .agg (cKey k).toArray] w (.tuple #[.int .i64 (findP p k).1, .bool (findP p k).2]) := by
  have H := St.start hs
  have hR := page_Right p A h0
  have hq := @rightP_iff p
  have hF : ∀ q, rightP p = q → findP p k = if q = true then (cntK p.keys k, hasK p.keys k) else (0, false) := fun q h => by unfold findP; rw [h]
  generalize rightP p = q at hR hq hF
  rw [hF q rfl]
  clear hF
  obtain ⟨lf, ks, ls, ds⟩ := p
  obtain ⟨ak, ck, al, cl, ad, cd⟩ := A
  have e : pgV ⟨lf, ks, ls, ds⟩ ⟨ak, ck, al, cl, ad, cd⟩ = pgL lf ks.length ls.length ds.length ak ck al cl ad cd := rfl
  rw [e] at hR ⊢
  have lp : (pgL lf ks.length ls.length ds.length ak ck al cl ad cd).length = 4 := rfl
  have lk := cKey_len k
  dsimp only
  unfold SpecV
  refine calls_of Try.func34 rfl Try.ntmps34 (by simp) ?_
  cases q with
  | false =>
    repeat' (first | ((first | refine WL.p rfl ?_ | refine WL.u ?_); first | (refine opk 1 rfl ?_; (refine ost_V H rfl (hR _ H.sat hP) rfl ?_; clear H; intro wk H)) | refine pvQ ?_ | (refine opk 9 rfl ?_; (refine ost_boxq H rfl ?_; clear H; intro bk wk H))) | refine Wc.seq ?_ | refine then_n ?_ | refine WL.nil ?_ | refine Wc.region ?_ | refine Wc.block ?_ | refine then_r ?_ | refine then_e ?_ | refine inb_e rfl ?_ | refine inb_o rfl ?_ | refine inb_n ?_ | refine inb_r ?_ | refine Wc.skip ?_ | refine Wc.exit ?_ | refine Wc.ret ?_ | refine Wc.cond_true rfl ?_ | refine Wc.cond_false rfl ?_)
    exact fn_ret2 (v1 := .int _ _) (v2 := .bool _) rfl rfl rfl ⟨rfl, H.fr⟩
  | true =>
    obtain ⟨h1, h2⟩ := hq.1 rfl
    have h3 : ks.length ≤ 8 := by
      cases lf
      · exact ((shapeP_F _ _ _).1 h2).2.1
      · exact ((shapeP_T _ _ _).1 h2).1
    repeat' (first | ((first | refine WL.p rfl ?_ | refine WL.u ?_); first | (refine opk 1 rfl ?_; first | (refine ost_V H rfl (hR _ H.sat hP) rfl ?_; clear H; intro wk H) | (refine ost_V H rfl (bsearch ks h1 k _ _ _ _ H.sat hP.k (by omega)) rfl ?_; clear H; intro wk H)) | refine pvQ ?_ | (refine opk 9 rfl ?_; (refine ost_boxq H rfl ?_; clear H; intro bk wk H))) | refine Wc.seq ?_ | refine then_n ?_ | refine WL.nil ?_ | refine Wc.region ?_ | refine Wc.block ?_ | refine then_r ?_ | refine then_e ?_ | refine inb_e rfl ?_ | refine inb_o rfl ?_ | refine inb_n ?_ | refine inb_r ?_ | refine Wc.skip ?_ | refine Wc.exit ?_ | refine Wc.ret ?_ | refine Wc.cond_true rfl ?_ | refine Wc.cond_false rfl ?_)
    exact fn_ret2 (v1 := .int _ _) (v2 := .bool _) rfl rfl rfl ⟨rfl, H.fr⟩
end Go.Tg

set_option linter.unusedVariables false
set_option linter.unusedSimpArgs false
set_option maxRecDepth 100000
set_option maxHeartbeats 4000000
namespace Go.Tg
open Go Go.Proofs
theorem ones_key (l : List KeyT) : ∀ u ∈ (l.map cKey).flatten, u.oneCell' = true := by
  intro u hu
  obtain ⟨r, h1, h2⟩ := List.mem_flatten.1 hu
  obtain ⟨x, -, rfl⟩ := List.mem_map.1 h1
  exact allOne_of (cKey_one x) u h2
theorem ones_loc (l : List LocT) : ∀ u ∈ (l.map cLoc).flatten, u.oneCell' = true := by
  intro u hu
  obtain ⟨r, h1, h2⟩ := List.mem_flatten.1 hu
  obtain ⟨x, -, rfl⟩ := List.mem_map.1 h1
  exact allOne_of (cLoc_one x) u h2
theorem ones_kid (l : List UInt32) : ∀ u ∈ (l.map cKid).flatten, u.oneCell' = true := by
  intro u hu
  obtain ⟨r, h1, h2⟩ := List.mem_flatten.1 hu
  obtain ⟨x, -, rfl⟩ := List.mem_map.1 h1
  simp [cKid] at h2
  subst h2; rfl
theorem cloneK (n : Nat) (h0 : FH) (a : Option Addr) (c : Nat) (xs : List KeyT) (w : World) (hs : Sat h0 w) (hn : n = xs.length) (hP : Sl h0 3 a c (xs.map cKey)) (hb : xs.length ≤ 1000000) :
    Spec Try.prog 63 #[.slice a n c] w [] h0 (fun v h' L' => h' = h0 ∧ ∃ a' c', v = .slice a' n c' ∧ L' = [ownR (.slice a' n c') 42 3 (xs.map cKey)]) := by
  subst hn
  have H := St.start hs
  have hl : (xs.map cKey).length = xs.length := List.length_map ..
  have hone := ones_key xs
  unfold Spec
  refine calls_of Try.func63 rfl Try.ntmps63 (by simp) ?_
  cases a with
  | none =>
    obtain ⟨h1, h2⟩ := hP.empty
    obtain rfl : xs = [] := List.map_eq_nil_iff.1 h1
    subst h2
    dsimp only [List.length_nil]
    repeat' (first | ((first | refine WL.p rfl ?_ | refine WL.u ?_); first | refine pvQ ?_ | (refine opk 3 rfl ?_; first | (refine ost_slEq rfl rfl rfl (fun hc => ?_) (fun hc => ?_) <;> try (simp at hc; done)) | (refine ost_slNe rfl rfl rfl (fun hc => ?_) (fun hc => ?_) <;> try (simp at hc; done))) | (refine opk 9 rfl ?_; (refine ost_build1 H rfl rfl rfl evQ lsQ rfl ?_; clear H; intro bk wk H))) | refine Wc.seq ?_ | refine then_n ?_ | refine WL.nil ?_ | refine Wc.region ?_ | refine Wc.block ?_ | refine then_r ?_ | refine then_e ?_ | refine inb_e rfl ?_ | refine inb_o rfl ?_ | refine inb_n ?_ | refine inb_r ?_ | refine Wc.skip ?_ | refine Wc.exit ?_ | refine Wc.ret ?_ | refine Wc.cond_true rfl ?_ | refine Wc.cond_false rfl ?_)
    all_goals first | (exfalso; omega) | exact fn_ret1 (v := .slice _ _ _) rfl rfl ⟨_, _, H.nilOwn 42 3, rfl, _, _, rfl, rfl⟩
  | some ad =>
    rw [← hl]
    repeat' (first | ((first | refine WL.p rfl ?_ | refine WL.u ?_); first | (refine opk 1 rfl ?_; (refine ost_appRs (rows := []) (more := xs.map cKey) H rfl rfl rfl (by (exact ixQ)) (hP.full H) (by rfl) (by decide) hone rfl (by simp only [List.length_nil]; omega) ?_; clear H; intro aa ca wk H; simp only [List.set_cons_zero, List.nil_append] at H)) | (refine opk 9 rfl ?_; (refine ost_buildR (rows := []) H rfl (by decide) rfl (by rfl) evP_nil .nil rfl (fun r hr => absurd hr List.not_mem_nil) ?_; clear H; intro bk wk H)) | refine pvQ ?_ | (refine opk 3 rfl ?_; first | (refine ost_slEq rfl rfl rfl (fun hc => ?_) (fun hc => ?_) <;> try (simp at hc; done)) | (refine ost_slNe rfl rfl rfl (fun hc => ?_) (fun hc => ?_) <;> try (simp at hc; done))) | (refine opk 9 rfl ?_; (refine ost_build1 H rfl rfl rfl evQ lsQ rfl ?_; clear H; intro bk wk H))) | refine Wc.seq ?_ | refine then_n ?_ | refine WL.nil ?_ | refine Wc.region ?_ | refine Wc.block ?_ | refine then_r ?_ | refine then_e ?_ | refine inb_e rfl ?_ | refine inb_o rfl ?_ | refine inb_n ?_ | refine inb_r ?_ | refine Wc.skip ?_ | refine Wc.exit ?_ | refine Wc.ret ?_ | refine Wc.cond_true rfl ?_ | refine Wc.cond_false rfl ?_)
    all_goals first | exact absurd ‹(some ad).isNone = true› (by simp) | exact fn_ret1 (v := .slice _ _ _) rfl rfl ⟨_, _, H.pick 0 rfl, rfl, _, _, rfl, rfl⟩
theorem cloneL (n : Nat) (h0 : FH) (a : Option Addr) (c : Nat) (xs : List LocT) (w : World) (hs : Sat h0 w) (hn : n = xs.length) (hP : Sl h0 2 a c (xs.map cLoc)) (hb : xs.length ≤ 1000000) :
    Spec Try.prog 64 #[.slice a n c] w [] h0 (fun v h' L' => h' = h0 ∧ ∃ a' c', v = .slice a' n c' ∧ L' = [ownR (.slice a' n c') 48 2 (xs.map cLoc)]) := by
  subst hn
  have H := St.start hs
  have hl : (xs.map cLoc).length = xs.length := List.length_map ..
  have hone := ones_loc xs
  unfold Spec
  refine calls_of Try.func64 rfl Try.ntmps64 (by simp) ?_
  cases a with
  | none =>
    obtain ⟨h1, h2⟩ := hP.empty
    obtain rfl : xs = [] := List.map_eq_nil_iff.1 h1
    subst h2
    dsimp only [List.length_nil]
    repeat' (first | ((first | refine WL.p rfl ?_ | refine WL.u ?_); first | refine pvQ ?_ | (refine opk 3 rfl ?_; first | (refine ost_slEq rfl rfl rfl (fun hc => ?_) (fun hc => ?_) <;> try (simp at hc; done)) | (refine ost_slNe rfl rfl rfl (fun hc => ?_) (fun hc => ?_) <;> try (simp at hc; done))) | (refine opk 9 rfl ?_; (refine ost_build1 H rfl rfl rfl evQ lsQ rfl ?_; clear H; intro bk wk H))) | refine Wc.seq ?_ | refine then_n ?_ | refine WL.nil ?_ | refine Wc.region ?_ | refine Wc.block ?_ | refine then_r ?_ | refine then_e ?_ | refine inb_e rfl ?_ | refine inb_o rfl ?_ | refine inb_n ?_ | refine inb_r ?_ | refine Wc.skip ?_ | refine Wc.exit ?_ | refine Wc.ret ?_ | refine Wc.cond_true rfl ?_ | refine Wc.cond_false rfl ?_)
    all_goals first | (exfalso; omega) | exact fn_ret1 (v := .slice _ _ _) rfl rfl ⟨_, _, H.nilOwn 48 2, rfl, _, _, rfl, rfl⟩
  | some ad =>
    rw [← hl]
    repeat' (first | ((first | refine WL.p rfl ?_ | refine WL.u ?_); first | (refine opk 1 rfl ?_; (refine ost_appRs (rows := []) (more := xs.map cLoc) H rfl rfl rfl (by (exact ixQ)) (hP.full H) (by rfl) (by decide) hone rfl (by simp only [List.length_nil]; omega) ?_; clear H; intro aa ca wk H; simp only [List.set_cons_zero, List.nil_append] at H)) | (refine opk 9 rfl ?_; (refine ost_buildR (rows := []) H rfl (by decide) rfl (by rfl) evP_nil .nil rfl (fun r hr => absurd hr List.not_mem_nil) ?_; clear H; intro bk wk H)) | refine pvQ ?_ | (refine opk 3 rfl ?_; first | (refine ost_slEq rfl rfl rfl (fun hc => ?_) (fun hc => ?_) <;> try (simp at hc; done)) | (refine ost_slNe rfl rfl rfl (fun hc => ?_) (fun hc => ?_) <;> try (simp at hc; done))) | (refine opk 9 rfl ?_; (refine ost_build1 H rfl rfl rfl evQ lsQ rfl ?_; clear H; intro bk wk H))) | refine Wc.seq ?_ | refine then_n ?_ | refine WL.nil ?_ | refine Wc.region ?_ | refine Wc.block ?_ | refine then_r ?_ | refine then_e ?_ | refine inb_e rfl ?_ | refine inb_o rfl ?_ | refine inb_n ?_ | refine inb_r ?_ | refine Wc.skip ?_ | refine Wc.exit ?_ | refine Wc.ret ?_ | refine Wc.cond_true rfl ?_ | refine Wc.cond_false rfl ?_)
    all_goals first | exact absurd ‹(some ad).isNone = true› (by simp) | exact fn_ret1 (v := .slice _ _ _) rfl rfl ⟨_, _, H.pick 0 rfl, rfl, _, _, rfl, rfl⟩
theorem cloneD (n : Nat) (h0 : FH) (a : Option Addr) (c : Nat) (xs : List UInt32) (w : World) (hs : Sat h0 w) (hn : n = xs.length) (hP : Sl h0 1 a c (xs.map cKid)) (hb : xs.length ≤ 1000000) :
    Spec Try.prog 65 #[.slice a n c] w [] h0 (fun v h' L' => h' = h0 ∧ ∃ a' c', v = .slice a' n c' ∧ L' = [ownR (.slice a' n c') 24 1 (xs.map cKid)]) := by
  subst hn
  have H := St.start hs
  have hl : (xs.map cKid).length = xs.length := List.length_map ..
  have hone := ones_kid xs
  unfold Spec
  refine calls_of Try.func65 rfl Try.ntmps65 (by simp) ?_
  cases a with
  | none =>
    obtain ⟨h1, h2⟩ := hP.empty
    obtain rfl : xs = [] := List.map_eq_nil_iff.1 h1
    subst h2
    dsimp only [List.length_nil]
    repeat' (first | ((first | refine WL.p rfl ?_ | refine WL.u ?_); first | refine pvQ ?_ | (refine opk 3 rfl ?_; first | (refine ost_slEq rfl rfl rfl (fun hc => ?_) (fun hc => ?_) <;> try (simp at hc; done)) | (refine ost_slNe rfl rfl rfl (fun hc => ?_) (fun hc => ?_) <;> try (simp at hc; done))) | (refine opk 9 rfl ?_; (refine ost_build1 H rfl rfl rfl evQ lsQ rfl ?_; clear H; intro bk wk H))) | refine Wc.seq ?_ | refine then_n ?_ | refine WL.nil ?_ | refine Wc.region ?_ | refine Wc.block ?_ | refine then_r ?_ | refine then_e ?_ | refine inb_e rfl ?_ | refine inb_o rfl ?_ | refine inb_n ?_ | refine inb_r ?_ | refine Wc.skip ?_ | refine Wc.exit ?_ | refine Wc.ret ?_ | refine Wc.cond_true rfl ?_ | refine Wc.cond_false rfl ?_)
    all_goals first | (exfalso; omega) | exact fn_ret1 (v := .slice _ _ _) rfl rfl ⟨_, _, H.nilOwn 24 1, rfl, _, _, rfl, rfl⟩
  | some ad =>
    rw [← hl]
    repeat' (first | ((first | refine WL.p rfl ?_ | refine WL.u ?_); first | (refine opk 1 rfl ?_; (refine ost_appRs (rows := []) (more := xs.map cKid) H rfl rfl rfl (by (exact ixQ)) (hP.full H) (by rfl) (by decide) hone rfl (by simp only [List.length_nil]; omega) ?_; clear H; intro aa ca wk H; simp only [List.set_cons_zero, List.nil_append] at H)) | (refine opk 9 rfl ?_; (refine ost_buildR (rows := []) H rfl (by decide) rfl (by rfl) evP_nil .nil rfl (fun r hr => absurd hr List.not_mem_nil) ?_; clear H; intro bk wk H)) | refine pvQ ?_ | (refine opk 3 rfl ?_; first | (refine ost_slEq rfl rfl rfl (fun hc => ?_) (fun hc => ?_) <;> try (simp at hc; done)) | (refine ost_slNe rfl rfl rfl (fun hc => ?_) (fun hc => ?_) <;> try (simp at hc; done))) | (refine opk 9 rfl ?_; (refine ost_build1 H rfl rfl rfl evQ lsQ rfl ?_; clear H; intro bk wk H))) | refine Wc.seq ?_ | refine then_n ?_ | refine WL.nil ?_ | refine Wc.region ?_ | refine Wc.block ?_ | refine then_r ?_ | refine then_e ?_ | refine inb_e rfl ?_ | refine inb_o rfl ?_ | refine inb_n ?_ | refine inb_r ?_ | refine Wc.skip ?_ | refine Wc.exit ?_ | refine Wc.ret ?_ | refine Wc.cond_true rfl ?_ | refine Wc.cond_false rfl ?_)
    all_goals first | exact absurd ‹(some ad).isNone = true› (by simp) | exact fn_ret1 (v := .slice _ _ _) rfl rfl ⟨_, _, H.pick 0 rfl, rfl, _, _, rfl, rfl⟩
noncomputable def kidP (p : PageT) (k : KeyT) : Nat := if (findP p k).2 = true then (findP p k).1 else (findP p k).1 - 1
theorem tree_kid (p : PageT) (A : PAd) (k : KeyT) (h0 : FH) (w : World) (hs : Sat h0 w) (hP : PgR h0 p A) : SpecV Try.prog 51 #[.agg (pgV p A).toArray, .agg (cKey k).toArray] w (.int .i64 (kidP p k : Nat)) := by
  have H := St.start hs
  have lp := pgV_len p A
  have lk := cKey_len k
  have hF := fun w hs => page_Find p A k h0 w hs hP
  unfold SpecV
  refine calls_of Try.func51 rfl Try.ntmps51 (by simp) ?_
  unfold kidP
  have hib : (findP p k).1 ≤ p.keys.length := by
    unfold findP; split
    · exact List.countP_le_length
    · exact Nat.zero_le _
  have hkl := hP.k.lenM
  generalize findP p k = F at *
  obtain ⟨i, q⟩ := F
  dsimp only at hF hib ⊢
  cases q with
  | true =>
    rw [if_pos rfl]
    repeat' (first | ((first | refine WL.p rfl ?_ | refine WL.u ?_); first | (refine opk 1 rfl ?_; (refine ost_V H rfl (hF _ H.sat) rfl ?_; clear H; intro wk H)) | refine pvQ ?_ | (refine opk 9 rfl ?_; (refine ost_boxq H rfl ?_; clear H; intro bk wk H))) | refine Wc.seq ?_ | refine then_n ?_ | refine WL.nil ?_ | refine Wc.region ?_ | refine Wc.block ?_ | refine then_r ?_ | refine then_e ?_ | refine inb_e rfl ?_ | refine inb_o rfl ?_ | refine inb_n ?_ | refine inb_r ?_ | refine Wc.skip ?_ | refine Wc.exit ?_ | refine Wc.ret ?_ | refine Wc.cond_true rfl ?_ | refine Wc.cond_false rfl ?_)
    (first | refine fn_ret1 (v := .bool _) rfl rfl ⟨?_, H.fr⟩ | refine fn_ret1 (v := .int _ _) rfl rfl ⟨?_, H.fr⟩ | refine fn_ret1 (v := .string _) rfl rfl ⟨?_, H.fr⟩); rfl
  | false =>
    rw [if_neg Bool.false_ne_true]
    have hmx : max (0 : Int) ((i : Int) - 1) = ((i - 1 : Nat) : Int) := by omega
    repeat' (first | ((first | refine WL.p rfl ?_ | refine WL.u ?_); first | (refine opk 1 rfl ?_; (refine ost_V H rfl (hF _ H.sat) rfl ?_; clear H; intro wk H)) | refine pvQ ?_ | (refine opk 9 rfl ?_; (refine ost_boxq H rfl ?_; clear H; intro bk wk H))) | refine Wc.seq ?_ | refine then_n ?_ | refine WL.nil ?_ | refine Wc.region ?_ | refine Wc.block ?_ | refine then_r ?_ | refine then_e ?_ | refine inb_e rfl ?_ | refine inb_o rfl ?_ | refine inb_n ?_ | refine inb_r ?_ | refine Wc.skip ?_ | refine Wc.exit ?_ | refine Wc.ret ?_ | refine Wc.cond_true rfl ?_ | refine Wc.cond_false rfl ?_)
    rw [hmx]
    (first | refine fn_ret1 (v := .bool _) rfl rfl ⟨?_, H.fr⟩ | refine fn_ret1 (v := .int _ _) rfl rfl ⟨?_, H.fr⟩ | refine fn_ret1 (v := .string _) rfl rfl ⟨?_, H.fr⟩); rfl
end Go.Tg

