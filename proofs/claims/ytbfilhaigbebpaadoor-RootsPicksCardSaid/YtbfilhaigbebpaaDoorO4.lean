/- Contracts of Go functions that the laws reach: what each call answers and leaves in memory, for all arguments within the bounds that each theorem names. -/
import Derived.Test.YtbfilhaigbebpaaDoorInst
import Derived.Test.YtbfilhaigbebpaaDoorAuto
import Derived.Test.YtbfilhaigbebpaaDoorVecC
import Derived.Test.YtbfilhaigbebpaaDoorC5
import Derived.Test.YtbfilhaigbebpaaDoorW6
import Derived.Test.YtbfilhaigbebpaaDoorL2
set_option linter.unusedVariables false
set_option linter.unusedSimpArgs false
set_option maxRecDepth 100000
set_option maxHeartbeats 4000000
namespace Go.Tg
open Go Go.Proofs
def numsB (l : List Nat) : List UInt8 := (l.map putB).flatten
theorem numsB_app (a b : List Nat) : numsB (a ++ b) = numsB a ++ numsB b := by simp [numsB]
theorem numsB_one (n : Nat) : numsB [n] = putB n := by simp [numsB]
theorem numsB_cons (n : Nat) (l : List Nat) : numsB (n :: l) = putB n ++ numsB l := by simp [numsB]
theorem numsB_nil : numsB [] = [] := rfl
theorem numsB_len (l : List Nat) : (numsB l).length ≤ 11 * l.length := by
  induction l with
  | nil => simp [numsB]
  | cons n l ih => rw [numsB_cons, List.length_append, List.length_cons]; have := putB_len n; omega
theorem pack_NumK (b : Nat) (v : Value) (xs : List UInt8) (g : FH) (w : World) (HO : St w (wr b true 0 v xs).fp g g [wr b true 0 v xs] w) (n : Nat) (hn : n < 18446744073709551616) (hx : xs.length ≤ 65000) :
    Spec Tryd.prog 33 #[pt b, .int .u64 n] w (wr b true 0 v xs).fp g (fun v' h' L' => v' = .int .i64 0 ∧ ∃ v2, L' = [wr b true 0 v2 (xs ++ putB n)]) := by
  have := pack_Num b true 0 v xs g w HO n hn (by omega)
  rw [layE_ok (by have := putB_len n; omega)] at this; exact this
theorem frame_WrapK (h0 : FH) (a : Option Addr) (c : Nat) (xs : List UInt8) (w : World) (hs : Sat h0 w) (hT : Half h0) (hr : BS h0 a c xs) (hl : xs.length ≤ 4096) :
    Spec Tryd.prog 35 #[.slice a xs.length c] w [] h0 (fun v h' L' => ∃ a' c', v = .tuple #[.slice a' (wrapB xs).length c', .int .i64 0] ∧ h' = h0 ∧ L' = [own8 (.slice a' (wrapB xs).length c') 5 (wrapB xs)]) := by
  have := frame_Wrap h0 a c xs w hs hT hr
  rw [outW_ok hl] at this; exact this
def rowP (lf : Bool) (ks : List KeyT) (ls : List LocT) (ds : List UInt32) (i : Nat) : List Nat :=
  match ks[i]? with
  | some k => [k.cart.toNat, k.dot.rep.toNat, k.dot.seq.toNat] ++ (if lf = true then (match ls[i]? with | some l => [l.seg.toNat, l.at_.toNat] | none => []) else (match ds[i]? with | some x => [x.toNat] | none => []))
  | none => []
def rowsP (lf : Bool) (ks : List KeyT) (ls : List LocT) (ds : List UInt32) (k : Nat) : List Nat := ((List.range k).map (rowP lf ks ls ds)).flatten
def natsP (p : PageT) : List Nat := (if p.leaf = true then 1 else 0) :: p.keys.length :: rowsP p.leaf p.keys p.locs p.kids p.keys.length
def encP (p : PageT) : List UInt8 := wrapB (numsB (natsP p))
noncomputable def outP (p : PageT) : List UInt8 × Int := if rightP p = true then (encP p, 0) else ([], 15)
theorem rowsP_succ (lf : Bool) (ks : List KeyT) (ls : List LocT) (ds : List UInt32) (k : Nat) : rowsP lf ks ls ds (k + 1) = rowsP lf ks ls ds k ++ rowP lf ks ls ds k := by simp [rowsP, List.range_succ, List.flatten_append]
theorem rowP_leaf {ks : List KeyT} {ls : List LocT} {ds : List UInt32} {i : Nat} (h : i < ks.length) (h2 : i < ls.length) : rowP true ks ls ds i = [ks[i].cart.toNat, ks[i].dot.rep.toNat, ks[i].dot.seq.toNat, ls[i].seg.toNat, ls[i].at_.toNat] := by
  simp [rowP, h, h2]
theorem rowP_kid {ks : List KeyT} {ls : List LocT} {ds : List UInt32} {i : Nat} (h : i < ks.length) (h2 : i < ds.length) : rowP false ks ls ds i = [ks[i].cart.toNat, ks[i].dot.rep.toNat, ks[i].dot.seq.toNat, ds[i].toNat] := by
  simp [rowP, h, h2]
theorem rowP_len (lf : Bool) (ks : List KeyT) (ls : List LocT) (ds : List UInt32) (i : Nat) : (rowP lf ks ls ds i).length ≤ 5 := by
  unfold rowP
  split
  · split
    · split <;> simp
    · split <;> simp
  · simp
theorem rowsP_len (lf : Bool) (ks : List KeyT) (ls : List LocT) (ds : List UInt32) (k : Nat) : (rowsP lf ks ls ds k).length ≤ 5 * k := by
  induction k with
  | zero => simp [rowsP]
  | succ k ih => rw [rowsP_succ, List.length_append]; have := rowP_len lf ks ls ds k; omega
theorem numsR_len (x n : Nat) (lf : Bool) (ks : List KeyT) (ls : List LocT) (ds : List UInt32) {k : Nat} (hk : k ≤ 8) : (numsB (x :: n :: rowsP lf ks ls ds k)).length ≤ 462 := by
  have h1 := numsB_len (x :: n :: rowsP lf ks ls ds k)
  have h2 := rowsP_len lf ks ls ds k
  simp only [List.length_cons] at h1
  omega
theorem numsR_zero (x n : Nat) (lf : Bool) (ks : List KeyT) (ls : List LocT) (ds : List UInt32) : putB x ++ putB n = numsB (x :: n :: rowsP lf ks ls ds 0) := by simp [numsB, rowsP]
theorem numsR_succ (x n : Nat) (lf : Bool) (ks : List KeyT) (ls : List LocT) (ds : List UInt32) (k : Nat) : numsB (x :: n :: rowsP lf ks ls ds (k + 1)) = numsB (x :: n :: rowsP lf ks ls ds k) ++ numsB (rowP lf ks ls ds k) := by
  rw [rowsP_succ, show x :: n :: (rowsP lf ks ls ds k ++ rowP lf ks ls ds k) = (x :: n :: rowsP lf ks ls ds k) ++ rowP lf ks ls ds k from rfl, numsB_app]
theorem page_Encode (p : PageT) (A : PAd) (h0 : FH) (w : World) (hs : Sat h0 w) (hT : Half h0) (hP : PgR h0 p A) :
    Spec Tryd.prog 61 #[.agg (pgV p A).toArray] w [] h0 (fun v h' L' => ∃ a' c', v = .tuple #[.slice a' (outP p).1.length c', .int .i64 (outP p).2] ∧ h' = h0 ∧ L' = [own8 (.slice a' (outP p).1.length c') 5 (outP p).1]) := by
  have hR := page_Right p A h0
  have H := St.start hs
  have hq := @rightP_iff p
  have hF : ∀ q, rightP p = q → outP p = if q = true then (encP p, 0) else ([], 15) := fun q h => by unfold outP; rw [h]
  generalize rightP p = q at hR hq hF
  rw [hF q rfl]
  clear hF
  obtain ⟨lf, ks, ls, ds⟩ := p
  obtain ⟨ak, ck, al, cl, ad, cd⟩ := A
  have e : pgV ⟨lf, ks, ls, ds⟩ ⟨ak, ck, al, cl, ad, cd⟩ = pgL lf ks.length ls.length ds.length ak ck al cl ad cd := rfl
  rw [e] at hR ⊢
  have lp : (pgL lf ks.length ls.length ds.length ak ck al cl ad cd).length = 4 := rfl
  have q1 := hP.k.lenM
  have q2 := hP.l.lenM
  have q3 := hP.d.lenM
  dsimp only at q1 q2 q3 ⊢
  unfold Spec
  refine calls_of Tryd.func61 rfl Tryd.ntmps61 (by simp) ?_
  cases q with
  | false =>
    repeat' (first | ((first | refine WL.p rfl ?_ | refine WL.u ?_); first | (refine opk 1 rfl ?_; (refine ost_V H rfl (hR _ H.sat hP) rfl ?_; clear H; intro wk H)) | refine pvQ ?_ | (refine opk 3 rfl ?_; (refine ost_cmp rfl rfl rfl rfl (fun hc => ?_) (fun hc => ?_) <;> (simp only [cmpP] at hc; try exact prIQ))) | (refine opk 4 rfl ?_; (refine ost_cmp rfl rfl rfl rfl (fun hc => ?_) (fun hc => ?_) <;> (simp only [cmpP] at hc; try exact prIQ))) | (refine opk 8 rfl ?_; (refine ost_storeW H rfl rfl rfl rfl lQ ixQ lQ okQ ?_; clear H; intro wk H; simp only [List.set_cons_zero, List.set_cons_succ, Nat.reduceAdd] at H)) | (refine opk 9 rfl ?_; first | (refine ost_boxq H rfl ?_; clear H; intro bk wk H) | (refine ost_allocA H rfl ?_; clear H; intro bk wk H))) | refine Wc.seq ?_ | refine then_n ?_ | refine WL.nil ?_ | refine Wc.region ?_ | refine Wc.block ?_ | refine then_r ?_ | refine then_e ?_ | refine inb_e rfl ?_ | refine inb_o rfl ?_ | refine inb_n ?_ | refine inb_r ?_ | refine Wc.skip ?_ | refine Wc.exit ?_ | refine Wc.ret ?_ | refine Wc.cond_true rfl ?_ | refine Wc.cond_false rfl ?_)
    exact fn_ret2 (v1 := .slice _ _ _) (v2 := .int _ _) rfl rfl rfl ⟨_, _, (H.nil8 5).pick 0 rfl, _, _, rfl, rfl, rfl⟩
  | true =>
    obtain ⟨hs1, hs2⟩ := hq.1 rfl
    rw [if_pos rfl]
    dsimp only
    have z0 := putB_len 0
    have z1 := putB_len 1
    cases lf with
    | true =>
      have hs2 := (shapeP_T _ _ _).1 hs2
      repeat' (first | ((first | refine WL.p rfl ?_ | refine WL.u ?_); first | (refine opk 1 rfl ?_; first | (refine ost_V H rfl (hR _ H.sat hP) rfl ?_; clear H; intro wk H) | (refine ost_C H rfl (pack_New _ _ (sat_full _)) rfl ?_; clear H; rintro vk wk hfk Lk ⟨b1, rfl, rfl⟩ H; simp only [List.cons_append, List.nil_append] at H) | (refine ost_O (A := wr _ _ _ _ _) H rfl (by (exact ixQ)) (fun HO => pack_NumK _ _ _ _ _ HO 1 (by omega) (by decide)) rfl ?_; clear H; rintro vk wk hfk Lk ⟨rfl, v3, rfl⟩ H; simp only [List.cons_append, List.nil_append, List.eraseIdx_cons_zero, List.eraseIdx_cons_succ] at H) | (refine ost_O (A := wr _ _ _ _ _) H rfl (by (exact ixQ)) (fun HO => pack_NumK _ _ _ _ _ HO ks.length (by omega) (by omega)) rfl ?_; clear H; rintro vk wk hfk Lk ⟨rfl, v3, rfl⟩ H; simp only [List.cons_append, List.nil_append, List.eraseIdx_cons_zero, List.eraseIdx_cons_succ] at H)) | refine pvQ ?_ | (refine opk 3 rfl ?_; (refine ost_cmp rfl rfl rfl rfl (fun hc => ?_) (fun hc => ?_) <;> (simp only [cmpP] at hc; try exact prIQ))) | (refine opk 4 rfl ?_; (refine ost_cmp rfl rfl rfl rfl (fun hc => ?_) (fun hc => ?_) <;> (simp only [cmpP] at hc; try exact prIQ))) | (refine opk 8 rfl ?_; (refine ost_storeW H rfl rfl rfl rfl lQ ixQ lQ okQ ?_; clear H; intro wk H; simp only [List.set_cons_zero, List.set_cons_succ, Nat.reduceAdd] at H)) | (refine opk 9 rfl ?_; first | (refine ost_boxq H rfl ?_; clear H; intro bk wk H) | (refine ost_allocA H rfl ?_; clear H; intro bk wk H))) | refine Wc.seq ?_ | refine then_n ?_ | refine WL.nil ?_ | refine Wc.region ?_ | refine Wc.block ?_ | refine then_r ?_ | refine then_e ?_ | refine inb_e rfl ?_ | refine inb_o rfl ?_ | refine inb_n ?_ | refine inb_r ?_ | refine Wc.skip ?_ | refine Wc.exit ?_ | refine Wc.ret ?_ | refine Wc.cond_true rfl ?_ | refine Wc.cond_false rfl ?_)
      rw [numsR_zero 1 ks.length true ks ls ds] at H
      refine Wc.loopE (fun s0 m s w' => ∃ (k : Nat) (v : Value), m = ks.length - k ∧ k ≤ ks.length ∧ Agree [6, 7, 28, 29, 30, 31, 32, 33, 34, 35, 36, 37, 38, 39, 40, 41, 42, 43, 44, 45, 46, 47, 48, 49, 50, 51, 52, 53, 54, 55, 56, 57, 58, 59, 60, 61, 62, 63, 64, 65, 66, 67, 68, 69, 70, 71, 72, 73, 74, 75, 76, 77, 78, 79] s s0 ∧ s 28 = .int .i64 k ∧
        St w [] h0 h0 [wr b1 true 0 v (numsB (1 :: ks.length :: rowsP true ks ls ds k)), .blk bk (.cells (pgL true ks.length ls.length ds.length ak ck al cl ad cd).toArray 59 (0, 0))] w') ks.length ⟨0, _, rfl, by omega, Agree.refl _ _, rfl, H⟩ ?_
      clear H
      rintro m s w' ⟨k, v, rfl, hk, hA, e1, H⟩
      obtain ⟨j, rfl⟩ := hA.env1 e1
      clear hA e1
      have hx := numsR_len 1 ks.length true ks ls ds (k := k) (by omega)
      by_cases hlt : k < ks.length
      · obtain ⟨b, off, l, T, fr, e2, eb, eg⟩ := hP.k.getM (by decide) (Nat.lt_of_le_of_lt (Nat.zero_le _) hlt)
        obtain ⟨b3, off3, l3, T3, fr3, e3, eb3, eg3⟩ := hP.l.getM (by decide) (Nat.lt_of_lt_of_le (Nat.lt_of_le_of_lt (Nat.zero_le _) hlt) (Nat.le_of_eq hs2.2.1.symm))
        dsimp only at e2 eg e3 eg3
        subst e2; subst e3
        have hlt3 : k < ls.length := by omega
        have g1 := eg (k : Int).toNat k hlt (by omega)
        have g3 := eg3 (k : Int).toNat k hlt3 (by omega)
        have hrow := rowP_leaf (ds := ds) hlt hlt3
        have hsucc := numsR_succ 1 ks.length true ks ls ds k
        rw [hrow] at hsucc
        clear hrow eg eg3
        have g4 : l3[off3 + (k : Int).toNat * 2 + 0]? = some (.int .u32 ls[k].seg.toNat) := row_cell g3 (q := 0) (by simp [cLoc, cKid])
        have g5 : l3[off3 + (k : Int).toNat * 2 + 1]? = some (.int .u32 ls[k].at_.toNat) := row_cell g3 (q := 1) (by simp [cLoc, cKid])
        generalize ks[k] = x at g1 hsucc
        generalize ls[k] = y at g4 g5 hsucc
        have lx := cKey_len x
        have p1 := putB_len x.cart.toNat; have p2 := putB_len x.dot.rep.toNat; have p3 := putB_len x.dot.seq.toNat; have p4 := putB_len y.seg.toNat; have p5 := putB_len y.at_.toNat
        have u1 := x.cart.toNat_lt; have u2 := x.dot.rep.toNat_lt; have u3 := x.dot.seq.toNat_lt; have u4 := y.seg.toNat_lt; have u5 := y.at_.toNat_lt
        repeat' (first | ((first | refine WL.p rfl ?_ | refine WL.u ?_); first | (refine opk 1 rfl ?_; (refine ost_O (A := wr _ _ _ _ _) H rfl (by (exact ixQ)) (fun HO => pack_NumK _ _ _ _ _ HO _ (by omega) (by (try simp only [List.length_append]); omega)) rfl ?_; clear H; rintro vk wk hfk Lk ⟨rfl, v3, rfl⟩ H; simp only [List.cons_append, List.nil_append, List.eraseIdx_cons_zero, List.eraseIdx_cons_succ] at H)) | refine pvQ ?_ | (refine opk 3 rfl ?_; (refine ost_cmp rfl rfl rfl rfl (fun hc => ?_) (fun hc => ?_) <;> (simp only [cmpP] at hc; try exact prIQ))) | (refine opk 4 rfl ?_; (refine ost_cmp rfl rfl rfl rfl (fun hc => ?_) (fun hc => ?_) <;> (simp only [cmpP] at hc; try exact prIQ))) | (refine opk 8 rfl ?_; (refine ost_storeW H rfl rfl rfl rfl lQ ixQ lQ okQ ?_; clear H; intro wk H; simp only [List.set_cons_zero, List.set_cons_succ, Nat.reduceAdd] at H)) | (refine opk 9 rfl ?_; first | (refine ost_boxq H rfl ?_; clear H; intro bk wk H) | (refine ost_allocA H rfl ?_; clear H; intro bk wk H))) | refine Wc.seq ?_ | refine then_n ?_ | refine WL.nil ?_ | refine Wc.region ?_ | refine Wc.block ?_ | refine then_r ?_ | refine then_e ?_ | refine inb_e rfl ?_ | refine inb_o rfl ?_ | refine inb_n ?_ | refine inb_r ?_ | refine Wc.skip ?_ | refine Wc.exit ?_ | refine Wc.ret ?_ | refine Wc.cond_true rfl ?_ | refine Wc.cond_false rfl ?_)
        refine ⟨ks.length - (k + 1), by omega, k + 1, v3, rfl, by omega, by (repeat' (first | exact Agree.refl _ _ | exact Agree.havoc | refine Agree.upd rfl ?_ | refine Agree.hav2 rfl ?_)), rfl, ?_⟩
        rw [hsucc]
        simp only [numsB_cons, numsB_nil, List.append_nil, ← List.append_assoc]
        simp only [numsB_cons, ← List.append_assoc] at H
        exact H.pick2 0 2 rfl rfl (by decide)
      · obtain rfl : k = ks.length := by omega
        have e0 : numsB (1 :: ks.length :: rowsP true ks ls ds ks.length) = numsB (natsP ⟨true, ks, ls, ds⟩) := rfl
        rw [e0] at H hx
        repeat' (first | ((first | refine WL.p rfl ?_ | refine WL.u ?_); first | (refine opk 1 rfl ?_; first | (refine ost_O (A := wr _ _ _ _ _) H rfl (by (exact ixQ)) (fun HO => pack_All0 _ _ _ _ _ _ HO (by omega) rfl) rfl ?_; clear H; rintro vk wk hfk Lk ⟨a4, c4, rfl, _, rfl⟩ H; simp only [List.cons_append, List.nil_append, List.eraseIdx_cons_zero, List.eraseIdx_cons_succ] at H) | (refine ost_C H rfl (frame_WrapK _ _ _ (numsB (natsP ⟨true, ks, ls, ds⟩)) _ (sat_full _) (hT.full H) (H.own8rd (i := 0) rfl) (by omega)) rfl ?_; clear H; rintro vk wk hfk Lk ⟨a5, c5, rfl, _, rfl⟩ H; simp only [List.cons_append, List.nil_append] at H)) | refine pvQ ?_ | (refine opk 3 rfl ?_; (refine ost_cmp rfl rfl rfl rfl (fun hc => ?_) (fun hc => ?_) <;> (simp only [cmpP] at hc; try exact prIQ))) | (refine opk 4 rfl ?_; (refine ost_cmp rfl rfl rfl rfl (fun hc => ?_) (fun hc => ?_) <;> (simp only [cmpP] at hc; try exact prIQ))) | (refine opk 8 rfl ?_; (refine ost_storeW H rfl rfl rfl rfl lQ ixQ lQ okQ ?_; clear H; intro wk H; simp only [List.set_cons_zero, List.set_cons_succ, Nat.reduceAdd] at H)) | (refine opk 9 rfl ?_; first | (refine ost_boxq H rfl ?_; clear H; intro bk wk H) | (refine ost_allocA H rfl ?_; clear H; intro bk wk H))) | refine Wc.seq ?_ | refine then_n ?_ | refine WL.nil ?_ | refine Wc.region ?_ | refine Wc.block ?_ | refine then_r ?_ | refine then_e ?_ | refine inb_e rfl ?_ | refine inb_o rfl ?_ | refine inb_n ?_ | refine inb_r ?_ | refine Wc.skip ?_ | refine Wc.exit ?_ | refine Wc.ret ?_ | refine Wc.cond_true rfl ?_ | refine Wc.cond_false rfl ?_)
        exact fn_ret2 (v1 := .slice _ _ _) (v2 := .int _ _) rfl rfl rfl ⟨_, _, H.pick 0 rfl, _, _, rfl, rfl, rfl⟩
    | false =>
      have hs2 := (shapeP_F _ _ _).1 hs2
      repeat' (first | ((first | refine WL.p rfl ?_ | refine WL.u ?_); first | (refine opk 1 rfl ?_; first | (refine ost_V H rfl (hR _ H.sat hP) rfl ?_; clear H; intro wk H) | (refine ost_C H rfl (pack_New _ _ (sat_full _)) rfl ?_; clear H; rintro vk wk hfk Lk ⟨b1, rfl, rfl⟩ H; simp only [List.cons_append, List.nil_append] at H) | (refine ost_O (A := wr _ _ _ _ _) H rfl (by (exact ixQ)) (fun HO => pack_NumK _ _ _ _ _ HO 0 (by omega) (by decide)) rfl ?_; clear H; rintro vk wk hfk Lk ⟨rfl, v3, rfl⟩ H; simp only [List.cons_append, List.nil_append, List.eraseIdx_cons_zero, List.eraseIdx_cons_succ] at H) | (refine ost_O (A := wr _ _ _ _ _) H rfl (by (exact ixQ)) (fun HO => pack_NumK _ _ _ _ _ HO ks.length (by omega) (by omega)) rfl ?_; clear H; rintro vk wk hfk Lk ⟨rfl, v3, rfl⟩ H; simp only [List.cons_append, List.nil_append, List.eraseIdx_cons_zero, List.eraseIdx_cons_succ] at H)) | refine pvQ ?_ | (refine opk 3 rfl ?_; (refine ost_cmp rfl rfl rfl rfl (fun hc => ?_) (fun hc => ?_) <;> (simp only [cmpP] at hc; try exact prIQ))) | (refine opk 4 rfl ?_; (refine ost_cmp rfl rfl rfl rfl (fun hc => ?_) (fun hc => ?_) <;> (simp only [cmpP] at hc; try exact prIQ))) | (refine opk 8 rfl ?_; (refine ost_storeW H rfl rfl rfl rfl lQ ixQ lQ okQ ?_; clear H; intro wk H; simp only [List.set_cons_zero, List.set_cons_succ, Nat.reduceAdd] at H)) | (refine opk 9 rfl ?_; first | (refine ost_boxq H rfl ?_; clear H; intro bk wk H) | (refine ost_allocA H rfl ?_; clear H; intro bk wk H))) | refine Wc.seq ?_ | refine then_n ?_ | refine WL.nil ?_ | refine Wc.region ?_ | refine Wc.block ?_ | refine then_r ?_ | refine then_e ?_ | refine inb_e rfl ?_ | refine inb_o rfl ?_ | refine inb_n ?_ | refine inb_r ?_ | refine Wc.skip ?_ | refine Wc.exit ?_ | refine Wc.ret ?_ | refine Wc.cond_true rfl ?_ | refine Wc.cond_false rfl ?_)
      rw [numsR_zero 0 ks.length false ks ls ds] at H
      refine Wc.loopE (fun s0 m s w' => ∃ (k : Nat) (v : Value), m = ks.length - k ∧ k ≤ ks.length ∧ Agree [6, 7, 28, 29, 30, 31, 32, 33, 34, 35, 36, 37, 38, 39, 40, 41, 42, 43, 44, 45, 46, 47, 48, 49, 50, 51, 52, 53, 54, 55, 56, 57, 58, 59, 60, 61, 62, 63, 64, 65, 66, 67, 68, 69, 70, 71, 72, 73, 74, 75, 76, 77, 78, 79] s s0 ∧ s 28 = .int .i64 k ∧
        St w [] h0 h0 [wr b1 true 0 v (numsB (0 :: ks.length :: rowsP false ks ls ds k)), .blk bk (.cells (pgL false ks.length ls.length ds.length ak ck al cl ad cd).toArray 59 (0, 0))] w') ks.length ⟨0, _, rfl, by omega, Agree.refl _ _, rfl, H⟩ ?_
      clear H
      rintro m s w' ⟨k, v, rfl, hk, hA, e1, H⟩
      obtain ⟨j, rfl⟩ := hA.env1 e1
      clear hA e1
      have hx := numsR_len 0 ks.length false ks ls ds (k := k) (by omega)
      by_cases hlt : k < ks.length
      · obtain ⟨b, off, l, T, fr, e2, eb, eg⟩ := hP.k.getM (by decide) (Nat.lt_of_le_of_lt (Nat.zero_le _) hlt)
        obtain ⟨b3, off3, l3, T3, fr3, e3, eb3, eg3⟩ := hP.d.getM (by decide) (Nat.lt_of_lt_of_le (Nat.lt_of_le_of_lt (Nat.zero_le _) hlt) (Nat.le_of_eq hs2.2.2.1.symm))
        dsimp only at e2 eg e3 eg3
        subst e2; subst e3
        have hlt3 : k < ds.length := by omega
        have g1 := eg (k : Int).toNat k hlt (by omega)
        have g3 := eg3 (k : Int).toNat k hlt3 (by omega)
        have hrow := rowP_kid (ls := ls) hlt hlt3
        have hsucc := numsR_succ 0 ks.length false ks ls ds k
        rw [hrow] at hsucc
        clear hrow eg eg3
        have g4 : l3[off3 + (k : Int).toNat * 1]? = some (.int .u32 ds[k].toNat) := row_cell g3 (q := 0) (by simp [cLoc, cKid])
        generalize ks[k] = x at g1 hsucc
        generalize ds[k] = y at g4 hsucc
        have lx := cKey_len x
        have p1 := putB_len x.cart.toNat; have p2 := putB_len x.dot.rep.toNat; have p3 := putB_len x.dot.seq.toNat; have p4 := putB_len y.toNat
        have u1 := x.cart.toNat_lt; have u2 := x.dot.rep.toNat_lt; have u3 := x.dot.seq.toNat_lt; have u4 := y.toNat_lt
        repeat' (first | ((first | refine WL.p rfl ?_ | refine WL.u ?_); first | (refine opk 1 rfl ?_; (refine ost_O (A := wr _ _ _ _ _) H rfl (by (exact ixQ)) (fun HO => pack_NumK _ _ _ _ _ HO _ (by omega) (by (try simp only [List.length_append]); omega)) rfl ?_; clear H; rintro vk wk hfk Lk ⟨rfl, v3, rfl⟩ H; simp only [List.cons_append, List.nil_append, List.eraseIdx_cons_zero, List.eraseIdx_cons_succ] at H)) | refine pvQ ?_ | (refine opk 3 rfl ?_; (refine ost_cmp rfl rfl rfl rfl (fun hc => ?_) (fun hc => ?_) <;> (simp only [cmpP] at hc; try exact prIQ))) | (refine opk 4 rfl ?_; (refine ost_cmp rfl rfl rfl rfl (fun hc => ?_) (fun hc => ?_) <;> (simp only [cmpP] at hc; try exact prIQ))) | (refine opk 8 rfl ?_; (refine ost_storeW H rfl rfl rfl rfl lQ ixQ lQ okQ ?_; clear H; intro wk H; simp only [List.set_cons_zero, List.set_cons_succ, Nat.reduceAdd] at H)) | (refine opk 9 rfl ?_; first | (refine ost_boxq H rfl ?_; clear H; intro bk wk H) | (refine ost_allocA H rfl ?_; clear H; intro bk wk H))) | refine Wc.seq ?_ | refine then_n ?_ | refine WL.nil ?_ | refine Wc.region ?_ | refine Wc.block ?_ | refine then_r ?_ | refine then_e ?_ | refine inb_e rfl ?_ | refine inb_o rfl ?_ | refine inb_n ?_ | refine inb_r ?_ | refine Wc.skip ?_ | refine Wc.exit ?_ | refine Wc.ret ?_ | refine Wc.cond_true rfl ?_ | refine Wc.cond_false rfl ?_)
        refine ⟨ks.length - (k + 1), by omega, k + 1, v3, rfl, by omega, by (repeat' (first | exact Agree.refl _ _ | exact Agree.havoc | refine Agree.upd rfl ?_ | refine Agree.hav2 rfl ?_)), rfl, ?_⟩
        rw [hsucc]
        simp only [numsB_cons, numsB_nil, List.append_nil, ← List.append_assoc]
        simp only [numsB_cons, ← List.append_assoc] at H
        exact H.pick2 0 2 rfl rfl (by decide)
      · obtain rfl : k = ks.length := by omega
        have e0 : numsB (0 :: ks.length :: rowsP false ks ls ds ks.length) = numsB (natsP ⟨false, ks, ls, ds⟩) := rfl
        rw [e0] at H hx
        repeat' (first | ((first | refine WL.p rfl ?_ | refine WL.u ?_); first | (refine opk 1 rfl ?_; first | (refine ost_O (A := wr _ _ _ _ _) H rfl (by (exact ixQ)) (fun HO => pack_All0 _ _ _ _ _ _ HO (by omega) rfl) rfl ?_; clear H; rintro vk wk hfk Lk ⟨a4, c4, rfl, _, rfl⟩ H; simp only [List.cons_append, List.nil_append, List.eraseIdx_cons_zero, List.eraseIdx_cons_succ] at H) | (refine ost_C H rfl (frame_WrapK _ _ _ (numsB (natsP ⟨false, ks, ls, ds⟩)) _ (sat_full _) (hT.full H) (H.own8rd (i := 0) rfl) (by omega)) rfl ?_; clear H; rintro vk wk hfk Lk ⟨a5, c5, rfl, _, rfl⟩ H; simp only [List.cons_append, List.nil_append] at H)) | refine pvQ ?_ | (refine opk 3 rfl ?_; (refine ost_cmp rfl rfl rfl rfl (fun hc => ?_) (fun hc => ?_) <;> (simp only [cmpP] at hc; try exact prIQ))) | (refine opk 4 rfl ?_; (refine ost_cmp rfl rfl rfl rfl (fun hc => ?_) (fun hc => ?_) <;> (simp only [cmpP] at hc; try exact prIQ))) | (refine opk 8 rfl ?_; (refine ost_storeW H rfl rfl rfl rfl lQ ixQ lQ okQ ?_; clear H; intro wk H; simp only [List.set_cons_zero, List.set_cons_succ, Nat.reduceAdd] at H)) | (refine opk 9 rfl ?_; first | (refine ost_boxq H rfl ?_; clear H; intro bk wk H) | (refine ost_allocA H rfl ?_; clear H; intro bk wk H))) | refine Wc.seq ?_ | refine then_n ?_ | refine WL.nil ?_ | refine Wc.region ?_ | refine Wc.block ?_ | refine then_r ?_ | refine then_e ?_ | refine inb_e rfl ?_ | refine inb_o rfl ?_ | refine inb_n ?_ | refine inb_r ?_ | refine Wc.skip ?_ | refine Wc.exit ?_ | refine Wc.ret ?_ | refine Wc.cond_true rfl ?_ | refine Wc.cond_false rfl ?_)
        exact fn_ret2 (v1 := .slice _ _ _) (v2 := .int _ _) rfl rfl rfl ⟨_, _, H.pick 0 rfl, _, _, rfl, rfl, rfl⟩
end Go.Tg

set_option linter.unusedVariables false
set_option linter.unusedSimpArgs false
set_option maxRecDepth 100000
set_option maxHeartbeats 4000000
namespace Go.Tg
open Go Go.Proofs
def cN (l : List Nat) : List Value := l.map fun (n : Nat) => Value.int .u64 (n : Int)
theorem numsB_step (l : List Nat) {k : Nat} (h : k < l.length) : numsB (l.take (k + 1)) = numsB (l.take k) ++ putB l[k] := by
  rw [List.take_add_one, List.getElem?_eq_getElem h, numsB_app]; simp [numsB]
end Go.Tg

set_option linter.unusedVariables false
set_option linter.unusedSimpArgs false
set_option maxRecDepth 100000
set_option maxHeartbeats 4000000
namespace Go.Tg
open Go Go.Proofs
def numsO (o : OpT) (k : Nat) : Nat := if k = 0 then o.dot.rep.toNat else if k = 1 then o.dot.seq.toNat else if k = 2 then o.kind.toNat else if k = 3 then o.cart.toNat else if k = 4 then o.item.toNat else if k = 5 then o.qty.toNat else o.tick.toNat
theorem numsO_lt (o : OpT) (k : Nat) : numsO o k < 4294967296 := by
  have h1 := o.dot.rep.toNat_lt; have h2 := o.dot.seq.toNat_lt; have h3 := o.kind.toNat_lt; have h4 := o.cart.toNat_lt; have h5 := o.item.toNat_lt; have h6 := o.qty.toNat_lt; have h7 := o.tick.toNat_lt
  unfold numsO; repeat' split
  all_goals omega
def putsO (o : OpT) (k : Nat) : List UInt8 := ((List.range k).map fun i => putB (numsO o i)).flatten
def encO (o : OpT) : List UInt8 := putsO o 7 ++ fieldB (encV o.ctx)
end Go.Tg

