/- Contracts of Go functions that the laws reach: what each call answers and leaves in memory, for all arguments within the bounds that each theorem names. -/
import Derived.Test.YtbfilhaigbebpaaInst
import Derived.Test.YtbfilhaigbebpaaAuto
import Derived.Test.YtbfilhaigbebpaaX6
set_option linter.unusedVariables false
set_option linter.unusedSimpArgs false
set_option maxRecDepth 100000
set_option maxHeartbeats 4000000
namespace Go.Tg
open Go Go.Proofs
abbrev pT (b : Nat) : Value := .pointer (some ⟨b, 0, none⟩)
structure TrM where
  pages : List (ME UInt32)
  pclk : Nat
  roots : List (ME UInt32)
  rclk : Nat
  root : UInt32
  next : UInt32
abbrev trO (tb mb rb : Nat) (T : TrM) : HA := .both (.blk tb (.cells [Value.map (some mb), .map (some rb), .int .u32 T.root.toNat, .int .u32 T.next.toNat].toArray 76 (0, 0))) (.both (.blk mb (mpO cU T.pages T.pclk)) (.blk rb (mpO cU T.roots T.rclk)))
def TrM.lay (T : TrM) (v : Value) : TrM := { T with pages := (setM T.pages T.pclk (T.next + 1) v).1, pclk := (setM T.pages T.pclk (T.next + 1) v).2, next := T.next + 1 }
def TrM.reroot (T : TrM) (n : UInt32) (items : Int) : TrM := { T with root := n, roots := (setM T.roots T.rclk n (.int .i64 items)).1, rclk := (setM T.roots T.rclk n (.int .i64 items)).2 }
theorem u32_succ (n : UInt32) : IntKind.u32.wrap ((n.toNat : Int) + 1) = (((n + 1).toNat : Nat) : Int) := by
  have h : ((n + 1).toNat) = (n.toNat + 1) % 4294967296 := by rw [UInt32.toNat_add]; rfl
  rw [h]
  have hw : ∀ m : Nat, IntKind.u32.wrap (m : Int) = ((m % 4294967296 : Nat) : Int) := fun m => by
    unfold IntKind.wrap; first | (simp [IntKind.signed, IntKind.bits]; done) | (simp [IntKind.signed, IntKind.bits]; omega)
  exact hw (n.toNat + 1)
theorem tr_lay (tb mb rb : Nat) (T : TrM) (p : PageT) (A : PAd) (g : FH) (w : World) (HO : St w (trO tb mb rb T).fp g g [trO tb mb rb T] w) :
    Spec Try.prog 28 #[pT tb, .agg (pgV p A).toArray] w (trO tb mb rb T).fp g (fun v h' L' => h' = g ∧ v = .int .u32 ((T.next + 1).toNat : Nat) ∧ L' = [trO tb mb rb (T.lay (.agg (pgV p A).toArray))]) := by
  have H := HO.split3
  generalize hF9 : (trO tb mb rb T).fp = F9 at H ⊢
  have lp := pgV_len p A
  have hw := u32_succ T.next
  have hk : Value.int .u32 (((T.next + 1).toNat : Nat) : Int) = cU (T.next + 1) := rfl
  unfold Spec
  refine calls_of Try.func28 rfl Try.ntmps28 (by simp) ?_
  repeat' (first | ((first | refine WL.p rfl ?_ | refine WL.u ?_); first | refine pvQ ?_ | (refine opk 8 rfl ?_; (refine ost_store1 H rfl rfl vlQ gvQ ixQ (by first | decide | (simp; omega) | (simp; done) | omega) ?_; clear H; intro wk H; simp only [List.set_cons_zero, List.set_cons_succ, Nat.reduceAdd] at H)) | (refine opk 9 rfl ?_; (refine ost_boxq H rfl ?_; clear H; intro bk wk H))) | refine Wc.seq ?_ | refine then_n ?_ | refine WL.nil ?_ | refine Wc.region ?_ | refine Wc.block ?_ | refine then_r ?_ | refine then_e ?_ | refine inb_e rfl ?_ | refine inb_o rfl ?_ | refine inb_n ?_ | refine inb_r ?_ | refine Wc.skip ?_ | refine Wc.exit ?_ | refine Wc.ret ?_ | refine Wc.cond_true rfl ?_ | refine Wc.cond_false rfl ?_ | (refine Wc.drawn (id := 2) 9 (by kernel_rfl) ?_) | (refine rgs_nil ?_; intro vs wk hE; replace H := H.ext hE; clear hE) | (refine RGs.bq (fun _ => rfl) rfl (by intro vs w hE hP; have H := H.ext hE; first | exact dbQ | fail) (fun hc => ?_) (fun hc => ?_) <;> ((try simp only [cmpP, decide_eq_true_eq, decide_eq_false_iff_not, dcd_iff, dcd_no] at hc); try exact prDQ)) | refine RGs.pq (fun _ => rfl) rfl (by intro vs w hE hP; have H := H.ext hE; first | exact dvQ | fail) ?_)
  rw [hw] at H ⊢
  repeat' (first | ((first | refine WL.p rfl ?_ | refine WL.u ?_); first | (refine opk 13 rfl ?_; (refine ost_mapUpdate (k := T.next + 1) (i := 2) H rfl rfl rfl rfl rfl ?_; clear H; intro wk H; simp only [List.set_cons_zero, List.set_cons_succ] at H)) | refine pvQ ?_ | (refine opk 8 rfl ?_; (refine ost_store1 H rfl rfl vlQ gvQ ixQ (by first | decide | (simp; omega) | (simp; done) | omega) ?_; clear H; intro wk H; simp only [List.set_cons_zero, List.set_cons_succ, Nat.reduceAdd] at H)) | (refine opk 9 rfl ?_; (refine ost_boxq H rfl ?_; clear H; intro bk wk H))) | refine Wc.seq ?_ | refine then_n ?_ | refine WL.nil ?_ | refine Wc.region ?_ | refine Wc.block ?_ | refine then_r ?_ | refine then_e ?_ | refine inb_e rfl ?_ | refine inb_o rfl ?_ | refine inb_n ?_ | refine inb_r ?_ | refine Wc.skip ?_ | refine Wc.exit ?_ | refine Wc.ret ?_ | refine Wc.cond_true rfl ?_ | refine Wc.cond_false rfl ?_ | (refine Wc.drawn (id := 2) 9 (by kernel_rfl) ?_) | (refine rgs_nil ?_; intro vs wk hE; replace H := H.ext hE; clear hE) | (refine RGs.bq (fun _ => rfl) rfl (by intro vs w hE hP; have H := H.ext hE; first | exact dbQ | fail) (fun hc => ?_) (fun hc => ?_) <;> ((try simp only [cmpP, decide_eq_true_eq, decide_eq_false_iff_not, dcd_iff, dcd_no] at hc); try exact prDQ)) | refine RGs.pq (fun _ => rfl) rfl (by intro vs w hE hP; have H := H.ext hE; first | exact dvQ | fail) ?_)
  exact fn_ret1 (v := .int _ _) rfl rfl ⟨_, _, (H.picks [1, 2, 3] rfl (by decide)).join3, rfl, rfl, rfl⟩
theorem tr_reroot (tb mb rb : Nat) (T : TrM) (n : UInt32) (items : Int) (g : FH) (w : World) (HO : St w (trO tb mb rb T).fp g g [trO tb mb rb T] w) :
    Spec Try.prog 27 #[pT tb, .int .u32 (n.toNat : Nat), .int .i64 items] w (trO tb mb rb T).fp g (fun v h' L' => h' = g ∧ L' = [trO tb mb rb (T.reroot n items)]) := by
  have H := HO.split3
  generalize hF9 : (trO tb mb rb T).fp = F9 at H ⊢
  unfold Spec
  refine calls_of Try.func27 rfl Try.ntmps27 (by simp) ?_
  repeat' (first | ((first | refine WL.p rfl ?_ | refine WL.u ?_); first | (refine opk 13 rfl ?_; (refine ost_mapUpdate (k := n) (v := .int .i64 items) (i := 2) H rfl rfl rfl rfl rfl ?_; clear H; intro wk H; simp only [List.set_cons_zero, List.set_cons_succ] at H)) | refine pvQ ?_ | (refine opk 8 rfl ?_; (refine ost_store1 H rfl rfl vlQ gvQ ixQ (by first | decide | (simp; omega) | (simp; done) | omega) ?_; clear H; intro wk H; simp only [List.set_cons_zero, List.set_cons_succ, Nat.reduceAdd] at H))) | refine Wc.seq ?_ | refine then_n ?_ | refine WL.nil ?_ | refine Wc.region ?_ | refine Wc.block ?_ | refine then_r ?_ | refine then_e ?_ | refine inb_e rfl ?_ | refine inb_o rfl ?_ | refine inb_n ?_ | refine inb_r ?_ | refine Wc.skip ?_ | refine Wc.exit ?_ | refine Wc.ret ?_ | refine Wc.cond_true rfl ?_ | refine Wc.cond_false rfl ?_)
  exact fn_end0 rfl ⟨_, _, H.join3, rfl, rfl⟩
end Go.Tg

set_option linter.unusedVariables false
set_option linter.unusedSimpArgs false
set_option maxRecDepth 100000
set_option maxHeartbeats 4000000
namespace Go.Tg
open Go Go.Proofs
theorem tr_good (tb mb rb : Nat) (T : TrM) (g : FH) (w : World) (HO : St w (trO tb mb rb T).fp g g [trO tb mb rb T] w) :
    Spec Try.prog 29 #[pT tb] w (trO tb mb rb T).fp g (fun v h' L' => h' = g ∧ v = .bool true ∧ L' = [trO tb mb rb T]) := by
  have H := HO.split3
  generalize hF9 : (trO tb mb rb T).fp = F9 at H ⊢
  unfold Spec
  refine calls_of Try.func29 rfl Try.ntmps29 (by simp) ?_
  repeat' (first | ((first | refine WL.p rfl ?_ | refine WL.u ?_ | refine WL.g rfl rfl ?_ | refine WL.gu rfl ?_); first | refine pvQ ?_ | (refine opk 3 rfl ?_; first | (refine ost_ptEq rfl rfl rfl (fun hc => ?_) (fun hc => ?_) <;> try (simp at hc; done)) | (refine ost_ptNe rfl rfl rfl (fun hc => ?_) (fun hc => ?_) <;> try (simp at hc; done)) | (refine ost_mpEq rfl rfl rfl (fun hc => ?_) (fun hc => ?_) <;> try (simp at hc; done)) | (refine ost_mpNe rfl rfl rfl (fun hc => ?_) (fun hc => ?_) <;> try (simp at hc; done)))) | refine Wc.seq ?_ | refine then_n ?_ | refine WL.nil ?_ | refine Wc.region ?_ | refine Wc.block ?_ | refine then_r ?_ | refine then_e ?_ | refine inb_e rfl ?_ | refine inb_o rfl ?_ | refine inb_n ?_ | refine inb_r ?_ | refine Wc.skip ?_ | refine Wc.exit ?_ | refine Wc.ret ?_ | refine Wc.cond_true rfl ?_ | refine Wc.cond_false rfl ?_ | refine WL.skp rfl rfl ?_ | refine WL.sku rfl ?_)
  exact fn_ret1 (v := .bool _) rfl rfl ⟨_, _, H.join3, rfl, rfl, rfl⟩
theorem tr_Root (tb mb rb : Nat) (T : TrM) (g : FH) (w : World) (HO : St w (trO tb mb rb T).fp g g [trO tb mb rb T] w) :
    Spec Try.prog 10 #[pT tb] w (trO tb mb rb T).fp g (fun v h' L' => h' = g ∧ v = .int .u32 (T.root.toNat : Nat) ∧ L' = [trO tb mb rb T]) := by
  have H := HO
  generalize hF9 : (trO tb mb rb T).fp = F9 at H ⊢
  unfold Spec
  refine calls_of Try.func10 rfl Try.ntmps10 (by simp) ?_
  repeat' (first | ((first | refine WL.p rfl ?_ | refine WL.u ?_); first | (refine opk 1 rfl ?_; (refine ost_O (A := trO _ _ _ _) H rfl (by (exact ixQ)) (fun HO => tr_good _ _ _ _ _ _ HO) rfl ?_; clear H; rintro vk wk hfk Lk ⟨rfl, rfl, rfl⟩ H; simp only [List.cons_append, List.nil_append, List.eraseIdx_cons_zero, List.eraseIdx_cons_succ] at H)) | refine pvQ ?_) | refine Wc.seq ?_ | refine then_n ?_ | refine WL.nil ?_ | refine Wc.region ?_ | refine Wc.block ?_ | refine then_r ?_ | refine then_e ?_ | refine inb_e rfl ?_ | refine inb_o rfl ?_ | refine inb_n ?_ | refine inb_r ?_ | refine Wc.skip ?_ | refine Wc.exit ?_ | refine Wc.ret ?_ | refine Wc.cond_true rfl ?_ | refine Wc.cond_false rfl ?_)
  replace H := H.split3
  repeat' (first | ((first | refine WL.p rfl ?_ | refine WL.u ?_); first | refine pvQ ?_) | refine Wc.seq ?_ | refine then_n ?_ | refine WL.nil ?_ | refine Wc.region ?_ | refine Wc.block ?_ | refine then_r ?_ | refine then_e ?_ | refine inb_e rfl ?_ | refine inb_o rfl ?_ | refine inb_n ?_ | refine inb_r ?_ | refine Wc.skip ?_ | refine Wc.exit ?_ | refine Wc.ret ?_ | refine Wc.cond_true rfl ?_ | refine Wc.cond_false rfl ?_)
  exact fn_ret1 (v := .int _ _) rfl rfl ⟨_, _, H.join3, rfl, rfl, rfl⟩
def newT : TrM := (TrM.lay ⟨[], 0, [], 0, 0, 0⟩ (.agg [Value.bool true, .slice none 0 0, .slice none 0 0, .slice none 0 0].toArray)).reroot (0 + 1) 0
theorem tr_New (h0 : FH) (w : World) (hs : Sat h0 w) :
    Spec Try.prog 9 #[] w [] h0 (fun v h' L' => h' = h0 ∧ ∃ tb mb rb, v = pT tb ∧ L' = [trO tb mb rb newT]) := by
  have H := St.start hs
  unfold Spec
  refine calls_of Try.func9 rfl Try.ntmps9 (by simp) ?_
  repeat' (first | ((first | refine WL.p rfl ?_ | refine WL.u ?_); first | (refine opk 9 rfl ?_; first | (refine ost_buildS rfl (evP_cons (rfl : _ = Value.map _) (evP_cons (rfl : _ = Value.map _) evP_nil)) rfl (rfl : _ = [_, _, _, _]) ?_) | (refine ost_buildS rfl (evP_cons (rfl : _ = Value.bool _) evP_nil) rfl (rfl : _ = [_, _, _, _]) ?_)) | (refine opk 13 rfl ?_; (refine ost_makeMapH H rfl ?_; clear H; intro mb wk H)) | refine pvQ ?_ | (refine opk 9 rfl ?_; (refine ost_boxq H rfl ?_; clear H; intro bk wk H))) | refine Wc.seq ?_ | refine then_n ?_ | refine WL.nil ?_ | refine Wc.region ?_ | refine Wc.block ?_ | refine then_r ?_ | refine then_e ?_ | refine inb_e rfl ?_ | refine inb_o rfl ?_ | refine inb_n ?_ | refine inb_r ?_ | refine Wc.skip ?_ | refine Wc.exit ?_ | refine Wc.ret ?_ | refine Wc.cond_true rfl ?_ | refine Wc.cond_false rfl ?_)
  obtain ⟨bk, ebk⟩ := H.nameB idx0
  subst ebk
  obtain ⟨rb, erb⟩ := H.nameB idx1
  subst erb
  obtain ⟨mb, emb⟩ := H.nameB idx2
  subst emb
  replace H : St w [] h0 h0 [trO bk mb rb ⟨[], 0, [], 0, 0, 0⟩] _ := (H.picks (L' := [.blk bk _, .blk mb _, .blk rb _]) [0, 2, 1] rfl (by decide)).join3
  have hlay := fun g w HO => tr_lay bk mb rb ⟨[], 0, [], 0, 0, 0⟩ ⟨true, [], [], []⟩ ⟨none, 0, none, 0, none, 0⟩ g w HO
  have hrr := fun g w HO => tr_reroot bk mb rb (TrM.lay ⟨[], 0, [], 0, 0, 0⟩ (.agg [Value.bool true, .slice none 0 0, .slice none 0 0, .slice none 0 0].toArray)) (0 + 1) 0 g w HO
  repeat' (first | ((first | refine WL.p rfl ?_ | refine WL.u ?_); first | (refine opk 1 rfl ?_; first | (refine ost_O (A := trO _ _ _ _) H rfl (by (exact ixQ)) (fun HO => hlay _ _ HO) rfl ?_; clear H; rintro vk wk hfk Lk ⟨rfl, rfl, rfl⟩ H; simp only [List.cons_append, List.nil_append, List.eraseIdx_cons_zero, List.eraseIdx_cons_succ] at H) | (refine ost_O (A := trO _ _ _ _) H rfl (by (exact ixQ)) (fun HO => hrr _ _ HO) rfl ?_; clear H; rintro vk wk hfk Lk ⟨rfl, rfl⟩ H; simp only [List.cons_append, List.nil_append, List.eraseIdx_cons_zero, List.eraseIdx_cons_succ] at H)) | refine pvQ ?_ | (refine opk 9 rfl ?_; (refine ost_boxq H rfl ?_; clear H; intro bk wk H))) | refine Wc.seq ?_ | refine then_n ?_ | refine WL.nil ?_ | refine Wc.region ?_ | refine Wc.block ?_ | refine then_r ?_ | refine then_e ?_ | refine inb_e rfl ?_ | refine inb_o rfl ?_ | refine inb_n ?_ | refine inb_r ?_ | refine Wc.skip ?_ | refine Wc.exit ?_ | refine Wc.ret ?_ | refine Wc.cond_true rfl ?_ | refine Wc.cond_false rfl ?_)
  exact fn_ret1 (v := .pointer _) rfl rfl ⟨_, _, H, rfl, _, _, _, rfl, rfl⟩
end Go.Tg

set_option linter.unusedVariables false
set_option linter.unusedSimpArgs false
set_option maxRecDepth 100000
set_option maxHeartbeats 4000000
namespace Go.Tg
open Go Go.Proofs
def lookM (es : List (ME UInt32)) (k : UInt32) : Option Value := (es.find? fun x => decide (x.k = k)).map ME.v
theorem idxM_look (es : List (ME UInt32)) (k : UInt32) : lookM es k = match idxM es k with | some i => (es[i]?).map ME.v | none => none := by
  unfold lookM idxM
  induction es with
  | nil => rfl
  | cons x es ih =>
    rw [List.find?_cons, List.findIdx?_cons]
    by_cases h : x.k = k
    · simp [h]
    · simp only [h, decide_false, Bool.false_eq_true, if_false]
      rw [ih]
      cases es.findIdx? (fun x => decide (x.k = k)) <;> simp
theorem getM_look (z : Value) {es : List (ME UInt32)} {k : UInt32} {v : Value} (h : lookM es k = some v) : getM z es k = v := by
  rw [idxM_look] at h
  unfold getM
  cases hi : idxM es k with
  | none => rw [hi] at h; cases h
  | some i => rw [hi] at h; dsimp only at h ⊢; rw [h]; rfl
theorem idxM_isSome (es : List (ME UInt32)) (k : UInt32) : (idxM es k).isSome = (lookM es k).isSome := by
  rw [idxM_look]
  cases hi : idxM es k with
  | none => rfl
  | some i =>
    obtain ⟨x, hx, -⟩ := idxM_some hi
    dsimp only; rw [hx]; rfl
theorem lookM_mod (es : List (ME UInt32)) (k : UInt32) (v : Value) (k' : UInt32) : ∀ i, idxM es k = some i → lookM (es.modify i fun x => { x with v := v }) k' = if k' = k then some v else lookM es k' := by
  induction es with
  | nil => intro i h; simp [idxM] at h
  | cons x es ih =>
    intro i h
    unfold idxM at h
    rw [List.findIdx?_cons] at h
    by_cases hx : x.k = k
    · simp only [hx, decide_true, if_true, Option.some.injEq] at h
      subst h
      unfold lookM
      simp only [List.modify_zero_cons, List.find?_cons]
      by_cases hk : k' = k
      · subst hk; simp [hx]
      · have : ¬ x.k = k' := fun e => hk (e.symm.trans hx)
        simp [hk, this]
    · simp only [hx, decide_false, Bool.false_eq_true, if_false] at h
      cases hj : es.findIdx? (fun x => decide (x.k = k)) with
      | none => rw [hj] at h; simp at h
      | some j =>
        rw [hj] at h
        simp only [Option.map_some, Option.some.injEq] at h
        subst h
        have := ih j hj
        unfold lookM at this ⊢
        rw [List.modify_succ_cons, List.find?_cons, List.find?_cons]
        by_cases hk : x.k = k'
        · have hne : ¬ k' = k := fun e => hx (hk.trans e)
          simp [hk, hne]
        · simp only [hk, decide_false, Bool.false_eq_true, if_false]
          exact this
theorem lookM_set (es : List (ME UInt32)) (clk : Nat) (k : UInt32) (v : Value) (k' : UInt32) : lookM (setM es clk k v).1 k' = if k' = k then some v else lookM es k' := by
  unfold setM
  cases hi : idxM es k with
  | some i => exact lookM_mod es k v k' i hi
  | none =>
    have hn := idxM_none hi
    dsimp only
    unfold lookM
    rw [List.find?_append, List.find?_cons, List.find?_nil]
    by_cases hk : k' = k
    · subst hk
      have : es.find? (fun x => decide (x.k = k')) = none := List.find?_eq_none.2 fun x hx => by simpa using hn x hx
      simp [this]
    · have : ¬ k = k' := fun e => hk e.symm
      simp only [this, decide_false, hk, if_false]
      cases es.find? (fun x => decide (x.k = k')) <;> rfl
def Has (h : FH) (T : TrM) (n : UInt32) (p : PageT) : Prop := ∃ A, lookM T.pages n = some (.agg (pgV p A).toArray) ∧ PgR h p A
theorem Has.mono {h h' : FH} {T : TrM} {n : UInt32} {p : PageT} (hle : FLe h h') (H : Has h T n p) : Has h' T n p := by
  obtain ⟨A, h1, h2⟩ := H; exact ⟨A, h1, h2.mono hle⟩
structure Grown (T T' : TrM) : Prop where
  le : ∀ n v, lookM T.pages n = some v → lookM T'.pages n = some v
  fresh : ∀ n v, lookM T'.pages n = some v → n.toNat ≤ T'.next.toNat
  root : T'.root = T.root
  roots : T'.roots = T.roots
  rclk : T'.rclk = T.rclk
def Fresh (T : TrM) : Prop := ∀ n v, lookM T.pages n = some v → n.toNat ≤ T.next.toNat
theorem Grown.refl {T : TrM} (h : Fresh T) : Grown T T := ⟨fun _ _ h => h, h, rfl, rfl, rfl⟩
theorem Grown.trans {A B C : TrM} (h : Grown A B) (k : Grown B C) : Grown A C := ⟨fun n v e => k.le n v (h.le n v e), k.fresh, k.root.trans h.root, k.roots.trans h.roots, k.rclk.trans h.rclk⟩
theorem Has.grown {h : FH} {T T' : TrM} {n : UInt32} {p : PageT} (hg : Grown T T') (H : Has h T n p) : Has h T' n p := by
  obtain ⟨A, h1, h2⟩ := H; exact ⟨A, hg.le _ _ h1, h2⟩
theorem u32_up {n : UInt32} {k : Nat} (h : n.toNat + k < 4294967296) : (n + UInt32.ofNat k).toNat = n.toNat + k := by
  rw [UInt32.toNat_add, UInt32.toNat_ofNat']
  have : k % 2 ^ 32 = k := Nat.mod_eq_of_lt (by omega)
  rw [this]; exact Nat.mod_eq_of_lt (by omega)
theorem u32_up1 {n : UInt32} (h : n.toNat + 1 < 4294967296) : (n + 1).toNat = n.toNat + 1 := u32_up (k := 1) h
theorem lay_grown {T : TrM} (hf : Fresh T) (hn : T.next.toNat + 1 < 4294967296) (v : Value) : Grown T (T.lay v) ∧ lookM (T.lay v).pages (T.next + 1) = some v := by
  have h1 := u32_up1 hn
  refine ⟨⟨fun n v' h => ?_, fun n v' h => ?_, rfl, rfl, rfl⟩, ?_⟩
  · show lookM (setM T.pages T.pclk (T.next + 1) v).1 n = _
    rw [lookM_set, if_neg]
    · exact h
    · rintro rfl
      have := hf _ _ h
      omega
  · show n.toNat ≤ (T.next + 1).toNat
    have h2 : lookM (setM T.pages T.pclk (T.next + 1) v).1 n = some v' := h
    rw [lookM_set] at h2
    split at h2
    · subst n; exact Nat.le_refl _
    · have := hf _ _ h2; omega
  · show lookM (setM T.pages T.pclk (T.next + 1) v).1 _ = _
    rw [lookM_set, if_pos rfl]
def Rep (h : FH) (T : TrM) (d : Nat) (s : Sh d) : Prop := ∀ x ∈ Sh.nodes d s, Has h T x.1 x.2
theorem Rep.mono {h h' : FH} {T : TrM} {d : Nat} {s : Sh d} (hle : FLe h h') (H : Rep h T d s) : Rep h' T d s := fun x hx => (H x hx).mono hle
theorem Rep.grown {h : FH} {T T' : TrM} {d : Nat} {s : Sh d} (hg : Grown T T') (H : Rep h T d s) : Rep h T' d s := fun x hx => (H x hx).grown hg
theorem Rep.top {h : FH} {T : TrM} {d : Nat} {s : Sh d} (H : Rep h T d s) : Has h T (Sh.num d s) (Sh.page d s) := by
  obtain ⟨r, hr⟩ := Sh.nodes_head d s
  have := H (Sh.num d s, Sh.page d s) (by rw [hr]; simp)
  exact this
theorem Rep.kid {h : FH} {T : TrM} {d : Nat} {s : Sh (d + 1)} (H : Rep h T (d + 1) s) {k : Sh d} (hk : k ∈ s.2) : Rep h T d k := fun x hx => H x (by
  show x ∈ (s.1, Sh.page (d + 1) s) :: (s.2.map (Sh.nodes d)).flatten
  exact List.mem_cons_of_mem _ (List.mem_flatten.2 ⟨_, List.mem_map.2 ⟨k, hk, rfl⟩, hx⟩))
theorem Rep.mk {h : FH} {T : TrM} {d : Nat} {s : Sh (d + 1)} (h1 : Has h T s.1 (Sh.page (d + 1) s)) (h2 : ∀ k ∈ s.2, Rep h T d k) : Rep h T (d + 1) s := fun x hx => by
  have hx : x ∈ (s.1, Sh.page (d + 1) s) :: (s.2.map (Sh.nodes d)).flatten := hx
  rcases List.mem_cons.1 hx with rfl | hx
  · exact h1
  · obtain ⟨l, hl, hxl⟩ := List.mem_flatten.1 hx
    obtain ⟨k, hk, rfl⟩ := List.mem_map.1 hl
    exact h2 k hk x hxl
theorem St.freezePg {ws w : World} {S : List Nat} {h0 h : FH} {L : List HA} {p : PageT} {A : PAd} (H : St ws S h0 h (pgO p A ++ L) w) : ∃ h', FLe h h' ∧ PgR h' p A ∧ St ws S h0 h' L w := by
  have r3 : ∀ r, r ∈ p.keys.map cKey → r.length = 3 := by intro r hr; obtain ⟨x, -, rfl⟩ := List.mem_map.1 hr; rfl
  have r2 : ∀ r, r ∈ p.locs.map cLoc → r.length = 2 := by intro r hr; obtain ⟨x, -, rfl⟩ := List.mem_map.1 hr; rfl
  have r1 : ∀ r, r ∈ p.kids.map cKid → r.length = 1 := by intro r hr; obtain ⟨x, -, rfl⟩ := List.mem_map.1 hr; rfl
  have H : St ws S h0 h (_ :: _ :: _ :: L) w := H
  obtain ⟨a1, c1, h1, e1, l1, s1, H⟩ := H.freezeR r3
  obtain ⟨a2, c2, h2, e2, l2, s2, H⟩ := H.freezeR r2
  obtain ⟨a3, c3, h3, e3, l3, s3, H⟩ := H.freezeR r1
  injection e1 with e11 _ e13
  injection e2 with e21 _ e23
  injection e3 with e31 _ e33
  subst e11; subst e13; subst e21; subst e23; subst e31; subst e33
  exact ⟨h3, l1.trans (l2.trans l3), ⟨s1.mono (l2.trans l3), s2.mono l3, s3⟩, H⟩
end Go.Tg

