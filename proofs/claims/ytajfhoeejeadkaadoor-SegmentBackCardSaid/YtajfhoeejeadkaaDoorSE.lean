/- Proved: the given statement SegmentPlacesCardSaid: the Go law SegmentPlaces returns true for every input that it is asked of. No conditions. -/
import Derived.Test.YtajfhoeejeadkaaDoorInst
import Derived.Test.YtajfhoeejeadkaaDoorAuto
import Derived.Test.YtajfhoeejeadkaaDoorQJ
import Derived.Test.YtajfhoeejeadkaaDoorChecked
import Derived.Test.YtajfhoeejeadkaaDoorRows
import Derived.Test.YtajfhoeejeadkaaDoorLift
import Derived.Test.YtajfhoeejeadkaaDoorLZ
import Derived.Test.YtajfhoeejeadkaaDoorVec4
import Derived.Test.YtajfhoeejeadkaaDoorO1
import Derived.Test.YtajfhoeejeadkaaDoorArgs
import Derived.Test.YtajfhoeejeadkaaDoorS5
import Derived.Test.YtajfhoeejeadkaaDoorQ8
import Derived.Test.YtajfhoeejeadkaaDoorS2
import Derived.Test.YtajfhoeejeadkaaDoorCards
import Derived.Test.YtajfhoeejeadkaaDoorTie
import Derived.SevenTiedAt
set_option linter.unusedVariables false
set_option linter.unusedSimpArgs false
set_option maxRecDepth 100000
set_option maxHeartbeats 4000000
namespace Go.Tg
open Go Go.Proofs
section
variable {H : Type} {enc : TypeId × Value → H} {W : World} {sp : Nat → Bool}
theorem u32_ok {w : World} {r : Reach} {b : Nat} {v : Value} (h : Value.okWide Tryd.prog w r b 28 v) : ∃ id : UInt32, v = .int .u32 id.toNat := by
  obtain ⟨n, rfl, h2, h3⟩ := int_of_okV Tryd.underlying28 h
  have h2 : 0 ≤ n := h2
  have h3 : n ≤ 4294967295 := h3
  exact ⟨UInt32.ofNat n.toNat, by simp; omega⟩
theorem rows_mapO {α : Type} (f : α → List Value) : ∀ {rows : List (List Value)}, (∀ r, r ∈ rows → ∃ x, r = f x) → ∃ xs : List α, rows = xs.map f
  | [], _ => ⟨[], rfl⟩
  | r :: rows, h => by
    obtain ⟨x, rfl⟩ := h r (by simp)
    obtain ⟨xs, rfl⟩ := rows_mapO f (rows := rows) fun r hr => h r (by simp [hr])
    exact ⟨x :: xs, rfl⟩
theorem vec_of {row : List Value} (h : Td enc Tryd.prog W sp 65 row) : ∃ v : V16, row = cV v := by
  obtain ⟨hl, hf⟩ := h.array (m := 16) (e := 28) Tryd.underlying65
  rw [show Program.cellsOf Tryd.prog 65 = 16 from by kernel_rfl] at hl
  rw [show Program.cellsOf Tryd.prog 28 = 1 from by kernel_rfl] at hf
  have hx : ∀ i : Fin 16, ∃ x : UInt32, row[i.val] = u32 x := fun i => by
    obtain ⟨n, e, k⟩ := (hf i.val i.isLt).nat Tryd.underlying28 rfl
    simp only [inK] at k
    have h0 : ((row.drop (i.val * 1)).take 1)[0]? = some (Value.int .u32 (n : Int)) := by rw [e]; rfl
    rw [List.getElem?_take, if_pos (by omega), List.getElem?_drop] at h0
    have h1 : row[i.val]? = some (Value.int .u32 (n : Int)) := by simpa using h0
    rw [List.getElem?_eq_getElem (by omega)] at h1
    exact ⟨UInt32.ofNat n, by rw [Option.some.inj h1, u32]; simp; omega⟩
  refine ⟨fun i => (hx i).choose, ?_⟩
  apply List.ext_getElem
  · rw [cV_len, hl]
  · intro i h1 h2
    rw [(hx ⟨i, by omega⟩).choose_spec]
    simp only [cV, List.getElem_ofFn]
theorem op_of {row : List Value} (h : Td enc Tryd.prog W sp 67 row) : ∃ o : OpT, row = cOp o := by
  obtain ⟨hl, hf⟩ := h.struct (fs := [{ name := "Dot", type := 30, offset := 0, embedded := false, tag := "", pkgPath := "", byteOffset := 0 }, { name := "Kind", type := 5, offset := 2, embedded := false, tag := "", pkgPath := "", byteOffset := 8 }, { name := "Cart", type := 27, offset := 3, embedded := false, tag := "", pkgPath := "", byteOffset := 10 }, { name := "Item", type := 27, offset := 4, embedded := false, tag := "", pkgPath := "", byteOffset := 12 }, { name := "Qty", type := 27, offset := 5, embedded := false, tag := "", pkgPath := "", byteOffset := 14 }, { name := "Tick", type := 28, offset := 6, embedded := false, tag := "", pkgPath := "", byteOffset := 16 }, { name := "Ctx", type := 65, offset := 7, embedded := false, tag := "", pkgPath := "", byteOffset := 20 }]) Tryd.underlying67
  rw [show Program.cellsOf Tryd.prog 67 = 23 from by kernel_rfl] at hl
  match row, hl with
  | v0 :: v1 :: v2 :: v3 :: v4 :: v5 :: v6 :: l, hl =>
    have h0 := hf _ (List.mem_cons_self ..)
    have h2 := hf _ (List.mem_cons_of_mem _ (List.mem_cons_self ..))
    have h3 := hf _ (List.mem_cons_of_mem _ (List.mem_cons_of_mem _ (List.mem_cons_self ..)))
    have h4 := hf _ (List.mem_cons_of_mem _ (List.mem_cons_of_mem _ (List.mem_cons_of_mem _ (List.mem_cons_self ..))))
    have h5 := hf _ (List.mem_cons_of_mem _ (List.mem_cons_of_mem _ (List.mem_cons_of_mem _ (List.mem_cons_of_mem _ (List.mem_cons_self ..)))))
    have h6 := hf _ (List.mem_cons_of_mem _ (List.mem_cons_of_mem _ (List.mem_cons_of_mem _ (List.mem_cons_of_mem _ (List.mem_cons_of_mem _ (List.mem_cons_self ..))))))
    have h7 := hf _ (List.mem_cons_of_mem _ (List.mem_cons_of_mem _ (List.mem_cons_of_mem _ (List.mem_cons_of_mem _ (List.mem_cons_of_mem _ (List.mem_cons_of_mem _ (List.mem_cons_self ..)))))))
    rw [show Program.cellsOf Tryd.prog _ = 2 from by kernel_rfl] at h0
    rw [show Program.cellsOf Tryd.prog _ = 1 from by kernel_rfl] at h2 h3 h4 h5 h6
    rw [show Program.cellsOf Tryd.prog _ = 16 from by kernel_rfl] at h7
    obtain ⟨_, hg⟩ := h0.struct (fs := [{ name := "Rep", type := 5, offset := 0, embedded := false, tag := "", pkgPath := "", byteOffset := 0 }, { name := "Seq", type := 28, offset := 1, embedded := false, tag := "", pkgPath := "", byteOffset := 4 }]) Tryd.underlying30
    have g0 := hg _ (List.mem_cons_self ..)
    have g1 := hg _ (List.mem_cons_of_mem _ (List.mem_cons_self ..))
    rw [show Program.cellsOf Tryd.prog _ = 1 from by kernel_rfl] at g0 g1
    obtain ⟨n0, e0, k0⟩ := g0.nat Tryd.underlying5 rfl
    obtain ⟨n1, e1, k1⟩ := g1.nat Tryd.underlying28 rfl
    obtain ⟨n2, e2, k2⟩ := h2.nat Tryd.underlying5 rfl
    obtain ⟨n3, e3, k3⟩ := h3.nat Tryd.underlying27 rfl
    obtain ⟨n4, e4, k4⟩ := h4.nat Tryd.underlying27 rfl
    obtain ⟨n5, e5, k5⟩ := h5.nat Tryd.underlying27 rfl
    obtain ⟨n6, e6, k6⟩ := h6.nat Tryd.underlying28 rfl
    obtain ⟨v, e7⟩ := vec_of h7
    simp only [inK] at k0 k1 k2 k3 k4 k5 k6
    simp only [List.drop_zero, List.drop_succ_cons, List.take_succ_cons, List.take_zero, List.cons.injEq, and_true] at e0 e1 e2 e3 e4 e5 e6 e7
    have hl16 : l.length = 16 := by simpa using hl
    rw [List.take_of_length_le (by omega)] at e7
    subst e0; subst e1; subst e2; subst e3; subst e4; subst e5; subst e6; subst e7
    refine ⟨⟨⟨UInt8.ofNat n0, UInt32.ofNat n1⟩, UInt8.ofNat n2, UInt16.ofNat n3, UInt16.ofNat n4, UInt16.ofNat n5, UInt32.ofNat n6, v⟩, ?_⟩
    simp [cOp]
    omega
theorem ops_of {cs : List Value} (h : Td enc Tryd.prog W sp 74 cs) : ∃ (a : Option Addr) (c : Nat) (l : List OpT), cs = [.slice a l.length c] ∧ Sl (full W) 23 a c (l.map cOp) := by
  obtain ⟨a, c, rows, e, r, t⟩ := h.slice Tryd.underlying74 (sz := 23) (by kernel_rfl) (by decide)
  obtain ⟨l, rfl⟩ := rows_mapO cOp fun r hr => op_of (t r hr)
  exact ⟨a, c, l, by rw [e, List.length_map], r⟩
end
end Go.Tg

set_option linter.unusedVariables false
set_option linter.unusedSimpArgs false
set_option maxRecDepth 100000
set_option maxHeartbeats 8000000
namespace Go.Tg
open Go Go.Proofs
theorem fn_ret4 {P : Program} {fn : Func} {R : Value → World → Prop} {s : Env} {w : World} {r1 r2 r3 r4 : ResultVar} {v1 v2 v3 v4 : Value} (h : fn.results = #[r1, r2, r3, r4]) (h1 : RV P s w r1 v1) (h2 : RV P s w r2 v2) (h3 : RV P s w r3 v3) (h4 : RV P s w r4 v4) (hR : R (.tuple #[v1, v2, v3, v4]) w) : fnPost P fn R .ret s w := by
  unfold fnPost; exact ⟨_, fun tmps ht => by
    have e1 := run_rv h1 ht
    have e2 := run_rv h2 ht
    have e3 := run_rv h3 ht
    have e4 := run_rv h4 ht
    rw [results_rv, h, show (#[r1, r2, r3, r4] : Array ResultVar) = [r1, r2, r3, r4].toArray from rfl, List.mapM_toArray]
    simp only [List.mapM_cons, List.mapM_nil, Sem.run_bind, Sem.run_map, e1, e2, e3, e4, Result.andThen_ok, Sem.run_pure]
    rfl, hR⟩
def endsR : Nat → List OpT → List Nat
  | _, [] => []
  | k, o :: l => (k + (recB o).length) :: endsR (k + (recB o).length) l
theorem endsR_len (k : Nat) (l : List OpT) : (endsR k l).length = l.length := by
  induction l generalizing k with
  | nil => rfl
  | cons o l ih => simp [endsR, ih]
theorem atsR_len (k : Nat) (l : List OpT) : (atsR k l).length = l.length := by
  induction l generalizing k with
  | nil => rfl
  | cons o l ih => simp [atsR, ih]
theorem endsR_snoc (k : Nat) (l : List OpT) (o : OpT) : endsR k (l ++ [o]) = endsR k l ++ [k + (recsB l).length + (recB o).length] := by
  induction l generalizing k with
  | nil => simp [endsR, recsB]
  | cons x l ih => simp only [List.cons_append, endsR, ih, recsB_cons, List.length_append]; congr 2; congr 1; omega
noncomputable def goodR (l : List OpT) (k : Nat) : List OpT := (l.take k).filter fun o => rightO o 16
theorem goodR_all (l : List OpT) (k : Nat) : allR (goodR l k) := fun o h => by
  have := List.mem_filter.1 h
  exact this.2
theorem goodR_len (l : List OpT) (k : Nat) : (goodR l k).length ≤ k := by
  have h1 := List.length_filter_le (fun o => rightO o 16) (l.take k)
  have h2 := List.length_take_le k l
  unfold goodR; omega
theorem goodR_yes {l : List OpT} {k : Nat} (h : k < l.length) (hr : rightO l[k] 16 = true) : goodR l (k + 1) = goodR l k ++ [l[k]] := by
  unfold goodR
  rw [List.take_add_one, List.getElem?_eq_getElem h, List.filter_append]
  simp [hr]
theorem goodR_no {l : List OpT} {k : Nat} (h : k < l.length) (hr : rightO l[k] 16 = false) : goodR l (k + 1) = goodR l k := by
  unfold goodR
  rw [List.take_add_one, List.getElem?_eq_getElem h, List.filter_append]
  simp [hr]
theorem law12_written (id : UInt32) (h0 : FH) (a : Option Addr) (c : Nat) (l : List OpT) (w : World) (hs : Sat h0 w) (hT : Half h0) (hr : Sl h0 23 a c (l.map cOp)) :
    Spec Tryd.prog 44 #[.int .u32 id.toNat, .slice a l.length c] w [] h0 (fun v h' L' => ∃ (g : List OpT), ∃ ab cb ag cg ae ce, allR g ∧ g.length ≤ 30 ∧ v = .tuple #[.slice ab (headB id ++ recsB g).length cb, .slice ag g.length cg, .slice ae (endsR (headB id).length g).length ce, .bool true] ∧ L' = [] ∧ BS h' ab cb (headB id ++ recsB g) ∧ Sl h' 23 ag cg (g.map cOp) ∧ Sl h' 1 ae ce ((endsR (headB id).length g).map cI)) := by
  have H := St.start hs
  have hcl := hr.lenM
  have cH := seg_Head id
  have hhl := headB_len id
  unfold Spec
  refine calls_of Tryd.func44 rfl Tryd.ntmps44 (by simp) ?_
  repeat' (first | ((first | refine WL.p rfl ?_ | refine WL.u ?_ | refine WL.g rfl rfl ?_ | refine WL.gu rfl ?_); first | (refine opk 1 rfl ?_; (refine ost_C H rfl (cH _ _ (sat_full _) (hT.full H)) rfl ?_; clear H; rintro vk wk hfk Lk ⟨a1, c1, rfl, rfl⟩ H; simp only [List.cons_append, List.nil_append] at H)) | refine pvQ ?_ | (refine opk 3 rfl ?_; (refine ost_cmp rfl rfl rfl rfl (fun hc => ?_) (fun hc => ?_) <;> (simp only [cmpP] at hc; try exact prIQ))) | (refine opk 4 rfl ?_; (refine ost_cmp rfl rfl rfl rfl (fun hc => ?_) (fun hc => ?_) <;> (simp only [cmpP] at hc; try exact prIQ))) | (refine opk 9 rfl ?_; (refine ost_build1 H rfl rfl rfl evQ lsQ rfl ?_; clear H; intro bk wk H))) | refine Wc.seq ?_ | refine then_n ?_ | refine WL.nil ?_ | refine Wc.region ?_ | refine Wc.block ?_ | refine then_r ?_ | refine then_e ?_ | refine inb_e rfl ?_ | refine inb_o rfl ?_ | refine inb_n ?_ | refine inb_r ?_ | refine Wc.skip ?_ | refine Wc.exit ?_ | refine Wc.ret ?_ | refine Wc.cond_true rfl ?_ | refine Wc.cond_false rfl ?_ | refine WL.skp rfl rfl ?_ | refine WL.sku rfl ?_)
  have e0 : headB id = headB id ++ recsB (goodR l 0) := by simp [goodR, recsB]
  replace H : St w [] h0 h0 [ownR (.slice none ((goodR l 0).map cOp).length 0) 67 23 ((goodR l 0).map cOp), ownR (.slice none ((endsR (headB id).length (goodR l 0)).map cI).length 0) 3 1 ((endsR (headB id).length (goodR l 0)).map cI), own8 (.slice a1 (headB id ++ recsB (goodR l 0)).length c1) 5 (headB id ++ recsB (goodR l 0))] wk := by
    rw [← e0]; exact (H.nilOwn 3 1).nilOwn 67 23
  refine Wc.loopE (fun s0 m s w' => ∃ (i : Nat) (ag : Option Addr) (cg : Nat) (ae : Option Addr) (ce : Nat) (ab : Option Addr) (cb : Nat), m = l.length - i ∧ i ≤ l.length ∧ i ≤ 30 ∧ Agree [4, 5, 6, 7, 8, 9, 10, 11, 12, 13, 16, 17, 18, 19, 20, 21, 22, 23, 24, 25, 26, 27, 28, 29, 30, 31, 32, 33, 34, 35, 36, 37, 38, 39, 40, 41, 42, 43, 44, 45, 46, 47, 48, 49, 50, 51, 52, 53, 54, 55, 56, 57, 58] s s0 ∧ s 8 = .slice ab (headB id ++ recsB (goodR l i)).length cb ∧ s 9 = .slice ag ((goodR l i).map cOp).length cg ∧ s 10 = .slice ae ((endsR (headB id).length (goodR l i)).map cI).length ce ∧ s 11 = .int .i64 i ∧
    St w [] h0 h0 [ownR (.slice ag ((goodR l i).map cOp).length cg) 67 23 ((goodR l i).map cOp), ownR (.slice ae ((endsR (headB id).length (goodR l i)).map cI).length ce) 3 1 ((endsR (headB id).length (goodR l i)).map cI), own8 (.slice ab (headB id ++ recsB (goodR l i)).length cb) 5 (headB id ++ recsB (goodR l i))] w') l.length ⟨0, none, 0, none, 0, a1, c1, rfl, by omega, by omega, Agree.refl _ _, by rw [← e0]; rfl, rfl, rfl, rfl, H⟩ ?_
  clear H e0
  rintro m s w' ⟨i, ag, cg, ae, ce, ab, cb, rfl, hi, hi30, hA, e1, e2, e3, e4, H⟩
  obtain ⟨j, rfl⟩ := hA.env4 e1 e2 e3 e4
  clear hA e1 e2 e3 e4
  have hgl := goodR_len l i
  have hga := goodR_all l i
  have k1 : ((goodR l i).map cOp).length ≤ 1000 := by rw [List.length_map]; omega
  have k2 : ((endsR (headB id).length (goodR l i)).map cI).length ≤ 1000 := by rw [List.length_map, endsR_len]; omega
  have k3 : (headB id ++ recsB (goodR l i)).length ≤ 20000 := by
    have := recsB_len (goodR l i)
    rw [List.length_append]; omega
  have k4 : (headB id).length + (recsB (goodR l i)).length ≤ 20000 := by
    have := recsB_len (goodR l i)
    omega
  by_cases hlt : i < l.length ∧ i < 30
  · obtain ⟨hlt, hlt30⟩ := hlt
    obtain ⟨b, off, ll, T, fr, e1, eb, eg⟩ := hr.getM (by decide) (Nat.lt_of_le_of_lt (Nat.zero_le _) hlt)
    subst e1
    have g1 := eg (i : Int).toNat i hlt (by omega)
    have lo := cOp_len l[i]
    have gy := goodR_yes hlt
    have gn := goodR_no hlt
    have hes := endsR_snoc (headB id).length (goodR l i) l[i]
    clear eg
    generalize l[i] = o at g1 lo gy gn hes
    have cR := seg_Record o
    have cQ := r6_Right o 16
    have hrl := recB_len o
    cases hro : rightO o 16 with
    | true =>
      rw [outC_r hro] at cR
      dsimp only at cR
      rw [hro] at cQ
      have gy := gy hro
      clear gn
      repeat' (first | ((first | refine WL.p rfl ?_ | refine WL.u ?_ | refine WL.g rfl rfl ?_ | refine WL.gu rfl ?_); first | (refine opk 1 rfl ?_; first | (refine ost_C H rfl (cR _ _ (sat_full _) (hT.full H)) rfl ?_; clear H; rintro vk wk hfk Lk ⟨a5, c5, rfl, rfl⟩ H; simp only [List.cons_append, List.nil_append] at H) | (refine ost_V H rfl (cQ _) rfl ?_; clear H; intro wk H) | (refine ost_app8 (xs := headB id ++ recsB (goodR l i)) H rfl rfl rfl (by (exact ixQ)) (H.own8rd (i := 0) rfl) (by (try simp only [List.length_nil, List.length_append, List.length_cons, List.length_singleton]); omega) ?_; clear H; intro aa ca wk H; simp only [List.set_cons_zero, List.set_cons_succ, List.nil_append] at H) | (refine ost_appR (rows := (goodR l i).map cOp) (row := cOp o) H rfl rfl rfl (by (exact ixQ)) (by (exact ixQ)) (by rfl) (by first | simp; done | exact Nat.succ_pos _) lo (cOp_one o) rfl (by omega) ?_; clear H; intro aa1 ca1 wk H; simp only [List.set_cons_zero, List.set_cons_succ] at H) | (refine ost_appR (rows := (endsR (headB id).length (goodR l i)).map cI) (row := [.int .i64 ((headB id ++ recsB (goodR l i) ++ recB o).length : Nat)]) H rfl rfl rfl (by (exact ixQ)) (by (exact ixQ)) (by rfl) (by first | simp; done | exact Nat.succ_pos _) rfl (allOne_of rfl) rfl (by omega) ?_; clear H; intro aa ca wk H; simp only [List.set_cons_zero, List.set_cons_succ] at H)) | (refine opk 9 rfl ?_; first | (refine ost_buildR (rows := [cOp o]) H rfl (by decide) rfl (by rfl) (evP1 vxQ) (.cons rfl .nil) rfl (fun r hr => by rw [List.mem_singleton.1 hr]; rfl) ?_; clear H; intro bk wk H) | (refine ost_buildR (rows := [[.int .i64 ((headB id ++ recsB (goodR l i) ++ recB o).length : Nat)]]) H rfl (by decide) rfl (by rfl) (evP1 vxQ) (.cons rfl .nil) rfl (fun r hr => by rw [List.mem_singleton.1 hr]; rfl) ?_; clear H; intro bk wk H)) | refine pvQ ?_ | (refine opk 3 rfl ?_; (refine ost_cmp rfl rfl rfl rfl (fun hc => ?_) (fun hc => ?_) <;> (simp only [cmpP] at hc; try exact prIQ))) | (refine opk 4 rfl ?_; (refine ost_cmp rfl rfl rfl rfl (fun hc => ?_) (fun hc => ?_) <;> (simp only [cmpP] at hc; try exact prIQ))) | (refine opk 9 rfl ?_; (refine ost_build1 H rfl rfl rfl evQ lsQ rfl ?_; clear H; intro bk wk H))) | refine Wc.seq ?_ | refine then_n ?_ | refine WL.nil ?_ | refine Wc.region ?_ | refine Wc.block ?_ | refine then_r ?_ | refine then_e ?_ | refine inb_e rfl ?_ | refine inb_o rfl ?_ | refine inb_n ?_ | refine inb_r ?_ | refine Wc.skip ?_ | refine Wc.exit ?_ | refine Wc.ret ?_ | refine Wc.cond_true rfl ?_ | refine Wc.cond_false rfl ?_ | refine WL.skp rfl rfl ?_ | refine WL.sku rfl ?_)
      have gm : (goodR l i).map cOp ++ [cOp o] = (goodR l (i + 1)).map cOp := by rw [gy, List.map_append]; rfl
      have em : (endsR (headB id).length (goodR l i)).map cI ++ [[.int .i64 ((headB id ++ recsB (goodR l i) ++ recB o).length : Nat)]] = (endsR (headB id).length (goodR l (i + 1))).map cI := by
        rw [gy, hes, List.map_append, List.length_append, List.length_append]; rfl
      have bm : headB id ++ recsB (goodR l i) ++ recB o = headB id ++ recsB (goodR l (i + 1)) := by
        rw [gy, recsB_app, List.append_assoc]; simp [recsB]
      rw [gm, em, bm] at H
      exact ⟨l.length - (i + 1), by omega, i + 1, _, _, _, _, _, _, rfl, by omega, by omega, by (repeat' (first | exact Agree.refl _ _ | exact Agree.havoc | refine Agree.upd rfl ?_ | refine Agree.hav2 rfl ?_)), by rw [← bm]; rfl, by rw [← gm]; rfl, by rw [← em]; rfl, rfl, H.picks [3, 4, 5] rfl (by decide)⟩
    | false =>
      rw [outC_n hro] at cR
      dsimp only at cR
      rw [hro] at cQ
      have gn := gn hro
      clear gy
      repeat' (first | ((first | refine WL.p rfl ?_ | refine WL.u ?_ | refine WL.g rfl rfl ?_ | refine WL.gu rfl ?_); first | (refine opk 1 rfl ?_; first | (refine ost_C H rfl (cR _ _ (sat_full _) (hT.full H)) rfl ?_; clear H; rintro vk wk hfk Lk ⟨a5, c5, rfl, rfl⟩ H; simp only [List.cons_append, List.nil_append] at H) | (refine ost_V H rfl (cQ _) rfl ?_; clear H; intro wk H)) | refine pvQ ?_ | (refine opk 3 rfl ?_; (refine ost_cmp rfl rfl rfl rfl (fun hc => ?_) (fun hc => ?_) <;> (simp only [cmpP] at hc; try exact prIQ))) | (refine opk 4 rfl ?_; (refine ost_cmp rfl rfl rfl rfl (fun hc => ?_) (fun hc => ?_) <;> (simp only [cmpP] at hc; try exact prIQ))) | (refine opk 9 rfl ?_; (refine ost_build1 H rfl rfl rfl evQ lsQ rfl ?_; clear H; intro bk wk H))) | refine Wc.seq ?_ | refine then_n ?_ | refine WL.nil ?_ | refine Wc.region ?_ | refine Wc.block ?_ | refine then_r ?_ | refine then_e ?_ | refine inb_e rfl ?_ | refine inb_o rfl ?_ | refine inb_n ?_ | refine inb_r ?_ | refine Wc.skip ?_ | refine Wc.exit ?_ | refine Wc.ret ?_ | refine Wc.cond_true rfl ?_ | refine Wc.cond_false rfl ?_ | refine WL.skp rfl rfl ?_ | refine WL.sku rfl ?_)
      exact ⟨l.length - (i + 1), by omega, i + 1, ag, cg, ae, ce, ab, cb, rfl, by omega, by omega, by (repeat' (first | exact Agree.refl _ _ | exact Agree.havoc | refine Agree.upd rfl ?_ | refine Agree.hav2 rfl ?_)), by rw [gn]; first | done | rfl, by rw [gn]; first | done | rfl, by rw [gn]; first | done | rfl, rfl, by rw [gn]; exact H.tl⟩
  · obtain ⟨ag7, cg7, h7, e7, hle7, hO7, H9⟩ := H.freezeR (rows_cOp (goodR l i))
    injection e7 with e71 e72 e73
    subst e71; subst e73
    obtain ⟨ae8, ce8, h8, e8, hle8, hA8, H8⟩ := H9.freezeR (rows_cI (endsR (headB id).length (goodR l i)))
    injection e8 with e81 e82 e83
    subst e81; subst e83
    obtain ⟨ab9, cb9, h9, e9, hle9, hB9, H7⟩ := H8.freeze8
    injection e9 with e91 e92 e93
    subst e91; subst e93
    clear H H9 H8
    have H := H7
    clear H7
    repeat' (first | ((first | refine WL.p rfl ?_ | refine WL.u ?_ | refine WL.g rfl rfl ?_ | refine WL.gu rfl ?_); first | refine pvQ ?_ | (refine opk 3 rfl ?_; (refine ost_cmp rfl rfl rfl rfl (fun hc => ?_) (fun hc => ?_) <;> (simp only [cmpP] at hc; try exact prIQ))) | (refine opk 4 rfl ?_; (refine ost_cmp rfl rfl rfl rfl (fun hc => ?_) (fun hc => ?_) <;> (simp only [cmpP] at hc; try exact prIQ))) | (refine opk 9 rfl ?_; (refine ost_build1 H rfl rfl rfl evQ lsQ rfl ?_; clear H; intro bk wk H))) | refine Wc.seq ?_ | refine then_n ?_ | refine WL.nil ?_ | refine Wc.region ?_ | refine Wc.block ?_ | refine then_r ?_ | refine then_e ?_ | refine inb_e rfl ?_ | refine inb_o rfl ?_ | refine inb_n ?_ | refine inb_r ?_ | refine Wc.skip ?_ | refine Wc.exit ?_ | refine Wc.ret ?_ | refine Wc.cond_true rfl ?_ | refine Wc.cond_false rfl ?_ | refine WL.skp rfl rfl ?_ | refine WL.sku rfl ?_)
    all_goals exact fn_ret4 (v1 := .slice _ _ _) (v2 := .slice _ _ _) (v3 := .slice _ _ _) (v4 := .bool _) rfl rfl rfl rfl rfl ⟨_, _, H.pick0, goodR l i, _, _, _, _, _, _, hga, by omega, by rw [List.length_map, List.length_map], rfl, hB9, hO7.mono fun k o e => hle9 _ _ (hle8 _ _ e), hA8.mono hle9⟩
end Go.Tg

set_option linter.unusedVariables false
set_option linter.unusedSimpArgs false
set_option maxRecDepth 100000
set_option maxHeartbeats 8000000
namespace Go.Tg
open Go Go.Proofs
theorem atsR_get (k : Nat) (g : List OpT) : ∀ (i : Nat) (h : i < (atsR k g).length), (atsR k g)[i] = k + (recsB (g.take i)).length := by
  induction g generalizing k with
  | nil => intro i h; exact absurd h (by simp [atsR])
  | cons o g ih =>
    intro i h
    cases i with
    | zero => simp [atsR, recsB]
    | succ i =>
      simp only [atsR, List.getElem_cons_succ, List.take_succ_cons, recsB_cons, List.length_append]
      rw [ih]; omega
end Go.Tg
namespace Go.Proofs.YtajfhoeejeadkaaDoor
open Go.ChangeShapes Go.WideShapes Go.ChangeAt Go.RowKit Go.Tg
end Go.Proofs.YtajfhoeejeadkaaDoor

