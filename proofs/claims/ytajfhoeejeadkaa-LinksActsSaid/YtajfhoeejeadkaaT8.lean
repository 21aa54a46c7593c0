/- Contracts of Go functions that the laws reach: what each call answers and leaves in memory, for all arguments within the bounds that each theorem names. -/
import Derived.Test.YtajfhoeejeadkaaInst
import Derived.Test.YtajfhoeejeadkaaAuto
import Derived.Test.YtajfhoeejeadkaaT5
set_option linter.unusedVariables false
set_option linter.unusedSimpArgs false
set_option maxRecDepth 100000
set_option maxHeartbeats 2000000
namespace Go.Tg
open Go Go.Proofs
theorem map_erase {α β : Type} (f : α → β) (l : List α) (i : Nat) : (l.map f).eraseIdx i = (l.eraseIdx i).map f := by
  rw [List.eraseIdx_eq_take_drop_succ, List.eraseIdx_eq_take_drop_succ, List.map_append, List.map_take, List.map_drop]
theorem del_lv (a : Option Addr) (c : Nat) (lv : List (Value × List UInt8)) (i : Nat) (hi : i < lv.length) (h1 : ∀ v ∈ lv.map (·.1), v.oneCell' = true) (hb : lv.length ≤ 1000000) (g : FH) (w : World)
    (HO : St w (vsH (.slice a lv.length c) lv).fp g g [vsH (.slice a lv.length c) lv] w) :
    Spec Try.prog 28 #[.slice a lv.length c, .int .i64 i, .int .i64 ((i : Int) + 1)] w (vsH (.slice a lv.length c) lv).fp g (fun v' h' L' => h' = g ∧ ∃ a' c', v' = .slice a' (lv.eraseIdx i).length c' ∧ L' = [vsH v' (lv.eraseIdx i)]) := by
  have hl : (lv.map (·.1)).length = lv.length := List.length_map ..
  have := del_sl a c (lv.map (·.1)) i (by omega) h1 (by omega) g w (by rw [hl]; exact HO)
  rw [hl, map_erase, List.length_map] at this
  exact this
theorem po_takeNo (pb mb : Nat) (rp rm n : Int) (es : List EnT) (clk : Nat) (k : LkT) (q : Int) (hno : ¬ (0 ≤ q ∧ q < (ltE es k).length)) (g : FH) (w : World) (HO : St w (poH pb mb rp rm n es clk).fp g g [poH pb mb rp rm n es clk] w) :
    Spec Try.prog 21 #[pt pb, .agg (lkL k).toArray, .int .i64 q] w (poH pb mb rp rm n es clk).fp g (fun v' h' L' => h' = g ∧ v' = .tuple #[.slice none 0 0, .int .i64 7] ∧ L' = [poH pb mb rp rm n es clk]) := by
  have H := HO.split3
  have g3 : (poL rp rm n mb)[0 + 3]? = some (.map (some mb)) := rfl
  have lk2 : (lkL k).length = 2 := rfl
  generalize hF9 : (poH pb mb rp rm n es clk).fp = F9 at H ⊢
  obtain ⟨a, c, m, hgm, hml⟩ : ∃ a c m, getM (.slice none 0 0) (es.map EnT.me) k = .slice a m c ∧ (ltE es k).length = m := by
    cases hi : idxE es k with
    | none => exact ⟨none, 0, 0, getM_none hi, by rw [ltE_none hi]; rfl⟩
    | some i =>
      obtain ⟨e, he, -, -⟩ := idxE_some hi
      obtain ⟨a, c, e9⟩ := (H.entry he).vsForm (i := 0) rfl
      exact ⟨a, c, e.lv.length, (getM_some hi he).trans e9, by rw [ltE_some hi he, List.length_map]⟩
  rw [hml] at hno
  unfold Spec
  refine calls_of Try.func21 rfl Try.ntmps21 (by simp) ?_
  repeat' (first | ((first | refine WL.p rfl ?_ | refine WL.u ?_ | refine WL.g rfl rfl ?_ | refine WL.gu rfl ?_); first | (refine opk 13 rfl ?_; (refine ost_lookup0 (k := k) rfl rfl rfl H.bI ?_; rw [hgm])) | refine pvQ ?_ | (refine opk 3 rfl ?_; (refine ost_cmp rfl rfl rfl rfl (fun hc => ?_) (fun hc => ?_) <;> (simp only [cmpP] at hc; try exact prIQ))) | (refine opk 4 rfl ?_; (refine ost_cmp rfl rfl rfl rfl (fun hc => ?_) (fun hc => ?_) <;> (simp only [cmpP] at hc; try exact prIQ))) | (refine opk 8 rfl ?_; (refine ost_store1 H rfl rfl vlQ gvQ ixQ (by first | decide | (simp; omega) | (simp; done) | omega) ?_; clear H; intro wk H; simp only [List.set_cons_zero, List.set_cons_succ, Nat.reduceAdd] at H)) | (refine opk 9 rfl ?_; (refine ost_boxq H rfl ?_; clear H; intro bk wk H))) | refine Wc.seq ?_ | refine then_n ?_ | refine WL.nil ?_ | refine Wc.region ?_ | refine Wc.block ?_ | refine then_r ?_ | refine then_e ?_ | refine inb_e rfl ?_ | refine inb_o rfl ?_ | refine inb_n ?_ | refine inb_r ?_ | refine Wc.skip ?_ | refine Wc.exit ?_ | refine Wc.ret ?_ | refine Wc.cond_true rfl ?_ | refine Wc.cond_false rfl ?_ | (refine Wc.drawn (id := 1) 5 (by kernel_rfl) ?_) | (refine Wc.drawn (id := 5) 10 (by kernel_rfl) ?_) | refine WL.skp rfl rfl ?_ | refine WL.sku rfl ?_ | (refine rgs_nil ?_; intro vs wk hE; replace H := H.ext hE; clear hE) | refine RGs.skp (fun _ => rfl) rfl ?_ | (refine RGs.bq (fun _ => rfl) rfl (by intro vs w hE hP; have H := H.ext hE; first | exact dbQ | fail) (fun hc => ?_) (fun hc => ?_) <;> ((try simp only [cmpP, decide_eq_true_eq, decide_eq_false_iff_not, dcd_iff, dcd_no] at hc); try exact prDQ)) | refine RGs.pq (fun _ => rfl) rfl (by intro vs w hE hP; have H := H.ext hE; first | exact dvQ | fail) ?_)
  all_goals first | exact fn_ret2 (v1 := .slice _ _ _) (v2 := .int _ _) rfl rfl rfl ⟨_, _, (H.picks [1, 2, 3] rfl (by decide)).join3, rfl, rfl, rfl⟩ | (exfalso; omega)
theorem po_takeOk (pb mb : Nat) (rp rm n : Int) (es : List EnT) (clk : Nat) (k : LkT) (j : Nat) (x : List UInt8) (hI : InvE es clk) (hx : (ltE es k)[j]? = some x) (hn : 0 ≤ n ∧ n ≤ 100000) (hb : (ltE es k).length ≤ 1000000) (g : FH) (w : World) (HO : St w (poH pb mb rp rm n es clk).fp g g [poH pb mb rp rm n es clk] w) :
    Spec Try.prog 21 #[pt pb, .agg (lkL k).toArray, .int .i64 j] w (poH pb mb rp rm n es clk).fp g (fun v' h' L' => h' = g ∧ ∃ a' c' es', v' = .tuple #[.slice a' x.length c', .int .i64 0] ∧ L' = [own8 (.slice a' x.length c') 5 x, poH pb mb rp rm (n - 1) es' clk] ∧ InvE es' clk ∧ ∀ k', ltE es' k' = if k' = k then (ltE es k).eraseIdx j else ltE es k') := by
  have H := HO.split3
  have g2 : (poL rp rm n mb)[0 + 2]? = some (.int .i64 n) := rfl
  have g3 : (poL rp rm n mb)[0 + 3]? = some (.map (some mb)) := rfl
  have lk2 : (lkL k).length = 2 := rfl
  have lp4 : (poL rp rm n mb).length = 4 := rfl
  generalize hF9 : (poH pb mb rp rm n es clk).fp = F9 at H ⊢
  obtain ⟨i, hi⟩ : ∃ i, idxE es k = some i := by
    cases hi : idxE es k with
    | none => rw [ltE_none hi] at hx; simp at hx
    | some i => exact ⟨i, rfl⟩
  obtain ⟨e, he, hk9, hil⟩ := idxE_some hi
  have hlt := ltE_some hi he
  rw [hlt, List.getElem?_map] at hx
  obtain ⟨y, hy, hyx⟩ := Option.map_eq_some_iff.1 hx
  have hjl := (List.getElem?_eq_some_iff.1 hy).1
  rw [hlt, List.length_map] at hb
  replace H := H.entry he
  have hone := H.lvOne (i := 1) rfl
  obtain ⟨a8, c8, ey, hy8⟩ := H.lvForm (i := 1) rfl y (List.mem_of_getElem? hy)
  obtain ⟨a, c, ev9⟩ := H.vsForm (i := 0) rfl
  have hgm : getM (.slice none 0 0) (es.map EnT.me) k = .slice a e.lv.length c := (getM_some hi he).trans ev9
  have hsm := fun v => setM_some (clk := clk) (v := v) (lv := e.lv.eraseIdx j) hi he
  have hset := fun v => InvE.set (v := v) (lv := e.lv.eraseIdx j) hI he
  have hlts := fun v => ltE_set (v := v) (lv := e.lv.eraseIdx j) hi he
  have hput : ∀ v, (e.put v (e.lv.eraseIdx j)).lv = e.lv.eraseIdx j := fun _ => rfl
  rw [hlt]
  rw [ev9] at H
  have hmx : c ≤ maxLen := by
    obtain ⟨_, _, e1, _, h2, _⟩ := H.ownRd (i := 0) rfl
    injection e1 with _ _ e3
    omega
  have h9 : (maxLen : Nat) ≤ 9223372036854775807 := by decide
  obtain ⟨g0, cur, rfl, hnc, hcl, hct, H9⟩ := H.ownBlk (i := 0) rfl (by omega)
  clear H; have H := H9; clear H9
  rw [Nat.mul_one] at hcl hct
  simp only [List.set_cons_zero] at H
  have gx : cur[0 + (j : Int).toNat * 1]? = some (.slice a8 y.2.length c8) := by
    have : 0 + (j : Int).toNat * 1 = j := by omega
    rw [this, ← ey]
    have h1 := congrArg (fun l => l[j]?) hct
    simp only [List.getElem?_take, if_pos hjl, List.getElem?_map, hy, Option.map_some] at h1
    exact h1
  unfold Spec
  refine calls_of Try.func21 rfl Try.ntmps21 (by simp) ?_
  repeat' (first | ((first | refine WL.p rfl ?_ | refine WL.u ?_ | refine WL.g rfl rfl ?_ | refine WL.gu rfl ?_); first | (refine opk 13 rfl ?_; (refine ost_lookup0 (k := k) rfl rfl rfl H.bI ?_; rw [hgm])) | refine pvQ ?_ | (refine opk 3 rfl ?_; (refine ost_cmp rfl rfl rfl rfl (fun hc => ?_) (fun hc => ?_) <;> (simp only [cmpP] at hc; try exact prIQ))) | (refine opk 4 rfl ?_; (refine ost_cmp rfl rfl rfl rfl (fun hc => ?_) (fun hc => ?_) <;> (simp only [cmpP] at hc; try exact prIQ))) | (refine opk 8 rfl ?_; (refine ost_store1 H rfl rfl vlQ gvQ ixQ (by first | decide | (simp; omega) | (simp; done) | omega) ?_; clear H; intro wk H; simp only [List.set_cons_zero, List.set_cons_succ, Nat.reduceAdd] at H)) | (refine opk 9 rfl ?_; (refine ost_boxq H rfl ?_; clear H; intro bk wk H))) | refine Wc.seq ?_ | refine then_n ?_ | refine WL.nil ?_ | refine Wc.region ?_ | refine Wc.block ?_ | refine then_r ?_ | refine then_e ?_ | refine inb_e rfl ?_ | refine inb_o rfl ?_ | refine inb_n ?_ | refine inb_r ?_ | refine Wc.skip ?_ | refine Wc.exit ?_ | refine Wc.ret ?_ | refine Wc.cond_true rfl ?_ | refine Wc.cond_false rfl ?_ | (refine Wc.drawn (id := 1) 5 (by kernel_rfl) ?_) | refine WL.skp rfl rfl ?_ | refine WL.sku rfl ?_ | (refine rgs_nil ?_; intro vs wk hE; replace H := H.ext hE; clear hE) | refine RGs.skp (fun _ => rfl) rfl ?_ | (refine RGs.bq (fun _ => rfl) rfl (by intro vs w hE hP; have H := H.ext hE; first | exact dbQ | fail) (fun hc => ?_) (fun hc => ?_) <;> ((try simp only [cmpP, decide_eq_true_eq, decide_eq_false_iff_not, dcd_iff, dcd_no] at hc); try exact prDQ)) | refine RGs.pq (fun _ => rfl) rfl (by intro vs w hE hP; have H := H.ext hE; first | exact dvQ | fail) ?_)
  all_goals first | (exfalso; omega) | skip
  obtain ⟨bk, ebk⟩ := H.nameB idx0
  subst ebk
  have H8 := H.blkOwnB (i := 1) rfl hcl (n := e.lv.length) hnc hmx
  rw [hct] at H8
  clear H
  replace H : St w F9 g g [.blk bk (.cells (lkL k).toArray 64 (0, 0)), vsH (.slice (some ⟨g0, 0, none⟩) e.lv.length c) e.lv, lvH e.lv, poB pb mb rp rm n, moB mb es clk, HA.all ((es.map enH).eraseIdx i)] _ := H8
  clear H8 gx hct hcl ev9 hgm hy8
  repeat' (first | ((first | refine WL.p rfl ?_ | refine WL.u ?_ | refine WL.g rfl rfl ?_ | refine WL.gu rfl ?_); first | (refine opk 13 rfl ?_; (refine ost_mapUpdate (k := k) (i := 3) H rfl rfl rfl rfl rfl ?_; clear H; intro wk H; rw [hsm] at H; simp only [List.set_cons_zero, List.set_cons_succ] at H)) | refine pvQ ?_ | (refine opk 3 rfl ?_; (refine ost_cmp rfl rfl rfl rfl (fun hc => ?_) (fun hc => ?_) <;> (simp only [cmpP] at hc; try exact prIQ))) | (refine opk 4 rfl ?_; (refine ost_cmp rfl rfl rfl rfl (fun hc => ?_) (fun hc => ?_) <;> (simp only [cmpP] at hc; try exact prIQ))) | (refine opk 8 rfl ?_; (refine ost_store1 H rfl rfl vlQ gvQ ixQ (by first | decide | (simp; omega) | (simp; done) | omega) ?_; clear H; intro wk H; simp only [List.set_cons_zero, List.set_cons_succ, Nat.reduceAdd] at H)) | (refine opk 9 rfl ?_; (refine ost_boxq H rfl ?_; clear H; intro bk wk H))) | refine Wc.seq ?_ | refine then_n ?_ | refine WL.nil ?_ | refine Wc.region ?_ | refine Wc.block ?_ | refine then_r ?_ | refine then_e ?_ | refine inb_e rfl ?_ | refine inb_o rfl ?_ | refine inb_n ?_ | refine inb_r ?_ | refine Wc.skip ?_ | refine Wc.exit ?_ | refine Wc.ret ?_ | refine Wc.cond_true rfl ?_ | refine Wc.cond_false rfl ?_ | (refine Wc.drawn (id := 1) 5 (by kernel_rfl) ?_) | refine WL.skp rfl rfl ?_ | refine WL.sku rfl ?_ | (refine rgs_nil ?_; intro vs wk hE; replace H := H.ext hE; clear hE) | refine RGs.skp (fun _ => rfl) rfl ?_ | (refine RGs.bq (fun _ => rfl) rfl (by intro vs w hE hP; have H := H.ext hE; first | exact dbQ | fail) (fun hc => ?_) (fun hc => ?_) <;> ((try simp only [cmpP, decide_eq_true_eq, decide_eq_false_iff_not, dcd_iff, dcd_no] at hc); try exact prDQ)) | refine RGs.pq (fun _ => rfl) rfl (by intro vs w hE hP; have H := H.ext hE; first | exact dvQ | fail) ?_ | (refine Wc.drawM (id := 5) 10 [(9, [vsH (.slice (some ⟨g0, 0, none⟩) e.lv.length c) e.lv], fun v L' => ∃ a c, v = Value.slice a (e.lv.eraseIdx j).length c ∧ L' = [vsH (Value.slice a (e.lv.eraseIdx j).length c) (e.lv.eraseIdx j)])] [.blk _ _, lvH _, .blk _ _, .blk _ _, HA.all _] [9] H (by kernel_rfl) rfl (by kernel_rfl) (perm_pick [0, 2, 3, 4, 5, 1] 6 rfl (by decide) rfl) ?_) | (refine rgm_nil ?_; intro vs wk outs HM hR; obtain ⟨v9, ⟨a9, c9, e9, o9⟩, h9⟩ := hR 9 _ rfl; have hv9 : vs (0 + 1 + 1 + 1 + 1 + 1 + 1 + 1 + 1 + 1) = _ := (h9 (by kernel_rfl)).trans e9; simp only [outsL, o9, List.cons_append, List.nil_append, List.append_nil] at HM; (try dsimp only); rw [hv9]; replace H := HM; clear HM hR) | refine RGm.skp (fun _ => rfl) rfl ?_ | (refine RGm.bq (fun _ => rfl) rfl (by intro vs w TT hP H; simp only [List.cons_append, List.nil_append] at H; first | exact dbQ | fail) (fun hc => ?_) (fun hc => ?_) <;> ((try simp only [cmpP, decide_eq_true_eq, decide_eq_false_iff_not, dcd_iff, dcd_no] at hc); try exact prDQ)) | refine RGm.pq (fun _ => rfl) rfl (by intro vs w TT hP H; simp only [List.cons_append, List.nil_append] at H; first | exact dvQ | fail) ?_ | refine RGm.mq (fun _ => rfl) rfl (by intro vs w TT hP H; simp only [List.cons_append, List.nil_append] at H; first | (refine ost_O (i := 0) H rfl rfl (fun HO => del_lv _ c e.lv j hjl hone hb _ _ HO) rfl ?_; rintro vk wk hfk Lk ⟨e9, a9, c9, rfl, rfl⟩ H2; exact ⟨_, ⟨a9, c9, rfl, rfl⟩, H2⟩) | fail) ?_ | refine RGm.mu rfl (by intro vs w TT hP H; simp only [List.cons_append, List.nil_append] at H; first | (refine ost_O (i := 0) H rfl rfl (fun HO => del_lv _ c e.lv j hjl hone hb _ _ HO) rfl ?_; rintro vk wk hfk Lk ⟨e9, a9, c9, rfl, rfl⟩ H2; exact ⟨_, ⟨a9, c9, rfl, rfl⟩, H2⟩) | fail) ?_)
  have hm1 : (e.lv.map fun x => own8 x.1 5 x.2)[j]? = some (own8 y.1 5 y.2) := by rw [List.getElem?_map, hy]; rfl
  have H2 : St w F9 g g [HA.all (e.lv.map fun x => own8 x.1 5 x.2), vsH (.slice a9 (e.lv.eraseIdx j).length c9) (e.lv.eraseIdx j), poB pb mb rp rm (n - 1), moB mb (es.set i (e.put (.slice a9 (e.lv.eraseIdx j).length c9) (e.lv.eraseIdx j))) clk, HA.all ((es.map enH).eraseIdx i)] _ := H.picks [1, 5, 2, 3, 4] rfl (by decide)
  have H3 := H2.allTake hm1
  rw [map_erase, ey, hyx] at H3
  have H4 : St w F9 g g [vsH (.slice a9 (e.lv.eraseIdx j).length c9) (e.lv.eraseIdx j), lvH (e.lv.eraseIdx j), poB pb mb rp rm (n - 1), moB mb (es.set i (e.put (.slice a9 (e.lv.eraseIdx j).length c9) (e.lv.eraseIdx j))) clk, HA.all ((es.map enH).eraseIdx i), own8 (.slice a8 x.length c8) 5 x] _ := H3.picks [2, 1, 3, 4, 5, 0] rfl (by decide)
  have H5 := H4.shut (e' := e.put (.slice a9 (e.lv.eraseIdx j).length c9) (e.lv.eraseIdx j)) hil
  have H6 := H5.picks (L' := [_, _]) [1, 0] rfl (by decide)
  refine fn_ret2 (v1 := .slice _ _ _) (v2 := .int _ _) rfl rfl rfl ⟨_, _, H6, rfl, a8, c8, es.set i (e.put (.slice a9 (e.lv.eraseIdx j).length c9) (e.lv.eraseIdx j)), by rw [hyx], rfl, hset _, fun k' => ?_⟩
  rw [hlts, map_erase]
end Go.Tg

set_option linter.unusedVariables false
set_option linter.unusedSimpArgs false
set_option maxRecDepth 100000
set_option maxHeartbeats 2000000
namespace Go.Tg
open Go Go.Proofs
theorem Sl.getM {α : Type} {f : α → List Value} {xs : List α} {h : FH} {sz : Nat} {a : Option Addr} {c : Nat} (r : Sl h sz a c (xs.map f)) (hs : 0 < sz) (hx : 0 < xs.length) :
    ∃ b off l T fr, a = some ⟨b, off, none⟩ ∧ h b = some (.cells (List.toArray l) T fr) ∧ ∀ (m j : Nat) (hj : j < xs.length), m = j → (l.drop (off + m * sz)).take sz = f xs[j] := by
  obtain ⟨b, off, l, T, fr, e1, e2, e3⟩ := r.get hs (i := 0) (by simpa using hx)
  exact ⟨b, off, l, T, fr, e1, e2, fun m j hj hm => by subst hm; have := e3 m (by simpa using hj); rw [this]; simp⟩
theorem Sl.lenM {α : Type} {f : α → List Value} {xs : List α} {h : FH} {sz : Nat} {a : Option Addr} {c : Nat} (r : Sl h sz a c (xs.map f)) : xs.length ≤ c ∧ c ≤ 9223372036854775807 := by
  have h1 := r.le; have h2 := r.mx
  have h9 : (maxLen : Nat) ≤ 9223372036854775807 := by decide
  exact ⟨by simpa using h1, by omega⟩
theorem St.poBlk {ws w : World} {S : List Nat} {h0 h : FH} {L : List HA} {i pb mb clk : Nat} {rp rm n : Int} {es : List EnT} (H : St ws S h0 h L w) (hi : L[i]? = some (poH pb mb rp rm n es clk)) : full w pb = some (.cells (poL rp rm n mb).toArray 57 (0, 0)) := (H.ok i _ hi).1
abbrev ltL (k : LkT) (v : Value) : List Value := [.int .u8 k.1.toNat, .int .u8 k.2.toNat, v]
def zeroL : List Value := [.int .u8 0, .int .u8 0, .slice none 0 0]
noncomputable def arrC (rp : Int) (k : LkT) : Int := if faultC rp k ≠ 0 then faultC rp k else 7
theorem faultC_cases (rp : Int) (k : LkT) : faultC rp k = 0 ∨ faultC rp k = 2 := by
  unfold faultC
  split
  · exact .inl rfl
  · split
    · exact .inr rfl
    · exact .inl rfl
theorem po_ArriveNo (pb mb : Nat) (rp rm n : Int) (es : List EnT) (clk : Nat) (k : LkT) (q : Int) (hno : faultC rp k ≠ 0 ∨ ¬ (0 ≤ q ∧ q < (ltE es k).length)) (g : FH) (w : World) (HO : St w (poH pb mb rp rm n es clk).fp g g [poH pb mb rp rm n es clk] w) :
    Spec Try.prog 10 #[pt pb, .int .u8 k.1.toNat, .int .u8 k.2.toNat, .int .i64 q] w (poH pb mb rp rm n es clk).fp g (fun v' h' L' => h' = g ∧ v' = .tuple #[.agg zeroL.toArray, .int .i64 (arrC rp k)] ∧ L' = [poH pb mb rp rm n es clk]) := by
  have H := HO
  have lz : zeroL.length = 3 := rfl
  generalize hF9 : (poH pb mb rp rm n es clk).fp = F9 at H ⊢
  unfold Spec
  refine calls_of Try.func10 rfl Try.ntmps10 (by simp) ?_
  unfold arrC
  by_cases hf : faultC rp k ≠ 0
  · rw [if_pos hf]
    have hfc := faultC_cases rp k
    generalize hC : faultC rp k = C at hf hfc
    repeat' (first | ((first | refine WL.p rfl ?_ | refine WL.u ?_); first | (refine opk 1 rfl ?_; (refine ost_V H rfl ((hC ▸ po_fault pb mb rp rm n k _ _ (sat_full _) (H.poBlk (i := 2) rfl))) rfl ?_; clear H; intro wk H)) | refine pvQ ?_ | (refine opk 3 rfl ?_; (refine ost_cmp rfl rfl rfl rfl (fun hc => ?_) (fun hc => ?_) <;> (simp only [cmpP] at hc; try exact prIQ))) | (refine opk 4 rfl ?_; (refine ost_cmp rfl rfl rfl rfl (fun hc => ?_) (fun hc => ?_) <;> (simp only [cmpP] at hc; try exact prIQ))) | (refine opk 8 rfl ?_; (refine ost_storeW H rfl rfl rfl rfl lQ ixQ lQ okQ ?_; clear H; intro wk H; simp only [List.set_cons_zero, List.set_cons_succ, Nat.reduceAdd] at H)) | (refine opk 9 rfl ?_; (refine ost_allocA H rfl ?_; clear H; intro bk wk H))) | refine Wc.seq ?_ | refine then_n ?_ | refine WL.nil ?_ | refine Wc.region ?_ | refine Wc.block ?_ | refine then_r ?_ | refine then_e ?_ | refine inb_e rfl ?_ | refine inb_o rfl ?_ | refine inb_n ?_ | refine inb_r ?_ | refine Wc.skip ?_ | refine Wc.exit ?_ | refine Wc.ret ?_ | refine Wc.cond_true rfl ?_ | refine Wc.cond_false rfl ?_)
    exact fn_ret2 (v2 := .int _ _) rfl (rv_cellA rfl rfl H.bI lQ) rfl ⟨_, _, H.pick 2 rfl, rfl, rfl, rfl⟩
  · rw [if_neg hf]
    have hno2 : ¬ (0 ≤ q ∧ q < (ltE es k).length) := hno.resolve_left hf
    have hC : faultC rp k = 0 := Classical.not_not.1 hf
    repeat' (first | ((first | refine WL.p rfl ?_ | refine WL.u ?_); first | (refine opk 1 rfl ?_; first | (refine ost_V H rfl ((hC ▸ po_fault pb mb rp rm n k _ _ (sat_full _) (H.poBlk (i := 2) rfl))) rfl ?_; clear H; intro wk H) | (refine ost_O H rfl idx2 (fun HO => po_takeNo pb mb rp rm n es clk k q hno2 _ _ HO) rfl ?_; clear H; rintro vk wk hfk Lk ⟨e9, rfl, rfl⟩ H; simp only [List.cons_append, List.nil_append, List.eraseIdx_cons_zero, List.eraseIdx_cons_succ] at H)) | refine pvQ ?_ | (refine opk 3 rfl ?_; (refine ost_cmp rfl rfl rfl rfl (fun hc => ?_) (fun hc => ?_) <;> (simp only [cmpP] at hc; try exact prIQ))) | (refine opk 4 rfl ?_; (refine ost_cmp rfl rfl rfl rfl (fun hc => ?_) (fun hc => ?_) <;> (simp only [cmpP] at hc; try exact prIQ))) | (refine opk 8 rfl ?_; (refine ost_storeW H rfl rfl rfl rfl lQ ixQ lQ okQ ?_; clear H; intro wk H; simp only [List.set_cons_zero, List.set_cons_succ, Nat.reduceAdd] at H)) | (refine opk 9 rfl ?_; (refine ost_allocA H rfl ?_; clear H; intro bk wk H))) | refine Wc.seq ?_ | refine then_n ?_ | refine WL.nil ?_ | refine Wc.region ?_ | refine Wc.block ?_ | refine then_r ?_ | refine then_e ?_ | refine inb_e rfl ?_ | refine inb_o rfl ?_ | refine inb_n ?_ | refine inb_r ?_ | refine Wc.skip ?_ | refine Wc.exit ?_ | refine Wc.ret ?_ | refine Wc.cond_true rfl ?_ | refine Wc.cond_false rfl ?_)
    exact fn_ret2 (v2 := .int _ _) rfl (rv_cellA rfl rfl H.bI lQ) rfl ⟨_, _, H.pick 0 rfl, rfl, rfl, rfl⟩
theorem po_ArriveOk (pb mb : Nat) (rp rm n : Int) (es : List EnT) (clk : Nat) (k : LkT) (j : Nat) (x : List UInt8) (hf : faultC rp k = 0) (hI : InvE es clk) (hx : (ltE es k)[j]? = some x) (hn : 0 ≤ n ∧ n ≤ 100000) (hb : (ltE es k).length ≤ 1000000) (g : FH) (w : World) (HO : St w (poH pb mb rp rm n es clk).fp g g [poH pb mb rp rm n es clk] w) :
    Spec Try.prog 10 #[pt pb, .int .u8 k.1.toNat, .int .u8 k.2.toNat, .int .i64 j] w (poH pb mb rp rm n es clk).fp g (fun v' h' L' => h' = g ∧ ∃ a' c' es', v' = .tuple #[.agg (ltL k (.slice a' x.length c')).toArray, .int .i64 0] ∧ L' = [own8 (.slice a' x.length c') 5 x, poH pb mb rp rm (n - 1) es' clk] ∧ InvE es' clk ∧ ∀ k', ltE es' k' = if k' = k then (ltE es k).eraseIdx j else ltE es k') := by
  have H := HO
  have lz : zeroL.length = 3 := rfl
  generalize hF9 : (poH pb mb rp rm n es clk).fp = F9 at H ⊢
  unfold Spec
  refine calls_of Try.func10 rfl Try.ntmps10 (by simp) ?_
  repeat' (first | ((first | refine WL.p rfl ?_ | refine WL.u ?_); first | (refine opk 1 rfl ?_; first | (refine ost_V H rfl ((hf ▸ po_fault pb mb rp rm n k _ _ (sat_full _) (H.poBlk (i := 2) rfl))) rfl ?_; clear H; intro wk H) | (refine ost_O H rfl idx2 (fun HO => po_takeOk pb mb rp rm n es clk k j x hI hx hn hb _ _ HO) rfl ?_; clear H; rintro vk wk hfk Lk ⟨e9, a8, c8, es8, rfl, rfl, hI8, hlt8⟩ H; simp only [List.cons_append, List.nil_append, List.eraseIdx_cons_zero, List.eraseIdx_cons_succ] at H)) | refine pvQ ?_ | (refine opk 3 rfl ?_; (refine ost_cmp rfl rfl rfl rfl (fun hc => ?_) (fun hc => ?_) <;> (simp only [cmpP] at hc; try exact prIQ))) | (refine opk 4 rfl ?_; (refine ost_cmp rfl rfl rfl rfl (fun hc => ?_) (fun hc => ?_) <;> (simp only [cmpP] at hc; try exact prIQ))) | (refine opk 8 rfl ?_; (refine ost_storeW H rfl rfl rfl rfl lQ ixQ lQ okQ ?_; clear H; intro wk H; simp only [List.set_cons_zero, List.set_cons_succ, Nat.reduceAdd] at H)) | (refine opk 9 rfl ?_; (refine ost_allocA H rfl ?_; clear H; intro bk wk H))) | refine Wc.seq ?_ | refine then_n ?_ | refine WL.nil ?_ | refine Wc.region ?_ | refine Wc.block ?_ | refine then_r ?_ | refine then_e ?_ | refine inb_e rfl ?_ | refine inb_o rfl ?_ | refine inb_n ?_ | refine inb_r ?_ | refine Wc.skip ?_ | refine Wc.exit ?_ | refine Wc.ret ?_ | refine Wc.cond_true rfl ?_ | refine Wc.cond_false rfl ?_)
  exact fn_ret2 (v2 := .int _ _) rfl (rv_cellA rfl rfl H.bI lQ) rfl ⟨_, _, H.picks [0, 1] rfl (by decide), rfl, a8, c8, es8, rfl, rfl, hI8, hlt8⟩
def LsF (h : FH) (a : Option Addr) (c : Nat) (lv : List (Value × List UInt8)) : Prop := Sl h 1 a c (lv.map fun x => [x.1]) ∧ ∀ x ∈ lv, BSv h x.1 x.2
theorem LsF.mono {h h' : FH} {a : Option Addr} {c : Nat} {lv : List (Value × List UInt8)} (hle : FLe h h') (r : LsF h a c lv) : LsF h' a c lv := ⟨Sl.mono hle r.1, fun x hx => (r.2 x hx).mono hle⟩
theorem flat_one (lv : List (Value × List UInt8)) : (lv.map fun x => [x.1]).flatten = lv.map (·.1) := by
  induction lv with
  | nil => rfl
  | cons x lv ih => simp [ih]
theorem rows_one (lv : List (Value × List UInt8)) : ∀ r, r ∈ (lv.map fun x => [x.1]) → r.length = 1 := by
  intro r hr
  obtain ⟨x, -, rfl⟩ := List.mem_map.1 hr
  rfl
theorem vsH_rows (v : Value) (lv : List (Value × List UInt8)) : vsH v lv = ownR v 31 1 (lv.map fun x => [x.1]) := by
  unfold vsH ownR; rw [flat_one, List.length_map]
section
variable {ws w : World} {S : List Nat} {h0 h : FH} {L : List HA}
theorem St.ownLs {v : Value} {lv : List (Value × List UInt8)} {i j : Nat} (H : St ws S h0 h L w) (hi : L[i]? = some (vsH v lv)) (hj : L[j]? = some (lvH lv)) : ∃ a c, v = .slice a lv.length c ∧ LsF (full w) a c lv := by
  rw [vsH_rows] at hi
  obtain ⟨a, c, e, hS⟩ := H.ownSl hi (rows_one lv)
  rw [List.length_map] at e
  exact ⟨a, c, e, hS, fun x hx => H.lvForm hj x hx⟩
theorem St.poLs {pb mb clk i : Nat} {rp rm n : Int} {es : List EnT} (H : St ws S h0 h L w) (hi : L[i]? = some (poH pb mb rp rm n es clk)) (k : LkT) : ∃ a c lv, getM (.slice none 0 0) (es.map EnT.me) k = .slice a lv.length c ∧ LsF (full w) a c lv ∧ lv.map (·.2) = ltE es k := by
  cases hk : idxE es k with
  | none => exact ⟨none, 0, [], getM_none hk, ⟨Sl.nil _ _, fun x hx => (List.not_mem_nil hx).elim⟩, (ltE_none hk).symm⟩
  | some j =>
    obtain ⟨e, he, -, -⟩ := idxE_some hk
    have H1 := ((H.front i hi).split3).entry he
    obtain ⟨a, c, e9, hL⟩ := H1.ownLs (i := 0) (j := 1) rfl rfl
    exact ⟨a, c, e.lv, (getM_some hk he).trans e9, hL, (ltE_some hk he).symm⟩
theorem St.poMap {pb mb clk i : Nat} {rp rm n : Int} {es : List EnT} (H : St ws S h0 h L w) (hi : L[i]? = some (poH pb mb rp rm n es clk)) : full w mb = some (mpO cLk (es.map EnT.me) clk) := (H.ok i _ hi).2.1.1
end
theorem po_Waits (pb mb : Nat) (rp rm n : Int) (es : List EnT) (clk : Nat) (k : LkT) (h0 : FH) (a : Option Addr) (c : Nat) (lv : List (Value × List UInt8)) (w : World) (hs : Sat h0 w) (hp : h0 pb = some (.cells (poL rp rm n mb).toArray 57 (0, 0))) (hm : h0 mb = some (mpO cLk (es.map EnT.me) clk))
    (hg : getM (.slice none 0 0) (es.map EnT.me) k = .slice a lv.length c) (hL : LsF h0 a c lv) (hb : lv.length ≤ 1000000) (hx : ∀ x ∈ lv, x.2.length ≤ 1000000) :
    Spec Try.prog 18 #[pt pb, .int .u8 k.1.toNat, .int .u8 k.2.toNat] w [] h0 (fun v h' L' => ∃ a' c' lv', v = .slice a' lv'.length c' ∧ L' = [vsH v lv', lvH lv'] ∧ lv'.map (·.2) = lv.map (·.2)) := by
  have H := St.start hs
  have g3 : (poL rp rm n mb)[0 + 3]? = some (.map (some mb)) := rfl
  have hS := hL.1
  have hln := hS.lenM
  unfold Spec
  refine calls_of Try.func18 rfl Try.ntmps18 (by simp) ?_
  repeat' (first | ((first | refine WL.p rfl ?_ | refine WL.u ?_); first | (refine opk 13 rfl ?_; (refine ost_lookup0 (k := k) rfl rfl rfl (H.sat _ _ hm) ?_; rw [hg])) | refine pvQ ?_ | (refine opk 3 rfl ?_; first | (refine ost_cmp rfl rfl rfl rfl (fun hc => ?_) (fun hc => ?_) <;> (simp only [cmpP] at hc; try exact prIQ)) | (refine ost_ptEq rfl rfl rfl (fun hc => ?_) (fun hc => ?_) <;> try (simp at hc; done)) | (refine ost_ptNe rfl rfl rfl (fun hc => ?_) (fun hc => ?_) <;> try (simp at hc; done))) | (refine opk 4 rfl ?_; (refine ost_cmp rfl rfl rfl rfl (fun hc => ?_) (fun hc => ?_) <;> (simp only [cmpP] at hc; try exact prIQ))) | (refine opk 9 rfl ?_; (refine ost_build1 H rfl rfl rfl evQ lsQ rfl ?_; clear H; intro bk wk H))) | refine Wc.seq ?_ | refine then_n ?_ | refine WL.nil ?_ | refine Wc.region ?_ | refine Wc.block ?_ | refine then_r ?_ | refine then_e ?_ | refine inb_e rfl ?_ | refine inb_o rfl ?_ | refine inb_n ?_ | refine inb_r ?_ | refine Wc.skip ?_ | refine Wc.exit ?_ | refine Wc.ret ?_ | refine Wc.cond_true rfl ?_ | refine Wc.cond_false rfl ?_)
  have H2 : St w [] h0 h0 [ownR (.slice none (([] : List (Value × List UInt8)).map fun x => [x.1]).length 0) 31 1 (([] : List (Value × List UInt8)).map fun x => [x.1]), lvH []] w := (H.nilOwn0).nilOwn 31 1
  refine Wc.loopE (fun s0 m s w' => ∃ (i : Nat) (lv' : List (Value × List UInt8)) (a1 : Option Addr) (c1 : Nat), m = lv.length - i ∧ i ≤ lv.length ∧ Agree [7, 9, 21, 22, 23, 24, 25, 26, 27, 28, 29, 30] s s0 ∧ s 21 = .int .i64 i ∧ s 7 = .slice a1 (lv'.map fun x => [x.1]).length c1 ∧ lv'.map (·.2) = (lv.map (·.2)).take i ∧
    St w [] h0 h0 [ownR (.slice a1 (lv'.map fun x => [x.1]).length c1) 31 1 (lv'.map fun x => [x.1]), lvH lv'] w') lv.length ⟨0, [], none, 0, rfl, by omega, Agree.refl _ _, rfl, rfl, rfl, H2⟩ ?_
  clear H H2
  rintro m s w' ⟨i, lv', a1, c1, rfl, hi, hA9, e1, e2, hlv, H⟩
  obtain ⟨j, rfl⟩ := hA9.env2 e1 e2
  clear hA9 e1 e2
  have hrl : (lv'.map fun x => [x.1]).length = lv'.length := List.length_map ..
  have hll : lv'.length = i := by
    have := congrArg List.length hlv
    rw [List.length_map, List.length_take, List.length_map] at this; omega
  by_cases hlt : i < lv.length
  · obtain ⟨b, off, l, T, fr, e1, eb, eg⟩ := hS.getM (by decide) (Nat.lt_of_le_of_lt (Nat.zero_le _) hlt)
    subst e1
    have g1 : l[off + (i : Int).toNat * 1]? = some lv[i].1 := row_cell (eg (i : Int).toNat i hlt (by omega)) (q := 0) (by simp)
    obtain ⟨a8, c8, e8, hr8⟩ := hL.2 _ (List.getElem_mem hlt)
    have hx8 := hx _ (List.getElem_mem hlt)
    have hst : (lv.map (·.2)).take (i + 1) = (lv.map (·.2)).take i ++ [lv[i].2] := by
      rw [List.take_add_one, List.getElem?_map, List.getElem?_eq_getElem hlt]; rfl
    rw [e8] at g1
    generalize lv[i].2 = x at g1 hr8 hx8 hst
    clear eg e8
    have hr1 := rows_one lv'
    generalize hR : lv'.map (fun x => [x.1]) = R at H hrl hr1 ⊢
    repeat' (first | ((first | refine WL.p rfl ?_ | refine WL.u ?_); first | (refine opk 1 rfl ?_; first | (refine ost_C H rfl (clone8 _ _ _ x _ (sat_full _) (hr8.full H) (by omega)) rfl ?_; clear H; rintro vk wk hfk Lk ⟨a5, c5, rfl, e5, rfl⟩ H; simp only [List.cons_append, List.nil_append] at H) | (refine ost_appR (rows := R) (row := [Value.slice a5 x.length c5]) H rfl rfl rfl (by (exact ixQ)) (by (exact ixQ)) (by rfl) (by first | simp; done | exact Nat.succ_pos _) rfl (allOne_of rfl) rfl (by omega) ?_; clear H; intro aa ca wk H; simp only [List.set_cons_zero, List.set_cons_succ] at H)) | (refine opk 9 rfl ?_; (refine ost_buildR (rows := [[Value.slice a5 x.length c5]]) H rfl (by decide) rfl (by rfl) (evP1 vxQ) (.cons rfl .nil) rfl (fun r hr => by rw [List.mem_singleton.1 hr]; rfl) ?_; clear H; intro bk wk H)) | refine pvQ ?_ | (refine opk 3 rfl ?_; first | (refine ost_cmp rfl rfl rfl rfl (fun hc => ?_) (fun hc => ?_) <;> (simp only [cmpP] at hc; try exact prIQ)) | (refine ost_ptEq rfl rfl rfl (fun hc => ?_) (fun hc => ?_) <;> try (simp at hc; done)) | (refine ost_ptNe rfl rfl rfl (fun hc => ?_) (fun hc => ?_) <;> try (simp at hc; done))) | (refine opk 4 rfl ?_; (refine ost_cmp rfl rfl rfl rfl (fun hc => ?_) (fun hc => ?_) <;> (simp only [cmpP] at hc; try exact prIQ))) | (refine opk 9 rfl ?_; (refine ost_build1 H rfl rfl rfl evQ lsQ rfl ?_; clear H; intro bk wk H))) | refine Wc.seq ?_ | refine then_n ?_ | refine WL.nil ?_ | refine Wc.region ?_ | refine Wc.block ?_ | refine then_r ?_ | refine then_e ?_ | refine inb_e rfl ?_ | refine inb_o rfl ?_ | refine inb_n ?_ | refine inb_r ?_ | refine Wc.skip ?_ | refine Wc.exit ?_ | refine Wc.ret ?_ | refine Wc.cond_true rfl ?_ | refine Wc.cond_false rfl ?_)
    have hR2 : (lv' ++ [(Value.slice a5 x.length c5, x)]).map (fun x => [x.1]) = R ++ [[Value.slice a5 x.length c5]] := by rw [List.map_append, hR]; rfl
    have H3 : St w [] h0 h0 [own8 (.slice a5 x.length c5) 5 x, HA.all (lv'.map fun x => own8 x.1 5 x.2), ownR (.slice aa (R ++ [[Value.slice a5 x.length c5]]).length ca) 31 1 (R ++ [[Value.slice a5 x.length c5]])] _ := H.picks [1, 3, 2] rfl (by decide)
    have H4 := H3.allSnoc
    have e9 : (lv'.map fun x => own8 x.1 5 x.2) ++ [own8 (.slice a5 x.length c5) 5 x] = (lv' ++ [(Value.slice a5 x.length c5, x)]).map fun x => own8 x.1 5 x.2 := by rw [List.map_append]; rfl
    rw [e9, ← hR2] at H4
    exact ⟨lv.length - (i + 1), by omega, i + 1, lv' ++ [(Value.slice a5 x.length c5, x)], aa, ca, rfl, by omega, by (repeat' (first | exact Agree.refl _ _ | exact Agree.havoc | refine Agree.upd rfl ?_ | refine Agree.hav2 rfl ?_)), rfl, by rw [hR2]; rfl, by rw [List.map_append, hlv, hst]; rfl, H4.picks [1, 0] rfl (by decide)⟩
  · obtain rfl : i = lv.length := by omega
    rw [show (lv.map (·.2)).take lv.length = lv.map (·.2) from by rw [← List.length_map (f := fun x : Value × List UInt8 => x.2), List.take_length]] at hlv
    repeat' (first | ((first | refine WL.p rfl ?_ | refine WL.u ?_); first | refine pvQ ?_ | (refine opk 3 rfl ?_; first | (refine ost_cmp rfl rfl rfl rfl (fun hc => ?_) (fun hc => ?_) <;> (simp only [cmpP] at hc; try exact prIQ)) | (refine ost_ptEq rfl rfl rfl (fun hc => ?_) (fun hc => ?_) <;> try (simp at hc; done)) | (refine ost_ptNe rfl rfl rfl (fun hc => ?_) (fun hc => ?_) <;> try (simp at hc; done))) | (refine opk 4 rfl ?_; (refine ost_cmp rfl rfl rfl rfl (fun hc => ?_) (fun hc => ?_) <;> (simp only [cmpP] at hc; try exact prIQ))) | (refine opk 9 rfl ?_; (refine ost_build1 H rfl rfl rfl evQ lsQ rfl ?_; clear H; intro bk wk H))) | refine Wc.seq ?_ | refine then_n ?_ | refine WL.nil ?_ | refine Wc.region ?_ | refine Wc.block ?_ | refine then_r ?_ | refine then_e ?_ | refine inb_e rfl ?_ | refine inb_o rfl ?_ | refine inb_n ?_ | refine inb_r ?_ | refine Wc.skip ?_ | refine Wc.exit ?_ | refine Wc.ret ?_ | refine Wc.cond_true rfl ?_ | refine Wc.cond_false rfl ?_)
    exact fn_ret1 (v := .slice _ _ _) rfl rfl ⟨_, _, H, a1, c1, lv', by rw [hrl], by rw [vsH_rows], hlv⟩
theorem same_ls (h0 : FH) (w : World) (hs : Sat h0 w) (a : Option Addr) (c : Nat) (lv : List (Value × List UInt8)) (a' : Option Addr) (c' : Nat) (lv' : List (Value × List UInt8)) (hL : LsF h0 a c lv) (hL' : LsF h0 a' c' lv') :
    SpecV Try.prog 17 #[.slice a lv.length c, .slice a' lv'.length c'] w (.bool (decide (lv.map (·.2) = lv'.map (·.2)))) := by
  have H := St.start hs
  have hS := hL.1
  have hS' := hL'.1
  have hln := hS.lenM
  have hln' := hS'.lenM
  unfold SpecV
  refine calls_of Try.func17 rfl Try.ntmps17 (by simp) ?_
  by_cases hl : lv.length = lv'.length
  · repeat' (first | ((first | refine WL.p rfl ?_ | refine WL.u ?_); first | refine pvQ ?_ | (refine opk 3 rfl ?_; first | (refine ost_cmp rfl rfl rfl rfl (fun hc => ?_) (fun hc => ?_) <;> (simp only [cmpP] at hc; try exact prIQ)) | (refine ost_streqB rfl rfl rfl (fun hc => ?_) (fun hc => ?_) <;> try exact prEQ) | (refine ost_strneB rfl rfl rfl (fun hc => ?_) (fun hc => ?_) <;> try exact prEQ) | (refine ost_streq rfl rfl rfl (fun hc => ?_) (fun hc => ?_) <;> try exact absurd rfl hc) | (refine ost_strne rfl rfl rfl (fun hc => ?_) (fun hc => ?_))) | (refine opk 4 rfl ?_; (refine ost_cmp rfl rfl rfl rfl (fun hc => ?_) (fun hc => ?_) <;> (simp only [cmpP] at hc; try exact prIQ)))) | refine Wc.seq ?_ | refine then_n ?_ | refine WL.nil ?_ | refine Wc.region ?_ | refine Wc.block ?_ | refine then_r ?_ | refine then_e ?_ | refine inb_e rfl ?_ | refine inb_o rfl ?_ | refine inb_n ?_ | refine inb_r ?_ | refine Wc.skip ?_ | refine Wc.exit ?_ | refine Wc.ret ?_ | refine Wc.cond_true rfl ?_ | refine Wc.cond_false rfl ?_ | (refine Wc.drawn (id := 6) 10 (by kernel_rfl) ?_) | (refine rgs_nil ?_; intro vs wk hE; replace H := H.ext hE; clear hE) | (refine RGs.bq (fun _ => rfl) rfl (by intro vs w hE hP; have H := H.ext hE; first | exact dbQ | fail) (fun hc => ?_) (fun hc => ?_) <;> ((try simp only [cmpP, decide_eq_true_eq, decide_eq_false_iff_not, dcd_iff, dcd_no] at hc); try exact prDQ)) | refine RGs.pq (fun _ => rfl) rfl (by intro vs w hE hP; have H := H.ext hE; first | exact dvQ | fail) ?_)
    refine Wc.loopE (fun s0 m s w' => ∃ i : Nat, m = lv.length - i ∧ i ≤ lv.length ∧ Agree [4, 5, 13, 14, 15, 16, 17, 18, 19, 20, 21, 22, 23, 24, 25, 26, 27] s s0 ∧ s 13 = .int .i64 i ∧ (lv.map (·.2)).take i = (lv'.map (·.2)).take i ∧ St w [] h0 h0 [] w') lv.length ⟨0, rfl, by omega, Agree.refl _ _, rfl, rfl, H⟩ ?_
    clear H
    rintro m s w' ⟨i, rfl, hi, hA9, e1, hlv, H⟩
    obtain ⟨j, rfl⟩ := hA9.env1 e1
    clear hA9 e1
    by_cases hlt : i < lv.length
    · have hlt' : i < lv'.length := by omega
      obtain ⟨b, off, l, T, fr, e1, eb, eg⟩ := hS.getM (by decide) (Nat.lt_of_le_of_lt (Nat.zero_le _) hlt)
      subst e1
      have g1 : l[off + (i : Int).toNat * 1]? = some lv[i].1 := row_cell (eg (i : Int).toNat i hlt (by omega)) (q := 0) (by simp)
      obtain ⟨a8, c8, e8, hr8⟩ := hL.2 _ (List.getElem_mem hlt)
      obtain ⟨b', off', l', T', fr', e1', eb', eg'⟩ := hS'.getM (by decide) (Nat.lt_of_le_of_lt (Nat.zero_le _) hlt')
      subst e1'
      have g1' : l'[off' + (i : Int).toNat * 1]? = some lv'[i].1 := row_cell (eg' (i : Int).toNat i hlt' (by omega)) (q := 0) (by simp)
      obtain ⟨a9, c9, e9, hr9⟩ := hL'.2 _ (List.getElem_mem hlt')
      have hst : (lv.map (·.2)).take (i + 1) = (lv.map (·.2)).take i ++ [lv[i].2] := by
        rw [List.take_add_one, List.getElem?_map, List.getElem?_eq_getElem hlt]; rfl
      have hst' : (lv'.map (·.2)).take (i + 1) = (lv'.map (·.2)).take i ++ [lv'[i].2] := by
        rw [List.take_add_one, List.getElem?_map, List.getElem?_eq_getElem hlt']; rfl
      have hne : lv.map (·.2) = lv'.map (·.2) → lv[i].2 = lv'[i].2 := fun e => by
        have := congrArg (fun l => l[i]?) e
        simpa [hlt, hlt'] using this
      rw [e8] at g1
      rw [e9] at g1'
      generalize lv[i].2 = x at g1 hr8 hst hne
      generalize lv'[i].2 = y at g1' hr9 hst' hne
      clear eg eg' e8 e9
      by_cases hxy : x = y
      · repeat' (first | ((first | refine WL.p rfl ?_ | refine WL.u ?_); first | refine pvQ ?_ | (refine opk 3 rfl ?_; first | (refine ost_cmp rfl rfl rfl rfl (fun hc => ?_) (fun hc => ?_) <;> (simp only [cmpP] at hc; try exact prIQ)) | (refine ost_streqB rfl rfl rfl (fun hc => ?_) (fun hc => ?_) <;> try exact prEQ) | (refine ost_strneB rfl rfl rfl (fun hc => ?_) (fun hc => ?_) <;> try exact prEQ) | (refine ost_streq rfl rfl rfl (fun hc => ?_) (fun hc => ?_) <;> try exact absurd rfl hc) | (refine ost_strne rfl rfl rfl (fun hc => ?_) (fun hc => ?_))) | (refine opk 4 rfl ?_; (refine ost_cmp rfl rfl rfl rfl (fun hc => ?_) (fun hc => ?_) <;> (simp only [cmpP] at hc; try exact prIQ)))) | refine Wc.seq ?_ | refine then_n ?_ | refine WL.nil ?_ | refine Wc.region ?_ | refine Wc.block ?_ | refine then_r ?_ | refine then_e ?_ | refine inb_e rfl ?_ | refine inb_o rfl ?_ | refine inb_n ?_ | refine inb_r ?_ | refine Wc.skip ?_ | refine Wc.exit ?_ | refine Wc.ret ?_ | refine Wc.cond_true rfl ?_ | refine Wc.cond_false rfl ?_ | (refine Wc.drawn (id := 6) 10 (by kernel_rfl) ?_) | (refine rgs_nil ?_; intro vs wk hE; replace H := H.ext hE; clear hE) | (refine RGs.bq (fun _ => rfl) rfl (by intro vs w hE hP; have H := H.ext hE; first | exact dbQ | fail) (fun hc => ?_) (fun hc => ?_) <;> ((try simp only [cmpP, decide_eq_true_eq, decide_eq_false_iff_not, dcd_iff, dcd_no] at hc); try exact prDQ)) | refine RGs.pq (fun _ => rfl) rfl (by intro vs w hE hP; have H := H.ext hE; first | (refine opk 6 rfl ?_; first | (refine ost_toStrN (xs := x) rfl rfl (by first | rfl | (simp; omega)) (hr8.full H) ?_; exact ⟨Fr.refl _ _, rfl⟩) | (refine ost_toStrN (xs := y) rfl rfl (by first | rfl | (simp; omega)) (hr9.full H) ?_; exact ⟨Fr.refl _ _, rfl⟩)) | exact dvQ | fail) ?_)
        exact ⟨lv.length - (i + 1), by omega, i + 1, rfl, by omega, by (repeat' (first | exact Agree.refl _ _ | exact Agree.havoc | refine Agree.upd rfl ?_ | refine Agree.hav2 rfl ?_)), rfl, by rw [hst, hst', hlv, hxy], H⟩
      · have hd : decide (lv.map (·.2) = lv'.map (·.2)) = false := decide_eq_false fun e => hxy (hne e)
        rw [hd]
        repeat' (first | ((first | refine WL.p rfl ?_ | refine WL.u ?_); first | refine pvQ ?_ | (refine opk 3 rfl ?_; first | (refine ost_cmp rfl rfl rfl rfl (fun hc => ?_) (fun hc => ?_) <;> (simp only [cmpP] at hc; try exact prIQ)) | (refine ost_streqB rfl rfl rfl (fun hc => ?_) (fun hc => ?_) <;> try exact prEQ) | (refine ost_strneB rfl rfl rfl (fun hc => ?_) (fun hc => ?_) <;> try exact prEQ) | (refine ost_streq rfl rfl rfl (fun hc => ?_) (fun hc => ?_) <;> try exact absurd rfl hc) | (refine ost_strne rfl rfl rfl (fun hc => ?_) (fun hc => ?_))) | (refine opk 4 rfl ?_; (refine ost_cmp rfl rfl rfl rfl (fun hc => ?_) (fun hc => ?_) <;> (simp only [cmpP] at hc; try exact prIQ)))) | refine Wc.seq ?_ | refine then_n ?_ | refine WL.nil ?_ | refine Wc.region ?_ | refine Wc.block ?_ | refine then_r ?_ | refine then_e ?_ | refine inb_e rfl ?_ | refine inb_o rfl ?_ | refine inb_n ?_ | refine inb_r ?_ | refine Wc.skip ?_ | refine Wc.exit ?_ | refine Wc.ret ?_ | refine Wc.cond_true rfl ?_ | refine Wc.cond_false rfl ?_ | (refine Wc.drawn (id := 6) 10 (by kernel_rfl) ?_) | (refine rgs_nil ?_; intro vs wk hE; replace H := H.ext hE; clear hE) | (refine RGs.bq (fun _ => rfl) rfl (by intro vs w hE hP; have H := H.ext hE; first | exact dbQ | fail) (fun hc => ?_) (fun hc => ?_) <;> ((try simp only [cmpP, decide_eq_true_eq, decide_eq_false_iff_not, dcd_iff, dcd_no] at hc); try exact prDQ)) | refine RGs.pq (fun _ => rfl) rfl (by intro vs w hE hP; have H := H.ext hE; first | (refine opk 6 rfl ?_; first | (refine ost_toStrN (xs := x) rfl rfl (by first | rfl | (simp; omega)) (hr8.full H) ?_; exact ⟨Fr.refl _ _, rfl⟩) | (refine ost_toStrN (xs := y) rfl rfl (by first | rfl | (simp; omega)) (hr9.full H) ?_; exact ⟨Fr.refl _ _, rfl⟩)) | exact dvQ | fail) ?_)
        (first | refine fn_ret1 (v := .bool _) rfl rfl ⟨?_, H.fr⟩ | refine fn_ret1 (v := .int _ _) rfl rfl ⟨?_, H.fr⟩ | refine fn_ret1 (v := .string _) rfl rfl ⟨?_, H.fr⟩); rfl
    · obtain rfl : i = lv.length := by omega
      have hd : decide (lv.map (·.2) = lv'.map (·.2)) = true := decide_eq_true (by
        rw [show (lv.map (·.2)).take lv.length = lv.map (·.2) from by rw [← List.length_map (f := fun x : Value × List UInt8 => x.2), List.take_length]] at hlv
        rw [hlv, hl, ← List.length_map (f := fun x : Value × List UInt8 => x.2), List.take_length])
      rw [hd]
      repeat' (first | ((first | refine WL.p rfl ?_ | refine WL.u ?_); first | refine pvQ ?_ | (refine opk 3 rfl ?_; first | (refine ost_cmp rfl rfl rfl rfl (fun hc => ?_) (fun hc => ?_) <;> (simp only [cmpP] at hc; try exact prIQ)) | (refine ost_streqB rfl rfl rfl (fun hc => ?_) (fun hc => ?_) <;> try exact prEQ) | (refine ost_strneB rfl rfl rfl (fun hc => ?_) (fun hc => ?_) <;> try exact prEQ) | (refine ost_streq rfl rfl rfl (fun hc => ?_) (fun hc => ?_) <;> try exact absurd rfl hc) | (refine ost_strne rfl rfl rfl (fun hc => ?_) (fun hc => ?_))) | (refine opk 4 rfl ?_; (refine ost_cmp rfl rfl rfl rfl (fun hc => ?_) (fun hc => ?_) <;> (simp only [cmpP] at hc; try exact prIQ)))) | refine Wc.seq ?_ | refine then_n ?_ | refine WL.nil ?_ | refine Wc.region ?_ | refine Wc.block ?_ | refine then_r ?_ | refine then_e ?_ | refine inb_e rfl ?_ | refine inb_o rfl ?_ | refine inb_n ?_ | refine inb_r ?_ | refine Wc.skip ?_ | refine Wc.exit ?_ | refine Wc.ret ?_ | refine Wc.cond_true rfl ?_ | refine Wc.cond_false rfl ?_ | (refine Wc.drawn (id := 6) 10 (by kernel_rfl) ?_) | (refine rgs_nil ?_; intro vs wk hE; replace H := H.ext hE; clear hE) | (refine RGs.bq (fun _ => rfl) rfl (by intro vs w hE hP; have H := H.ext hE; first | exact dbQ | fail) (fun hc => ?_) (fun hc => ?_) <;> ((try simp only [cmpP, decide_eq_true_eq, decide_eq_false_iff_not, dcd_iff, dcd_no] at hc); try exact prDQ)) | refine RGs.pq (fun _ => rfl) rfl (by intro vs w hE hP; have H := H.ext hE; first | exact dvQ | fail) ?_)
      (first | refine fn_ret1 (v := .bool _) rfl rfl ⟨?_, H.fr⟩ | refine fn_ret1 (v := .int _ _) rfl rfl ⟨?_, H.fr⟩ | refine fn_ret1 (v := .string _) rfl rfl ⟨?_, H.fr⟩); rfl
  · have hd : decide (lv.map (·.2) = lv'.map (·.2)) = false := decide_eq_false fun e => hl (by have := congrArg List.length e; simpa using this)
    rw [hd]
    repeat' (first | ((first | refine WL.p rfl ?_ | refine WL.u ?_); first | refine pvQ ?_ | (refine opk 3 rfl ?_; first | (refine ost_cmp rfl rfl rfl rfl (fun hc => ?_) (fun hc => ?_) <;> (simp only [cmpP] at hc; try exact prIQ)) | (refine ost_streqB rfl rfl rfl (fun hc => ?_) (fun hc => ?_) <;> try exact prEQ) | (refine ost_strneB rfl rfl rfl (fun hc => ?_) (fun hc => ?_) <;> try exact prEQ) | (refine ost_streq rfl rfl rfl (fun hc => ?_) (fun hc => ?_) <;> try exact absurd rfl hc) | (refine ost_strne rfl rfl rfl (fun hc => ?_) (fun hc => ?_))) | (refine opk 4 rfl ?_; (refine ost_cmp rfl rfl rfl rfl (fun hc => ?_) (fun hc => ?_) <;> (simp only [cmpP] at hc; try exact prIQ)))) | refine Wc.seq ?_ | refine then_n ?_ | refine WL.nil ?_ | refine Wc.region ?_ | refine Wc.block ?_ | refine then_r ?_ | refine then_e ?_ | refine inb_e rfl ?_ | refine inb_o rfl ?_ | refine inb_n ?_ | refine inb_r ?_ | refine Wc.skip ?_ | refine Wc.exit ?_ | refine Wc.ret ?_ | refine Wc.cond_true rfl ?_ | refine Wc.cond_false rfl ?_ | (refine Wc.drawn (id := 6) 10 (by kernel_rfl) ?_) | (refine rgs_nil ?_; intro vs wk hE; replace H := H.ext hE; clear hE) | (refine RGs.bq (fun _ => rfl) rfl (by intro vs w hE hP; have H := H.ext hE; first | exact dbQ | fail) (fun hc => ?_) (fun hc => ?_) <;> ((try simp only [cmpP, decide_eq_true_eq, decide_eq_false_iff_not, dcd_iff, dcd_no] at hc); try exact prDQ)) | refine RGs.pq (fun _ => rfl) rfl (by intro vs w hE hP; have H := H.ext hE; first | exact dvQ | fail) ?_)
    all_goals first | ((first | refine fn_ret1 (v := .bool _) rfl rfl ⟨?_, H.fr⟩ | refine fn_ret1 (v := .int _ _) rfl rfl ⟨?_, H.fr⟩ | refine fn_ret1 (v := .string _) rfl rfl ⟨?_, H.fr⟩); rfl) | (exfalso; omega)
end Go.Tg

set_option linter.unusedVariables false
set_option linter.unusedSimpArgs false
set_option maxRecDepth 100000
set_option maxHeartbeats 2000000
namespace Go.Tg
open Go Go.Proofs
theorem entM_some {es : List EnT} {clk i : Nat} {k : LkT} {z : Value} (h : idxE es k = some i) : entM z (es.map EnT.me) clk k = (es.map EnT.me, clk) := by
  unfold entM; rw [idxM_me, h]
theorem entM_none {es : List EnT} {clk : Nat} {k : LkT} {z : Value} (h : idxE es k = none) : entM z (es.map EnT.me) clk k = (es.map EnT.me ++ [(⟨k, z, clk⟩ : ME LkT)], clk + 1) := by
  unfold entM; rw [idxM_me, h]
theorem bornM_some {es : List EnT} {clk i : Nat} {k : LkT} {e : EnT} (h : idxE es k = some i) (he : es[i]? = some e) : bornM (es.map EnT.me) clk k = e.b := by
  unfold bornM; rw [idxM_me, h]; simp [he, EnT.me]
theorem bornM_none {es : List EnT} {clk : Nat} {k : LkT} (h : idxE es k = none) : bornM (es.map EnT.me) clk k = clk := by
  unfold bornM; rw [idxM_me, h]
theorem born_at {es : List EnT} {i : Nat} {e : EnT} (hb : (es.map (·.b)).Nodup) (he : es[i]? = some e) : (es.map EnT.me).findIdx? (fun x : ME LkT => ((x.b : Nat) : Int) == (e.b : Nat)) = some i := by
  obtain ⟨hil, rfl⟩ := List.getElem?_eq_some_iff.1 he
  rw [List.findIdx?_eq_some_iff_getElem]
  refine ⟨by rw [List.length_map]; exact hil, by simp [EnT.me], fun j hj => ?_⟩
  have hjl : j < es.length := by omega
  simp only [List.getElem_map, EnT.me]
  intro h9
  have h9 : es[j].b = es[i].b := by simp at h9; omega
  have h8 := (List.pairwise_iff_getElem.1 hb) j i (by rw [List.length_map]; exact hjl) (by rw [List.length_map]; exact hil) hj
  simp at h8
  exact h8 h9
theorem born_new {es : List EnT} {clk : Nat} {k : LkT} {z : Value} (hl : ∀ e ∈ es, e.b < clk) : (es.map EnT.me ++ [(⟨k, z, clk⟩ : ME LkT)]).findIdx? (fun x : ME LkT => ((x.b : Nat) : Int) == (clk : Nat)) = some es.length := by
  rw [List.findIdx?_append]
  have : (es.map EnT.me).findIdx? (fun x : ME LkT => ((x.b : Nat) : Int) == (clk : Nat)) = none := by
    rw [List.findIdx?_eq_none_iff]
    intro x hx
    obtain ⟨e, he, rfl⟩ := List.mem_map.1 hx
    have := hl e he
    simp [EnT.me]; omega
  rw [this]
  simp
theorem me_new (es : List EnT) (clk : Nat) (k : LkT) (z v : Value) (lv : List (Value × List UInt8)) : ((es.map EnT.me ++ [(⟨k, z, clk⟩ : ME LkT)]).modify es.length fun x : ME LkT => { x with v := v }) = (es ++ [(⟨k, v, clk, lv⟩ : EnT)]).map EnT.me := by
  apply List.ext_getElem?
  intro j
  rw [List.getElem?_modify, List.map_append, List.getElem?_append, List.getElem?_append, List.length_map]
  by_cases hj : j < es.length
  · rw [if_pos hj, if_pos hj]
    have : ¬ es.length = j := by omega
    simp [this]
  · rw [if_neg hj, if_neg hj]
    by_cases hj2 : es.length = j
    · subst hj2
      simp [EnT.me]
    · have : j - es.length ≠ 0 := by omega
      obtain ⟨q, hq⟩ : ∃ q, j - es.length = q + 1 := ⟨j - es.length - 1, by omega⟩
      rw [hq]; simp
theorem InvE.snoc {es : List EnT} {clk : Nat} {k : LkT} {v : Value} {lv : List (Value × List UInt8)} (h : InvE es clk) (hk : idxE es k = none) : InvE (es ++ [⟨k, v, clk, lv⟩]) (clk + 1) := by
  refine ⟨?_, ?_, fun x hx => ?_⟩
  · rw [List.map_append, List.nodup_append]
    refine ⟨h.ks, by simp, fun a ha b hb => ?_⟩
    obtain ⟨e, he, rfl⟩ := List.mem_map.1 ha
    simp at hb
    subst hb
    exact idxE_none hk e he
  · rw [List.map_append, List.nodup_append]
    refine ⟨h.bs, by simp, fun a ha b hb => ?_⟩
    obtain ⟨e, he, rfl⟩ := List.mem_map.1 ha
    simp at hb
    subst hb
    have := h.lt e he
    omega
  · rcases List.mem_append.1 hx with h1 | h1
    · have := h.lt x h1; omega
    · simp at h1; subst h1; show clk < clk + 1; omega
theorem ltE_snoc {es : List EnT} {clk : Nat} {k : LkT} {v : Value} {lv : List (Value × List UInt8)} (hk : idxE es k = none) (k' : LkT) : ltE (es ++ [⟨k, v, clk, lv⟩]) k' = if k' = k then lv.map (·.2) else ltE es k' := by
  by_cases hkk : k' = k
  · subst hkk
    rw [if_pos rfl]
    unfold ltE
    rw [List.find?_append]
    have : es.find? (fun e => decide (e.k = k')) = none := by rw [find_idx, hk]
    rw [this]; simp
  · rw [if_neg hkk]
    unfold ltE
    rw [List.find?_append]
    have : ([⟨k, v, clk, lv⟩] : List EnT).find? (fun e => decide (e.k = k')) = none := by
      simp; exact fun e => hkk e.symm
    rw [this]
    cases es.find? (fun e => decide (e.k = k')) <;> rfl
def sendC (rp rm n : Int) (k : LkT) (x : List UInt8) : Int := if faultC rp k ≠ 0 then faultC rp k else if 5000 < x.length then 2 else if rm ≤ n then 10 else 0
theorem po_SendNo (pb mb : Nat) (rp rm n : Int) (es : List EnT) (clk : Nat) (k : LkT) (a : Option Addr) (c : Nat) (x : List UInt8) (hc : sendC rp rm n k x ≠ 0) (g : FH) (w : World) (HO : St w (poH pb mb rp rm n es clk).fp g g [poH pb mb rp rm n es clk] w) :
    Spec Try.prog 15 #[pt pb, .agg (ltL k (.slice a x.length c)).toArray] w (poH pb mb rp rm n es clk).fp g (fun v' h' L' => h' = g ∧ v' = .int .i64 (sendC rp rm n k x) ∧ L' = [poH pb mb rp rm n es clk]) := by
  have H := HO.split3
  have g1 : (poL rp rm n mb)[0 + 1]? = some (.int .i64 rm) := rfl
  have g2 : (poL rp rm n mb)[0 + 2]? = some (.int .i64 n) := rfl
  have q0 : (ltL k (.slice a x.length c))[0 + 0]? = some (.int .u8 k.1.toNat) := rfl
  have q1 : (ltL k (.slice a x.length c))[0 + 1]? = some (.int .u8 k.2.toNat) := rfl
  have q2 : (ltL k (.slice a x.length c))[0 + 2]? = some (.slice a x.length c) := rfl
  have hfc := faultC_cases rp k
  have hsc : sendC rp rm n k x = if faultC rp k ≠ 0 then faultC rp k else if 5000 < x.length then 2 else if rm ≤ n then 10 else 0 := rfl
  generalize hF9 : (poH pb mb rp rm n es clk).fp = F9 at H ⊢
  generalize hC : faultC rp k = C at hfc hsc
  generalize sendC rp rm n k x = Z at hc hsc ⊢
  have hfl := fun w hs hb => hC ▸ po_fault pb mb rp rm n k (full w) w hs hb
  unfold Spec
  refine calls_of Try.func15 rfl Try.ntmps15 (by simp) ?_
  by_cases h1 : C ≠ 0
  · rw [if_pos h1] at hsc
    subst hsc
    repeat' (first | ((first | refine WL.p rfl ?_ | refine WL.u ?_); first | (refine opk 1 rfl ?_; (refine ost_V H rfl (hfl _ (sat_full _) H.bI) rfl ?_; clear H; intro wk H)) | refine pvQ ?_ | (refine opk 3 rfl ?_; (refine ost_cmp rfl rfl rfl rfl (fun hc => ?_) (fun hc => ?_) <;> (simp only [cmpP] at hc; try exact prIQ))) | (refine opk 4 rfl ?_; (refine ost_cmp rfl rfl rfl rfl (fun hc => ?_) (fun hc => ?_) <;> (simp only [cmpP] at hc; try exact prIQ))) | (refine opk 8 rfl ?_; first | (refine ost_store1 H rfl rfl vlQ gvQ ixQ (by first | decide | (simp; omega) | (simp; done) | omega) ?_; clear H; intro wk H; simp only [List.set_cons_zero, List.set_cons_succ, Nat.reduceAdd] at H) | (refine ost_storeW H rfl rfl rfl rfl lQ ixQ lQ okQ ?_; clear H; intro wk H; simp only [List.set_cons_zero, List.set_cons_succ, Nat.reduceAdd] at H)) | (refine opk 9 rfl ?_; first | (refine ost_boxq H rfl ?_; clear H; intro bk wk H) | (refine ost_allocA H rfl ?_; clear H; intro bk wk H) | (refine ost_build1 H rfl rfl rfl evQ lsQ rfl ?_; clear H; intro bk wk H))) | refine Wc.seq ?_ | refine then_n ?_ | refine WL.nil ?_ | refine Wc.region ?_ | refine Wc.block ?_ | refine then_r ?_ | refine then_e ?_ | refine inb_e rfl ?_ | refine inb_o rfl ?_ | refine inb_n ?_ | refine inb_r ?_ | refine Wc.skip ?_ | refine Wc.exit ?_ | refine Wc.ret ?_ | refine Wc.cond_true rfl ?_ | refine Wc.cond_false rfl ?_ | (refine Wc.drawn (id := 7) 8 (by kernel_rfl) ?_) | (refine Wc.drawn (id := 9) 13 (by kernel_rfl) ?_) | (refine rgs_nil ?_; intro vs wk hE; replace H := H.ext hE; clear hE) | (refine RGs.bq (fun _ => rfl) rfl (by intro vs w hE hP; have H := H.ext hE; first | exact dbQ | fail) (fun hc => ?_) (fun hc => ?_) <;> ((try simp only [cmpP, decide_eq_true_eq, decide_eq_false_iff_not, dcd_iff, dcd_no] at hc); try exact prDQ)) | refine RGs.pq (fun _ => rfl) rfl (by intro vs w hE hP; have H := H.ext hE; first | exact dvQ | fail) ?_)
    all_goals first | (exfalso; omega) | exact fn_ret1 (v := .int _ _) rfl rfl ⟨_, _, (H.picks [2, 3, 4] rfl (by decide)).join3, rfl, rfl, rfl⟩
  · rw [if_neg h1] at hsc
    by_cases h2 : 5000 < x.length
    · rw [if_pos h2] at hsc
      subst hsc
      repeat' (first | ((first | refine WL.p rfl ?_ | refine WL.u ?_); first | (refine opk 1 rfl ?_; (refine ost_V H rfl (hfl _ (sat_full _) H.bI) rfl ?_; clear H; intro wk H)) | refine pvQ ?_ | (refine opk 3 rfl ?_; (refine ost_cmp rfl rfl rfl rfl (fun hc => ?_) (fun hc => ?_) <;> (simp only [cmpP] at hc; try exact prIQ))) | (refine opk 4 rfl ?_; (refine ost_cmp rfl rfl rfl rfl (fun hc => ?_) (fun hc => ?_) <;> (simp only [cmpP] at hc; try exact prIQ))) | (refine opk 8 rfl ?_; first | (refine ost_store1 H rfl rfl vlQ gvQ ixQ (by first | decide | (simp; omega) | (simp; done) | omega) ?_; clear H; intro wk H; simp only [List.set_cons_zero, List.set_cons_succ, Nat.reduceAdd] at H) | (refine ost_storeW H rfl rfl rfl rfl lQ ixQ lQ okQ ?_; clear H; intro wk H; simp only [List.set_cons_zero, List.set_cons_succ, Nat.reduceAdd] at H)) | (refine opk 9 rfl ?_; first | (refine ost_boxq H rfl ?_; clear H; intro bk wk H) | (refine ost_allocA H rfl ?_; clear H; intro bk wk H) | (refine ost_build1 H rfl rfl rfl evQ lsQ rfl ?_; clear H; intro bk wk H))) | refine Wc.seq ?_ | refine then_n ?_ | refine WL.nil ?_ | refine Wc.region ?_ | refine Wc.block ?_ | refine then_r ?_ | refine then_e ?_ | refine inb_e rfl ?_ | refine inb_o rfl ?_ | refine inb_n ?_ | refine inb_r ?_ | refine Wc.skip ?_ | refine Wc.exit ?_ | refine Wc.ret ?_ | refine Wc.cond_true rfl ?_ | refine Wc.cond_false rfl ?_ | (refine Wc.drawn (id := 7) 8 (by kernel_rfl) ?_) | (refine Wc.drawn (id := 9) 13 (by kernel_rfl) ?_) | (refine rgs_nil ?_; intro vs wk hE; replace H := H.ext hE; clear hE) | (refine RGs.bq (fun _ => rfl) rfl (by intro vs w hE hP; have H := H.ext hE; first | exact dbQ | fail) (fun hc => ?_) (fun hc => ?_) <;> ((try simp only [cmpP, decide_eq_true_eq, decide_eq_false_iff_not, dcd_iff, dcd_no] at hc); try exact prDQ)) | refine RGs.pq (fun _ => rfl) rfl (by intro vs w hE hP; have H := H.ext hE; first | exact dvQ | fail) ?_)
      all_goals first | (exfalso; omega) | exact fn_ret1 (v := .int _ _) rfl rfl ⟨_, _, (H.picks [2, 3, 4] rfl (by decide)).join3, rfl, rfl, rfl⟩
    · rw [if_neg h2] at hsc
      by_cases h3 : rm ≤ n
      · rw [if_pos h3] at hsc
        subst hsc
        repeat' (first | ((first | refine WL.p rfl ?_ | refine WL.u ?_); first | (refine opk 1 rfl ?_; (refine ost_V H rfl (hfl _ (sat_full _) H.bI) rfl ?_; clear H; intro wk H)) | refine pvQ ?_ | (refine opk 3 rfl ?_; (refine ost_cmp rfl rfl rfl rfl (fun hc => ?_) (fun hc => ?_) <;> (simp only [cmpP] at hc; try exact prIQ))) | (refine opk 4 rfl ?_; (refine ost_cmp rfl rfl rfl rfl (fun hc => ?_) (fun hc => ?_) <;> (simp only [cmpP] at hc; try exact prIQ))) | (refine opk 8 rfl ?_; first | (refine ost_store1 H rfl rfl vlQ gvQ ixQ (by first | decide | (simp; omega) | (simp; done) | omega) ?_; clear H; intro wk H; simp only [List.set_cons_zero, List.set_cons_succ, Nat.reduceAdd] at H) | (refine ost_storeW H rfl rfl rfl rfl lQ ixQ lQ okQ ?_; clear H; intro wk H; simp only [List.set_cons_zero, List.set_cons_succ, Nat.reduceAdd] at H)) | (refine opk 9 rfl ?_; first | (refine ost_boxq H rfl ?_; clear H; intro bk wk H) | (refine ost_allocA H rfl ?_; clear H; intro bk wk H) | (refine ost_build1 H rfl rfl rfl evQ lsQ rfl ?_; clear H; intro bk wk H))) | refine Wc.seq ?_ | refine then_n ?_ | refine WL.nil ?_ | refine Wc.region ?_ | refine Wc.block ?_ | refine then_r ?_ | refine then_e ?_ | refine inb_e rfl ?_ | refine inb_o rfl ?_ | refine inb_n ?_ | refine inb_r ?_ | refine Wc.skip ?_ | refine Wc.exit ?_ | refine Wc.ret ?_ | refine Wc.cond_true rfl ?_ | refine Wc.cond_false rfl ?_ | (refine Wc.drawn (id := 7) 8 (by kernel_rfl) ?_) | (refine rgs_nil ?_; intro vs wk hE; replace H := H.ext hE; clear hE) | (refine RGs.bq (fun _ => rfl) rfl (by intro vs w hE hP; have H := H.ext hE; first | exact dbQ | fail) (fun hc => ?_) (fun hc => ?_) <;> ((try simp only [cmpP, decide_eq_true_eq, decide_eq_false_iff_not, dcd_iff, dcd_no] at hc); try exact prDQ)) | refine RGs.pq (fun _ => rfl) rfl (by intro vs w hE hP; have H := H.ext hE; first | exact dvQ | fail) ?_)
        all_goals first | (exfalso; omega) | exact fn_ret1 (v := .int _ _) rfl rfl ⟨_, _, (H.picks [2, 3, 4] rfl (by decide)).join3, rfl, rfl, rfl⟩
      · rw [if_neg h3] at hsc
        exact absurd hsc hc
end Go.Tg

