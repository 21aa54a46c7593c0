/- Contracts of Go functions that the laws reach: what each call answers and leaves in memory, for all arguments within the bounds that each theorem names. -/
import Derived.Test.YtbfilhaigbebpaaDoorInst
import Derived.Test.YtbfilhaigbebpaaDoorAuto
import Derived.Test.YtbfilhaigbebpaaDoorRG
set_option linter.unusedVariables false
set_option linter.unusedSimpArgs false
set_option maxRecDepth 100000
set_option maxHeartbeats 4000000
namespace Go.Tg
open Go Go.Proofs
theorem frame_FirstM (n : Nat) (h0 : FH) (a : Option Addr) (c : Nat) (b : List UInt8) (w : World) (hs : Sat h0 w) (hT : Half h0) (hn : n = b.length) (hr : BS h0 a c b) (hb : b.length ≤ 1000000000) :
    Spec Tryd.prog 38 #[.slice a n c] w [] h0 (fun v h' L' => ∃ a' c', v = .tuple #[.slice a' (firstF b).1.length c', .int .i64 (firstF b).2.1, .int .i64 (firstF b).2.2] ∧ h' = h0 ∧ L' = [own8 (.slice a' (firstF b).1.length c') 5 (firstF b).1]) := by
  subst hn; exact frame_First h0 a c b w hs hT hr hb
theorem page_DecodeM (n : Nat) (h0 : FH) (a : Option Addr) (c : Nat) (b : List UInt8) (w : World) (hs : Sat h0 w) (hT : Half h0) (hn : n = b.length) (hr : BS h0 a c b) (hb : b.length ≤ 1000000) :
    Spec Tryd.prog 20 #[.slice a n c] w [] h0 (fun v h' L' => ∃ A, v = .tuple #[.agg (pgV (decP b).1 A).toArray, .int .i64 (decP b).2] ∧ L' = [] ∧ PgR h' (decP b).1 A) := by
  subst hn; exact page_Decode h0 a c b w hs hT hr hb
abbrev rdH (rb : Nat) (a : Option Addr) (c : Nat) (b : List UInt8) (left : Nat) (ai : Option Addr) (ci : Nat) (its : List ItemT) : HA := .both (.blk rb (.cells [Value.slice a b.length c, .int .i64 left, .slice ai its.length ci].toArray 94 (0, 0))) (ownR (.slice ai its.length ci) 70 5 (its.map cItem))
theorem BS.dropE {h : FH} {a : Option Addr} {c : Nat} {xs : List UInt8} (r : BS h a c xs) (i k : Nat) (hi : i ≤ xs.length) : BS h (if c = i then a else a.map (·.add (i * 1))) (c - i) ((xs.drop i).take k) := (r.drop hi).take k
theorem ro_read (rb : Nat) (a : Option Addr) (c : Nat) (b : List UInt8) (hb : b.length ≤ 1000000) : ∀ (left : Nat), left ≤ 8192 → ∀ (i : Nat) (hi : i < 4294967296) (ai : Option Addr) (ci : Nat) (its : List ItemT) (g : FH) (w : World) (hT : Half g) (hr : BS g a c b) (hl : its.length + 8 * left ≤ 65536) (HO : St w (rdH rb a c b left ai ci its).fp g g [rdH rb a c b left ai ci its] w),
    Spec Tryd.prog 28 #[pt rb, .int .u32 (i : Int)] w (rdH rb a c b left ai ci its).fp g (fun v h' L' => ∃ a' c' its' left', L' = [rdH rb a c b left' a' c' its'] ∧ its'.length ≤ 65536 ∧
      ((∃ r, rdF b left [i] = some r ∧ v = .bool true ∧ its' = its ++ r.1 ∧ left' = r.2) ∨ (v = .bool false ∧ rdF b left [i] = none))) := by
  intro left
  induction left using Nat.strongRecOn with
  | _ left ih =>
  intro hleft i hi ai ci its g w hT hr hl HO
  have H := HO.split
  generalize hF9 : (rdH rb a c b left ai ci its).fp = F9 at H ⊢
  have hcap := hr.le
  have hmx := hr.mx
  unfold Spec
  refine calls_of Tryd.func28 rfl Tryd.ntmps28 (by simp) ?_
  by_cases hl0 : left = 0
  · subst hl0
    repeat' (first | ((first | refine WL.p rfl ?_ | refine WL.u ?_ | refine WL.g rfl rfl ?_ | refine WL.gu rfl ?_); first | refine pvQ ?_ | (refine opk 3 rfl ?_; (refine ost_cmp rfl rfl rfl rfl (fun hc => ?_) (fun hc => ?_) <;> (simp only [cmpP] at hc; try exact prIQ))) | (refine opk 4 rfl ?_; (refine ost_cmp rfl rfl rfl rfl (fun hc => ?_) (fun hc => ?_) <;> (simp only [cmpP] at hc; try exact prIQ))) | (refine opk 8 rfl ?_; first | (refine ost_store1 H rfl rfl vlQ gvQ ixQ (by first | decide | (simp; omega) | (simp; done) | omega) ?_; clear H; intro wk H; simp only [List.set_cons_zero, List.set_cons_succ, Nat.reduceAdd] at H) | (refine ost_storeW H rfl rfl rfl rfl lQ ixQ lQ okQ ?_; clear H; intro wk H; simp only [List.set_cons_zero, List.set_cons_succ, Nat.reduceAdd] at H)) | (refine opk 9 rfl ?_; first | (refine ost_allocA H rfl ?_; clear H; intro bk wk H) | (refine ost_build1 H rfl rfl rfl evQ lsQ rfl ?_; clear H; intro bk wk H))) | refine Wc.seq ?_ | refine then_n ?_ | refine WL.nil ?_ | refine Wc.region ?_ | refine Wc.block ?_ | refine then_r ?_ | refine then_e ?_ | refine inb_e rfl ?_ | refine inb_o rfl ?_ | refine inb_n ?_ | refine inb_r ?_ | refine Wc.skip ?_ | refine Wc.exit ?_ | refine Wc.ret ?_ | refine Wc.cond_true rfl ?_ | refine Wc.cond_false rfl ?_ | (refine Wc.drawn (id := 13) 14 (by kernel_rfl) ?_) | refine WL.skp rfl rfl ?_ | refine WL.sku rfl ?_ | (refine rgs_nil ?_; intro vs wk hE; replace H := H.ext hE; clear hE) | refine RGs.skp (fun _ => rfl) rfl ?_ | (refine RGs.bq (fun _ => rfl) rfl (by intro vs w hE hP; have H := H.ext hE; first | exact dbQ | fail) (fun hc => ?_) (fun hc => ?_) <;> ((try simp only [cmpP, decide_eq_true_eq, decide_eq_false_iff_not, dcd_iff, dcd_no] at hc); try exact prDQ)) | refine RGs.pq (fun _ => rfl) rfl (by intro vs w hE hP; have H := H.ext hE; first | exact dvQ | fail) ?_)
    exact fn_ret1 (v := .bool _) rfl rfl ⟨_, _, H.join, _, _, _, _, rfl, by omega, .inr ⟨rfl, rdF_zero b i []⟩⟩
  · obtain ⟨left, rfl⟩ : ∃ m, left = m + 1 := ⟨left - 1, by omega⟩
    have hlf : ((left + 1 : Nat) : Int) - 1 = (left : Nat) := by omega
    by_cases hib : i < b.length
    · have hFF := fun g w hs hT hn hr => frame_FirstM (b.length - i) g (if c = i then a else a.map (·.add (i * 1))) (c - i) (b.drop i) w hs hT hn hr (by rw [List.length_drop]; omega)
      have hpg1 := @pageAt_no2 b i
      have hpg2 := @pageAt_no3 b i
      have hpg3 := @pageAt_yes b i hib
      have hok := @firstF_ok (b.drop i)
      generalize firstF (b.drop i) = F at hFF hpg1 hpg2 hpg3 hok
      obtain ⟨f, k, e⟩ := F
      dsimp only at hFF hpg1 hpg2 hpg3 hok
      by_cases he : e = 0
      · subst he
        obtain ⟨_, _, hk⟩ := hok rfl
        rw [List.length_drop] at hk
        have hDD := fun g w hs hT hr => page_DecodeM (i + k - i) g (if c = i then a else a.map (·.add (i * 1))) (c - i) ((b.drop i).take k) w hs hT (by rw [List.length_take, List.length_drop]; omega) hr (by rw [List.length_take, List.length_drop]; omega)
        have hsh := @decP_shape ((b.drop i).take k)
        generalize decP ((b.drop i).take k) = D at hDD hpg2 hpg3 hsh
        obtain ⟨p, ep⟩ := D
        dsimp only at hDD hpg2 hpg3 hsh
        have lp := pgV_len p
        repeat' (first | ((first | refine WL.p rfl ?_ | refine WL.u ?_ | refine WL.g rfl rfl ?_ | refine WL.gu rfl ?_); first | (refine opk 1 rfl ?_; first | (refine ost_C H rfl (hFF _ _ (sat_full _) (hT.full H) (by rw [List.length_drop]) ((hr.full H).drop (by omega))) rfl ?_; clear H; rintro vk wk hfk Lk ⟨a1, c1, rfl, -, rfl⟩ H; simp only [List.cons_append, List.nil_append] at H) | (refine ost_Sk H rfl (hDD _ _ H.sat hT (hr.dropE i k (by omega))) rfl ?_; clear H; rintro vk wk hfk Lk ⟨A, rfl, rfl, hP⟩ hle H; simp only [List.cons_append, List.nil_append] at H)) | refine pvQ ?_ | (refine opk 3 rfl ?_; (refine ost_cmp rfl rfl rfl rfl (fun hc => ?_) (fun hc => ?_) <;> (simp only [cmpP] at hc; try exact prIQ))) | (refine opk 4 rfl ?_; (refine ost_cmp rfl rfl rfl rfl (fun hc => ?_) (fun hc => ?_) <;> (simp only [cmpP] at hc; try exact prIQ))) | (refine opk 8 rfl ?_; first | (refine ost_store1 H rfl rfl vlQ gvQ ixQ (by first | decide | (simp; omega) | (simp; done) | omega) ?_; clear H; intro wk H; simp only [List.set_cons_zero, List.set_cons_succ, Nat.reduceAdd] at H) | (refine ost_storeW H rfl rfl rfl rfl lQ ixQ lQ okQ ?_; clear H; intro wk H; simp only [List.set_cons_zero, List.set_cons_succ, Nat.reduceAdd] at H)) | (refine opk 9 rfl ?_; first | (refine ost_allocA H rfl ?_; clear H; intro bk wk H) | (refine ost_build1 H rfl rfl rfl evQ lsQ rfl ?_; clear H; intro bk wk H))) | refine Wc.seq ?_ | refine then_n ?_ | refine WL.nil ?_ | refine Wc.region ?_ | refine Wc.block ?_ | refine then_r ?_ | refine then_e ?_ | refine inb_e rfl ?_ | refine inb_o rfl ?_ | refine inb_n ?_ | refine inb_r ?_ | refine Wc.skip ?_ | refine Wc.exit ?_ | refine Wc.ret ?_ | refine Wc.cond_true rfl ?_ | refine Wc.cond_false rfl ?_ | (refine Wc.drawn (id := 13) 14 (by kernel_rfl) ?_) | refine WL.skp rfl rfl ?_ | refine WL.sku rfl ?_ | (refine rgs_nil ?_; intro vs wk hE; replace H := H.ext hE; clear hE) | refine RGs.skp (fun _ => rfl) rfl ?_ | (refine RGs.bq (fun _ => rfl) rfl (by intro vs w hE hP; have H := H.ext hE; first | exact dbQ | fail) (fun hc => ?_) (fun hc => ?_) <;> ((try simp only [cmpP, decide_eq_true_eq, decide_eq_false_iff_not, dcd_iff, dcd_no] at hc); try exact prDQ)) | refine RGs.pq (fun _ => rfl) rfl (by intro vs w hE hP; have H := H.ext hE; first | exact dvQ | fail) ?_)
        · rw [hlf] at H
          exact fn_ret1 (v := .bool _) rfl rfl ⟨_, _, (H.picks [2, 3] rfl (by decide)).join, _, _, _, _, rfl, by omega, .inr ⟨rfl, rdF_no (hpg2 (by assumption)) _ _⟩⟩
        · rename_i hc9
          have hep : ep = 0 := Decidable.not_not.1 (by assumption)
          subst hep
          obtain ⟨hs1, hs2, hs3⟩ := hsh rfl
          have hpp := hpg3 rfl rfl
          clear hpg1 hpg2 hpg3 hsh hFF hDD hok
          obtain ⟨bp, ebp⟩ := H.nameB idx0
          subst ebp
          obtain ⟨ak, ck, al, cl, ad, cd⟩ := A
          rw [hlf] at H
          have hil := itemsP_len hs1
          have hrw := rows_len5 its
          replace H := H.picks (L' := [_, _, _]) [0, 2, 3] rfl (by decide)
          have hT1 := hT.mono hle
          have hr1 := hr.mono hle
          refine Wc.loopE (fun s0 m s w' => ∃ (j : Nat) (ai : Option Addr) (ci : Nat), m = p.locs.length - j ∧ j ≤ p.locs.length ∧ Agree [9, 10, 68, 69, 70, 71, 72, 73, 74, 75, 76, 77, 78, 79, 80, 81, 82, 83, 84, 85, 86, 87, 88, 89] s s0 ∧ s 68 = .int .i64 j ∧
            St w F9 g hfk [.blk bp (.cells (pgV p ⟨ak, ck, al, cl, ad, cd⟩).toArray 59 (0, 0)), .blk rb (.cells [Value.slice a b.length c, .int .i64 left, .slice ai (its ++ (itemsP p).take j).length ci].toArray 94 (0, 0)), ownR (.slice ai (its ++ (itemsP p).take j).length ci) 70 5 ((its ++ (itemsP p).take j).map cItem)] w') _ ⟨0, ai, ci, rfl, by omega, Agree.refl _ _, rfl, by rw [List.take_zero, List.append_nil]; exact H⟩ ?_
          clear H
          rintro m s w' ⟨j, ai, ci, rfl, hj, hA, e1, H⟩
          obtain ⟨j9, rfl⟩ := hA.env1 e1
          clear hA e1
          by_cases hlt : j < p.locs.length
          · have hjk : j < p.keys.length := by omega
            obtain ⟨b7, off7, l7, T7, fr7, e7, eb7, eg7⟩ := hP.l.getM (by decide) (by omega)
            obtain ⟨b8, off8, l8, T8, fr8, e8, eb8, eg8⟩ := hP.k.getM (by decide) (by omega)
            dsimp only at e7 e8
            subst e7
            subst e8
            have g7 : (l7.drop (off7 + (j : Int).toNat * 2)).take 2 = cLoc p.locs[j] := eg7 (j : Int).toNat j hlt rfl
            have g8 : (l8.drop (off8 + (j : Int).toNat * 3)).take 3 = cKey p.keys[j] := eg8 (j : Int).toNat j hjk rfl
            clear eg7 eg8
            have htk := itemsP_take hjk hlt
            have hsn : its ++ (itemsP p).take (j + 1) = its ++ (itemsP p).take j ++ [⟨p.keys[j], p.locs[j]⟩] := by rw [htk, List.append_assoc]
            have hIl : (its ++ (itemsP p).take j).length ≤ 65536 := by rw [List.length_append, List.length_take]; omega
            have g9 : (pgV p ⟨some ⟨b8, off8, none⟩, ck, some ⟨b7, off7, none⟩, cl, ad, cd⟩)[0 + 1]? = some (.slice (some ⟨b8, off8, none⟩) p.keys.length ck) := rfl
            generalize its ++ (itemsP p).take j = II at H hsn hIl ⊢
            generalize p.keys[j] = kj at g8 hsn ⊢
            generalize p.locs[j] = lj at g7 hsn ⊢
            have oi := allOne_of (cItem_one ⟨kj, lj⟩)
            have li := cItem_len ⟨kj, lj⟩
            repeat' (first | ((first | refine WL.p rfl ?_ | refine WL.u ?_ | refine WL.g rfl rfl ?_ | refine WL.gu rfl ?_); first | refine pvQ ?_ | (refine opk 3 rfl ?_; (refine ost_cmp rfl rfl rfl rfl (fun hc => ?_) (fun hc => ?_) <;> (simp only [cmpP] at hc; try exact prIQ))) | (refine opk 4 rfl ?_; (refine ost_cmp rfl rfl rfl rfl (fun hc => ?_) (fun hc => ?_) <;> (simp only [cmpP] at hc; try exact prIQ))) | (refine opk 8 rfl ?_; first | (refine ost_store1 H rfl rfl vlQ gvQ ixQ (by first | decide | (simp; omega) | (simp; done) | omega) ?_; clear H; intro wk H; simp only [List.set_cons_zero, List.set_cons_succ, Nat.reduceAdd] at H) | (refine ost_storeW H rfl rfl rfl rfl lQ ixQ lQ okQ ?_; clear H; intro wk H; simp only [List.set_cons_zero, List.set_cons_succ, Nat.reduceAdd] at H)) | (refine opk 9 rfl ?_; first | (refine ost_allocA H rfl ?_; clear H; intro bk wk H) | (refine ost_build1 H rfl rfl rfl evQ lsQ rfl ?_; clear H; intro bk wk H))) | refine Wc.seq ?_ | refine then_n ?_ | refine WL.nil ?_ | refine Wc.region ?_ | refine Wc.block ?_ | refine then_r ?_ | refine then_e ?_ | refine inb_e rfl ?_ | refine inb_o rfl ?_ | refine inb_n ?_ | refine inb_r ?_ | refine Wc.skip ?_ | refine Wc.exit ?_ | refine Wc.ret ?_ | refine Wc.cond_true rfl ?_ | refine Wc.cond_false rfl ?_ | refine WL.skp rfl rfl ?_ | refine WL.sku rfl ?_ | (refine Wc.drawM (id := 13) 14 [(12, [], fun v L' => ∃ b, v = Value.slice (some ⟨b, 0, none⟩) 1 1 ∧ L' = [ownR (Value.slice (some ⟨b, 0, none⟩) 1 1) 70 5 [cItem ⟨kj, lj⟩]]), (13, [ownR (.slice ai II.length ci) 70 5 (II.map cItem)], fun v L' => ∃ a c, v = Value.slice a (II.map cItem ++ [cItem ⟨kj, lj⟩]).length c ∧ L' = [ownR (Value.slice a (II.map cItem ++ [cItem ⟨kj, lj⟩]).length c) 70 5 (II.map cItem ++ [cItem ⟨kj, lj⟩])])] [.blk _ _, .blk _ _, .blk _ _] [12, 13] H (by kernel_rfl) rfl (by kernel_rfl) (by simp only [inpL, List.nil_append, List.cons_append, List.append_nil]; first | exact List.Perm.refl _ | exact List.Perm.swap _ _ _ | exact (List.Perm.swap _ _ _).trans ((List.Perm.swap _ _ _).cons _) | exact ((List.Perm.swap _ _ _).cons _) | exact ((List.Perm.swap _ _ _).cons _).trans (List.Perm.swap _ _ _)) ?_) | (refine rgm_nil ?_; intro vs wk outs HM hR; obtain ⟨v3, ⟨b3, e3, o3⟩, h3⟩ := hR 12 _ rfl; obtain ⟨v4, ⟨a4, c4, e4, o4⟩, h4⟩ := hR 13 _ rfl; have hv4 : vs (0 + 1 + 1 + 1 + 1 + 1 + 1 + 1 + 1 + 1 + 1 + 1 + 1 + 1) = _ := (h4 (by kernel_rfl)).trans e4; simp only [outsL, o3, o4, List.cons_append, List.nil_append, List.append_nil] at HM; (try dsimp only); rw [hv4]; replace H := HM; clear HM hR) | refine RGm.skp (fun _ => rfl) rfl ?_ | (refine RGm.bq (fun _ => rfl) rfl (by intro vs w TT hP H; simp only [List.cons_append, List.nil_append] at H; first | exact dbQ | fail) (fun hc => ?_) (fun hc => ?_) <;> ((try simp only [cmpP, decide_eq_true_eq, decide_eq_false_iff_not, dcd_iff, dcd_no] at hc); try exact prDQ)) | refine RGm.pq (fun _ => rfl) rfl (by intro vs w TT hP H; simp only [List.cons_append, List.nil_append] at H; first | exact dvQ | fail) ?_ | refine RGm.mq (fun _ => rfl) rfl (by intro vs w TT hP H; simp only [List.cons_append, List.nil_append] at H; first | (refine ost_buildR (rows := [cItem ⟨kj, lj⟩]) H rfl (by decide) rfl (by rfl) (evP1 vxQ) (.cons rfl .nil) rfl (by simp [li]) ?_; intro bk wk H2; exact ⟨[_], ⟨_, rfl, rfl⟩, H2⟩) | (obtain ⟨L9, ⟨b9, e9, rfl⟩, hm9⟩ := hP 12 _ (by kernel_rfl) rfl rfl; obtain ⟨j9, hj9⟩ := List.getElem?_of_mem (hm9 _ (List.mem_singleton_self _)); refine ost_appR (i := 0) (j := j9 + 4) (rows := II.map cItem) (row := cItem ⟨kj, lj⟩) H rfl e9 rfl rfl hj9 (by rfl) (by decide) li oi rfl (by simp; omega) ?_; intro a9 c9 w9 H2; simp only [List.set_cons_zero] at H2; exact ⟨[_], ⟨a9, c9, rfl, rfl⟩, H2⟩) | fail) ?_ | refine RGm.mu rfl (by intro vs w TT hP H; simp only [List.cons_append, List.nil_append] at H; first | (refine ost_buildR (rows := [cItem ⟨kj, lj⟩]) H rfl (by decide) rfl (by rfl) (evP1 vxQ) (.cons rfl .nil) rfl (by simp [li]) ?_; intro bk wk H2; exact ⟨[_], ⟨_, rfl, rfl⟩, H2⟩) | (obtain ⟨L9, ⟨b9, e9, rfl⟩, hm9⟩ := hP 12 _ (by kernel_rfl) rfl rfl; obtain ⟨j9, hj9⟩ := List.getElem?_of_mem (hm9 _ (List.mem_singleton_self _)); refine ost_appR (i := 0) (j := j9 + 4) (rows := II.map cItem) (row := cItem ⟨kj, lj⟩) H rfl e9 rfl rfl hj9 (by rfl) (by decide) li oi rfl (by simp; omega) ?_; intro a9 c9 w9 H2; simp only [List.set_cons_zero] at H2; exact ⟨[_], ⟨a9, c9, rfl, rfl⟩, H2⟩) | fail) ?_)
            have hmp : II.map cItem ++ [cItem ⟨kj, lj⟩] = (II ++ [(⟨kj, lj⟩ : ItemT)]).map cItem := by rw [List.map_append]; rfl
            have hml : (II.map cItem ++ [cItem ⟨kj, lj⟩]).length = (II ++ [(⟨kj, lj⟩ : ItemT)]).length := by simp
            rw [hml, hmp, ← hsn] at H
            exact ⟨p.locs.length - (j + 1), by omega, j + 1, _, _, rfl, by omega, by (repeat' (first | exact Agree.refl _ _ | exact Agree.havoc | refine Agree.upd rfl ?_ | refine Agree.hav2 rfl ?_)), rfl, H.picks [1, 2, 4] rfl (by decide)⟩
          · obtain rfl : j = p.locs.length := by omega
            repeat' (first | ((first | refine WL.p rfl ?_ | refine WL.u ?_ | refine WL.g rfl rfl ?_ | refine WL.gu rfl ?_); first | refine pvQ ?_ | (refine opk 3 rfl ?_; (refine ost_cmp rfl rfl rfl rfl (fun hc => ?_) (fun hc => ?_) <;> (simp only [cmpP] at hc; try exact prIQ))) | (refine opk 4 rfl ?_; (refine ost_cmp rfl rfl rfl rfl (fun hc => ?_) (fun hc => ?_) <;> (simp only [cmpP] at hc; try exact prIQ))) | (refine opk 8 rfl ?_; first | (refine ost_store1 H rfl rfl vlQ gvQ ixQ (by first | decide | (simp; omega) | (simp; done) | omega) ?_; clear H; intro wk H; simp only [List.set_cons_zero, List.set_cons_succ, Nat.reduceAdd] at H) | (refine ost_storeW H rfl rfl rfl rfl lQ ixQ lQ okQ ?_; clear H; intro wk H; simp only [List.set_cons_zero, List.set_cons_succ, Nat.reduceAdd] at H)) | (refine opk 9 rfl ?_; first | (refine ost_allocA H rfl ?_; clear H; intro bk wk H) | (refine ost_build1 H rfl rfl rfl evQ lsQ rfl ?_; clear H; intro bk wk H))) | refine Wc.seq ?_ | refine then_n ?_ | refine WL.nil ?_ | refine Wc.region ?_ | refine Wc.block ?_ | refine then_r ?_ | refine then_e ?_ | refine inb_e rfl ?_ | refine inb_o rfl ?_ | refine inb_n ?_ | refine inb_r ?_ | refine Wc.skip ?_ | refine Wc.exit ?_ | refine Wc.ret ?_ | refine Wc.cond_true rfl ?_ | refine Wc.cond_false rfl ?_ | (refine Wc.drawn (id := 13) 14 (by kernel_rfl) ?_) | refine WL.skp rfl rfl ?_ | refine WL.sku rfl ?_ | (refine rgs_nil ?_; intro vs wk hE; replace H := H.ext hE; clear hE) | refine RGs.skp (fun _ => rfl) rfl ?_ | (refine RGs.bq (fun _ => rfl) rfl (by intro vs w hE hP; have H := H.ext hE; first | exact dbQ | fail) (fun hc => ?_) (fun hc => ?_) <;> ((try simp only [cmpP, decide_eq_true_eq, decide_eq_false_iff_not, dcd_iff, dcd_no] at hc); try exact prDQ)) | refine RGs.pq (fun _ => rfl) rfl (by intro vs w hE hP; have H := H.ext hE; first | exact dvQ | fail) ?_)
            have htk : (itemsP p).take p.locs.length = itemsP p := List.take_of_length_le (by omega)
            rw [htk] at H
            have hrf0 : rdF b left ((p.kids.map (·.toNat)).take 0) = some ([], left) := rdF_nil _ _
            have hpd := hP.d
            dsimp only at hpd
            refine Wc.loopE (fun s0 m s w' => ∃ (k : Nat) (ai : Option Addr) (ci : Nat) (I2 : List ItemT) (lf : Nat) (h7 : FH), m = p.kids.length - k ∧ k ≤ p.kids.length ∧ FLe hfk h7 ∧ Agree [4, 12, 93, 94, 95, 96, 97, 98, 99, 100, 101] s s0 ∧ s 93 = .int .i64 k ∧ rdF b left ((p.kids.map (·.toNat)).take k) = some (I2, lf) ∧
              St w F9 g h7 [rdH rb a c b lf ai ci (its ++ itemsP p ++ I2)] w') _ ⟨0, ai, ci, [], left, hfk, rfl, by omega, FLe.refl _, Agree.refl _ _, rfl, hrf0, by rw [List.append_nil]; exact (H.picks (L' := [_, _]) [1, 2] rfl (by decide)).join⟩ ?_
            clear H hrf0
            rintro m s w' ⟨k, ai, ci, I2, lf, h7, rfl, hk9, hle7, hA, e1, hrf, H⟩
            obtain ⟨j9, rfl⟩ := hA.env1 e1
            clear hA e1
            have hT7 := hT1.mono hle7
            have hr7 := hr1.mono hle7
            have hln := rdF_len b _ _ _ hrf
            dsimp only at hln
            by_cases hkt : k < p.kids.length
            · obtain ⟨b7, off7, l7, T7, fr7, e7, eb7, eg7⟩ := (hpd.mono hle7).getM (by decide) (by omega)
              subst e7
              have g7 : l7[off7 + (k : Int).toNat * 1]? = some (.int .u32 (p.kids[k].toNat : Nat)) := row_cell (row := cKid p.kids[k]) (eg7 (k : Int).toNat k hkt rfl) (q := 0) (by simp [cKid])
              clear eg7
              have hkd : p.kids[k].toNat < 4294967296 := UInt32.toNat_lt _
              have hsp : (p.kids.map (·.toNat)).take (k + 1) = (p.kids.map (·.toNat)).take k ++ [p.kids[k].toNat] := by
                rw [List.take_add_one, List.getElem?_map, List.getElem?_eq_getElem hkt]; rfl
              have hs2 : rdF b left ((p.kids.map (·.toNat)).take (k + 1)) = (rdF b lf [p.kids[k].toNat]).map fun s => (I2 ++ s.1, s.2) := by rw [hsp, rdF_app, hrf]; rfl
              have hdr : (p.kids.map (·.toNat)) = (p.kids.map (·.toNat)).take (k + 1) ++ (p.kids.map (·.toNat)).drop (k + 1) := (List.take_append_drop _ _).symm
              generalize p.kids[k].toNat = kid at g7 hkd hs2
              have hlen : (its ++ itemsP p ++ I2).length + 8 * lf ≤ 65536 := by simp only [List.length_append]; omega
              have hih := fun w HO => ih lf (by omega) (by omega) kid hkd ai ci (its ++ itemsP p ++ I2) h7 w hT7 hr7 hlen HO
              repeat' (first | ((first | refine WL.p rfl ?_ | refine WL.u ?_ | refine WL.g rfl rfl ?_ | refine WL.gu rfl ?_); first | (refine opk 1 rfl ?_; (refine ost_H (A := rdH _ _ _ _ _ _ _ _) H rfl (by (exact ixQ)) (fun HO => hih _ HO) rfl ?_; clear H; rintro vk wk hfk Lk ⟨a2, c2, i2, l2, rfl, hz, hcase⟩ hle H; simp only [List.cons_append, List.nil_append, List.eraseIdx_cons_zero, List.eraseIdx_cons_succ] at H)) | refine pvQ ?_ | (refine opk 3 rfl ?_; (refine ost_cmp rfl rfl rfl rfl (fun hc => ?_) (fun hc => ?_) <;> (simp only [cmpP] at hc; try exact prIQ))) | (refine opk 4 rfl ?_; (refine ost_cmp rfl rfl rfl rfl (fun hc => ?_) (fun hc => ?_) <;> (simp only [cmpP] at hc; try exact prIQ))) | (refine opk 8 rfl ?_; first | (refine ost_store1 H rfl rfl vlQ gvQ ixQ (by first | decide | (simp; omega) | (simp; done) | omega) ?_; clear H; intro wk H; simp only [List.set_cons_zero, List.set_cons_succ, Nat.reduceAdd] at H) | (refine ost_storeW H rfl rfl rfl rfl lQ ixQ lQ okQ ?_; clear H; intro wk H; simp only [List.set_cons_zero, List.set_cons_succ, Nat.reduceAdd] at H)) | (refine opk 9 rfl ?_; first | (refine ost_allocA H rfl ?_; clear H; intro bk wk H) | (refine ost_build1 H rfl rfl rfl evQ lsQ rfl ?_; clear H; intro bk wk H))) | refine Wc.seq ?_ | refine then_n ?_ | refine WL.nil ?_ | refine Wc.region ?_ | refine Wc.block ?_ | refine then_r ?_ | refine then_e ?_ | refine inb_e rfl ?_ | refine inb_o rfl ?_ | refine inb_n ?_ | refine inb_r ?_ | refine Wc.skip ?_ | refine Wc.exit ?_ | refine Wc.ret ?_ | refine Wc.cond_true rfl ?_ | refine Wc.cond_false rfl ?_ | (refine Wc.drawn (id := 13) 14 (by kernel_rfl) ?_) | refine WL.skp rfl rfl ?_ | refine WL.sku rfl ?_ | (refine rgs_nil ?_; intro vs wk hE; replace H := H.ext hE; clear hE) | refine RGs.skp (fun _ => rfl) rfl ?_ | (refine RGs.bq (fun _ => rfl) rfl (by intro vs w hE hP; have H := H.ext hE; first | exact dbQ | fail) (fun hc => ?_) (fun hc => ?_) <;> ((try simp only [cmpP, decide_eq_true_eq, decide_eq_false_iff_not, dcd_iff, dcd_no] at hc); try exact prDQ)) | refine RGs.pq (fun _ => rfl) rfl (by intro vs w hE hP; have H := H.ext hE; first | exact dvQ | fail) ?_)
              rcases hcase with ⟨r, hr9, rfl, rfl, rfl⟩ | ⟨rfl, hno⟩
              · repeat' (first | ((first | refine WL.p rfl ?_ | refine WL.u ?_ | refine WL.g rfl rfl ?_ | refine WL.gu rfl ?_); first | refine pvQ ?_ | (refine opk 3 rfl ?_; (refine ost_cmp rfl rfl rfl rfl (fun hc => ?_) (fun hc => ?_) <;> (simp only [cmpP] at hc; try exact prIQ))) | (refine opk 4 rfl ?_; (refine ost_cmp rfl rfl rfl rfl (fun hc => ?_) (fun hc => ?_) <;> (simp only [cmpP] at hc; try exact prIQ))) | (refine opk 8 rfl ?_; first | (refine ost_store1 H rfl rfl vlQ gvQ ixQ (by first | decide | (simp; omega) | (simp; done) | omega) ?_; clear H; intro wk H; simp only [List.set_cons_zero, List.set_cons_succ, Nat.reduceAdd] at H) | (refine ost_storeW H rfl rfl rfl rfl lQ ixQ lQ okQ ?_; clear H; intro wk H; simp only [List.set_cons_zero, List.set_cons_succ, Nat.reduceAdd] at H)) | (refine opk 9 rfl ?_; first | (refine ost_allocA H rfl ?_; clear H; intro bk wk H) | (refine ost_build1 H rfl rfl rfl evQ lsQ rfl ?_; clear H; intro bk wk H))) | refine Wc.seq ?_ | refine then_n ?_ | refine WL.nil ?_ | refine Wc.region ?_ | refine Wc.block ?_ | refine then_r ?_ | refine then_e ?_ | refine inb_e rfl ?_ | refine inb_o rfl ?_ | refine inb_n ?_ | refine inb_r ?_ | refine Wc.skip ?_ | refine Wc.exit ?_ | refine Wc.ret ?_ | refine Wc.cond_true rfl ?_ | refine Wc.cond_false rfl ?_ | (refine Wc.drawn (id := 13) 14 (by kernel_rfl) ?_) | refine WL.skp rfl rfl ?_ | refine WL.sku rfl ?_ | (refine rgs_nil ?_; intro vs wk hE; replace H := H.ext hE; clear hE) | refine RGs.skp (fun _ => rfl) rfl ?_ | (refine RGs.bq (fun _ => rfl) rfl (by intro vs w hE hP; have H := H.ext hE; first | exact dbQ | fail) (fun hc => ?_) (fun hc => ?_) <;> ((try simp only [cmpP, decide_eq_true_eq, decide_eq_false_iff_not, dcd_iff, dcd_no] at hc); try exact prDQ)) | refine RGs.pq (fun _ => rfl) rfl (by intro vs w hE hP; have H := H.ext hE; first | exact dvQ | fail) ?_)
                exact ⟨p.kids.length - (k + 1), by omega, k + 1, _, _, I2 ++ r.1, r.2, _, rfl, by omega, hle7.trans (by assumption), by (repeat' (first | exact Agree.refl _ _ | exact Agree.havoc | refine Agree.upd rfl ?_ | refine Agree.hav2 rfl ?_)), rfl, by rw [hs2, hr9]; rfl, by rw [← List.append_assoc]; exact H⟩
              · repeat' (first | ((first | refine WL.p rfl ?_ | refine WL.u ?_ | refine WL.g rfl rfl ?_ | refine WL.gu rfl ?_); first | refine pvQ ?_ | (refine opk 3 rfl ?_; (refine ost_cmp rfl rfl rfl rfl (fun hc => ?_) (fun hc => ?_) <;> (simp only [cmpP] at hc; try exact prIQ))) | (refine opk 4 rfl ?_; (refine ost_cmp rfl rfl rfl rfl (fun hc => ?_) (fun hc => ?_) <;> (simp only [cmpP] at hc; try exact prIQ))) | (refine opk 8 rfl ?_; first | (refine ost_store1 H rfl rfl vlQ gvQ ixQ (by first | decide | (simp; omega) | (simp; done) | omega) ?_; clear H; intro wk H; simp only [List.set_cons_zero, List.set_cons_succ, Nat.reduceAdd] at H) | (refine ost_storeW H rfl rfl rfl rfl lQ ixQ lQ okQ ?_; clear H; intro wk H; simp only [List.set_cons_zero, List.set_cons_succ, Nat.reduceAdd] at H)) | (refine opk 9 rfl ?_; first | (refine ost_allocA H rfl ?_; clear H; intro bk wk H) | (refine ost_build1 H rfl rfl rfl evQ lsQ rfl ?_; clear H; intro bk wk H))) | refine Wc.seq ?_ | refine then_n ?_ | refine WL.nil ?_ | refine Wc.region ?_ | refine Wc.block ?_ | refine then_r ?_ | refine then_e ?_ | refine inb_e rfl ?_ | refine inb_o rfl ?_ | refine inb_n ?_ | refine inb_r ?_ | refine Wc.skip ?_ | refine Wc.exit ?_ | refine Wc.ret ?_ | refine Wc.cond_true rfl ?_ | refine Wc.cond_false rfl ?_ | (refine Wc.drawn (id := 13) 14 (by kernel_rfl) ?_) | refine WL.skp rfl rfl ?_ | refine WL.sku rfl ?_ | (refine rgs_nil ?_; intro vs wk hE; replace H := H.ext hE; clear hE) | refine RGs.skp (fun _ => rfl) rfl ?_ | (refine RGs.bq (fun _ => rfl) rfl (by intro vs w hE hP; have H := H.ext hE; first | exact dbQ | fail) (fun hc => ?_) (fun hc => ?_) <;> ((try simp only [cmpP, decide_eq_true_eq, decide_eq_false_iff_not, dcd_iff, dcd_no] at hc); try exact prDQ)) | refine RGs.pq (fun _ => rfl) rfl (by intro vs w hE hP; have H := H.ext hE; first | exact dvQ | fail) ?_)
                refine fn_ret1 (v := .bool _) rfl rfl ⟨_, _, H, _, _, _, _, rfl, hz, .inr ⟨rfl, ?_⟩⟩
                rw [rdF_page hpp, List.append_nil, hdr, rdF_app, hs2, hno]; rfl
            · obtain rfl : k = p.kids.length := by omega
              repeat' (first | ((first | refine WL.p rfl ?_ | refine WL.u ?_ | refine WL.g rfl rfl ?_ | refine WL.gu rfl ?_); first | refine pvQ ?_ | (refine opk 3 rfl ?_; (refine ost_cmp rfl rfl rfl rfl (fun hc => ?_) (fun hc => ?_) <;> (simp only [cmpP] at hc; try exact prIQ))) | (refine opk 4 rfl ?_; (refine ost_cmp rfl rfl rfl rfl (fun hc => ?_) (fun hc => ?_) <;> (simp only [cmpP] at hc; try exact prIQ))) | (refine opk 8 rfl ?_; first | (refine ost_store1 H rfl rfl vlQ gvQ ixQ (by first | decide | (simp; omega) | (simp; done) | omega) ?_; clear H; intro wk H; simp only [List.set_cons_zero, List.set_cons_succ, Nat.reduceAdd] at H) | (refine ost_storeW H rfl rfl rfl rfl lQ ixQ lQ okQ ?_; clear H; intro wk H; simp only [List.set_cons_zero, List.set_cons_succ, Nat.reduceAdd] at H)) | (refine opk 9 rfl ?_; first | (refine ost_allocA H rfl ?_; clear H; intro bk wk H) | (refine ost_build1 H rfl rfl rfl evQ lsQ rfl ?_; clear H; intro bk wk H))) | refine Wc.seq ?_ | refine then_n ?_ | refine WL.nil ?_ | refine Wc.region ?_ | refine Wc.block ?_ | refine then_r ?_ | refine then_e ?_ | refine inb_e rfl ?_ | refine inb_o rfl ?_ | refine inb_n ?_ | refine inb_r ?_ | refine Wc.skip ?_ | refine Wc.exit ?_ | refine Wc.ret ?_ | refine Wc.cond_true rfl ?_ | refine Wc.cond_false rfl ?_ | (refine Wc.drawn (id := 13) 14 (by kernel_rfl) ?_) | refine WL.skp rfl rfl ?_ | refine WL.sku rfl ?_ | (refine rgs_nil ?_; intro vs wk hE; replace H := H.ext hE; clear hE) | refine RGs.skp (fun _ => rfl) rfl ?_ | (refine RGs.bq (fun _ => rfl) rfl (by intro vs w hE hP; have H := H.ext hE; first | exact dbQ | fail) (fun hc => ?_) (fun hc => ?_) <;> ((try simp only [cmpP, decide_eq_true_eq, decide_eq_false_iff_not, dcd_iff, dcd_no] at hc); try exact prDQ)) | refine RGs.pq (fun _ => rfl) rfl (by intro vs w hE hP; have H := H.ext hE; first | exact dvQ | fail) ?_)
              refine fn_ret1 (v := .bool _) rfl rfl ⟨_, _, H, _, _, _, _, rfl, by simp only [List.length_append]; omega, .inl ⟨(itemsP p ++ I2, lf), ?_, rfl, by rw [List.append_assoc], rfl⟩⟩
              have htk2 : (p.kids.map (·.toNat)).take p.kids.length = p.kids.map (·.toNat) := List.take_of_length_le (by simp)
              rw [rdF_page hpp, List.append_nil, ← htk2, hrf]; rfl
      · repeat' (first | ((first | refine WL.p rfl ?_ | refine WL.u ?_ | refine WL.g rfl rfl ?_ | refine WL.gu rfl ?_); first | (refine opk 1 rfl ?_; (refine ost_C H rfl (hFF _ _ (sat_full _) (hT.full H) (by rw [List.length_drop]) ((hr.full H).drop (by omega))) rfl ?_; clear H; rintro vk wk hfk Lk ⟨a1, c1, rfl, -, rfl⟩ H; simp only [List.cons_append, List.nil_append] at H)) | refine pvQ ?_ | (refine opk 3 rfl ?_; (refine ost_cmp rfl rfl rfl rfl (fun hc => ?_) (fun hc => ?_) <;> (simp only [cmpP] at hc; try exact prIQ))) | (refine opk 4 rfl ?_; (refine ost_cmp rfl rfl rfl rfl (fun hc => ?_) (fun hc => ?_) <;> (simp only [cmpP] at hc; try exact prIQ))) | (refine opk 8 rfl ?_; first | (refine ost_store1 H rfl rfl vlQ gvQ ixQ (by first | decide | (simp; omega) | (simp; done) | omega) ?_; clear H; intro wk H; simp only [List.set_cons_zero, List.set_cons_succ, Nat.reduceAdd] at H) | (refine ost_storeW H rfl rfl rfl rfl lQ ixQ lQ okQ ?_; clear H; intro wk H; simp only [List.set_cons_zero, List.set_cons_succ, Nat.reduceAdd] at H)) | (refine opk 9 rfl ?_; first | (refine ost_allocA H rfl ?_; clear H; intro bk wk H) | (refine ost_build1 H rfl rfl rfl evQ lsQ rfl ?_; clear H; intro bk wk H))) | refine Wc.seq ?_ | refine then_n ?_ | refine WL.nil ?_ | refine Wc.region ?_ | refine Wc.block ?_ | refine then_r ?_ | refine then_e ?_ | refine inb_e rfl ?_ | refine inb_o rfl ?_ | refine inb_n ?_ | refine inb_r ?_ | refine Wc.skip ?_ | refine Wc.exit ?_ | refine Wc.ret ?_ | refine Wc.cond_true rfl ?_ | refine Wc.cond_false rfl ?_ | (refine Wc.drawn (id := 13) 14 (by kernel_rfl) ?_) | refine WL.skp rfl rfl ?_ | refine WL.sku rfl ?_ | (refine rgs_nil ?_; intro vs wk hE; replace H := H.ext hE; clear hE) | refine RGs.skp (fun _ => rfl) rfl ?_ | (refine RGs.bq (fun _ => rfl) rfl (by intro vs w hE hP; have H := H.ext hE; first | exact dbQ | fail) (fun hc => ?_) (fun hc => ?_) <;> ((try simp only [cmpP, decide_eq_true_eq, decide_eq_false_iff_not, dcd_iff, dcd_no] at hc); try exact prDQ)) | refine RGs.pq (fun _ => rfl) rfl (by intro vs w hE hP; have H := H.ext hE; first | exact dvQ | fail) ?_)
        all_goals first | (exfalso; omega) | (rw [hlf] at H; exact fn_ret1 (v := .bool _) rfl rfl ⟨_, _, (H.picks [1, 2] rfl (by decide)).join, _, _, _, _, rfl, by omega, .inr ⟨rfl, rdF_no (hpg1 he) _ _⟩⟩)
    · repeat' (first | ((first | refine WL.p rfl ?_ | refine WL.u ?_ | refine WL.g rfl rfl ?_ | refine WL.gu rfl ?_); first | refine pvQ ?_ | (refine opk 3 rfl ?_; (refine ost_cmp rfl rfl rfl rfl (fun hc => ?_) (fun hc => ?_) <;> (simp only [cmpP] at hc; try exact prIQ))) | (refine opk 4 rfl ?_; (refine ost_cmp rfl rfl rfl rfl (fun hc => ?_) (fun hc => ?_) <;> (simp only [cmpP] at hc; try exact prIQ))) | (refine opk 8 rfl ?_; first | (refine ost_store1 H rfl rfl vlQ gvQ ixQ (by first | decide | (simp; omega) | (simp; done) | omega) ?_; clear H; intro wk H; simp only [List.set_cons_zero, List.set_cons_succ, Nat.reduceAdd] at H) | (refine ost_storeW H rfl rfl rfl rfl lQ ixQ lQ okQ ?_; clear H; intro wk H; simp only [List.set_cons_zero, List.set_cons_succ, Nat.reduceAdd] at H)) | (refine opk 9 rfl ?_; first | (refine ost_allocA H rfl ?_; clear H; intro bk wk H) | (refine ost_build1 H rfl rfl rfl evQ lsQ rfl ?_; clear H; intro bk wk H))) | refine Wc.seq ?_ | refine then_n ?_ | refine WL.nil ?_ | refine Wc.region ?_ | refine Wc.block ?_ | refine then_r ?_ | refine then_e ?_ | refine inb_e rfl ?_ | refine inb_o rfl ?_ | refine inb_n ?_ | refine inb_r ?_ | refine Wc.skip ?_ | refine Wc.exit ?_ | refine Wc.ret ?_ | refine Wc.cond_true rfl ?_ | refine Wc.cond_false rfl ?_ | (refine Wc.drawn (id := 13) 14 (by kernel_rfl) ?_) | refine WL.skp rfl rfl ?_ | refine WL.sku rfl ?_ | (refine rgs_nil ?_; intro vs wk hE; replace H := H.ext hE; clear hE) | refine RGs.skp (fun _ => rfl) rfl ?_ | (refine RGs.bq (fun _ => rfl) rfl (by intro vs w hE hP; have H := H.ext hE; first | exact dbQ | fail) (fun hc => ?_) (fun hc => ?_) <;> ((try simp only [cmpP, decide_eq_true_eq, decide_eq_false_iff_not, dcd_iff, dcd_no] at hc); try exact prDQ)) | refine RGs.pq (fun _ => rfl) rfl (by intro vs w hE hP; have H := H.ext hE; first | exact dvQ | fail) ?_)
      all_goals first | (exfalso; omega) | exact fn_ret1 (v := .bool _) rfl rfl ⟨_, _, H.join, _, _, _, _, rfl, by omega, .inr ⟨rfl, rdF_no (pageAt_no1 hib) _ _⟩⟩
end Go.Tg

set_option linter.unusedVariables false
set_option linter.unusedSimpArgs false
set_option maxRecDepth 100000
set_option maxHeartbeats 4000000
namespace Go.Tg
open Go Go.Proofs
theorem loadL_4 {b : List UInt8} {s : SlotT} (h : b.length < s.end_.toNat) : loadL b s = ([], 4) := by unfold loadL; rw [if_pos h]
theorem loadL_none {b : List UInt8} {s : SlotT} (h : ¬ b.length < s.end_.toNat) (h2 : rdF (b.take s.end_.toNat) 8192 [s.at_.toNat] = none) : loadL b s = ([], 15) := by unfold loadL; rw [if_neg h, h2]
theorem loadL_no {b : List UInt8} {s : SlotT} {r : List ItemT × Nat} (h : ¬ b.length < s.end_.toNat) (h2 : rdF (b.take s.end_.toNat) 8192 [s.at_.toNat] = some r)
    (h3 : ¬ (r.1.length ≤ 4096 ∧ ∃ base : Nat, base ≤ s.end_.toNat ∧ dumpM r.1 s.ver base = ((b.take s.end_.toNat).drop base, s, 0))) : loadL b s = ([], 15) := by
  unfold loadL; rw [if_neg h, h2]; dsimp only; rw [dcd_no.2 h3]; rfl
theorem loadL_yes {b : List UInt8} {s : SlotT} {r : List ItemT × Nat} (h : ¬ b.length < s.end_.toNat) (h2 : rdF (b.take s.end_.toNat) 8192 [s.at_.toNat] = some r)
    (h3 : r.1.length ≤ 4096 ∧ ∃ base : Nat, base ≤ s.end_.toNat ∧ dumpM r.1 s.ver base = ((b.take s.end_.toNat).drop base, s, 0)) : loadL b s = (r.1, 0) := by
  unfold loadL; rw [if_neg h, h2]; dsimp only; rw [dcd_iff.2 h3]; rfl
theorem upG_len (base : Nat) (xs : List UInt8) (pls : List PlT) : (upG base xs pls).1.length ≤ xs.length + 500 * pls.length := by
  by_cases h : 1 < pls.length
  · rw [upG_step h]
    have h1 := upG_len base (xs ++ bytesP (nodePs pls)) (placesP (base + xs.length) (nodePs pls))
    have h2 := bytesP_len (nodePs pls)
    rw [placesP_len, List.length_append] at h1
    rw [nodePs_len] at h1 h2
    unfold chN at h1 h2
    omega
  · rw [upG_end h]; simp
termination_by pls.length
decreasing_by rw [placesP_len, nodePs_len]; unfold chN; omega
theorem dumpM_len (l : List ItemT) (v : UInt64) (x : Int) : (dumpM l v x).1.length ≤ 5000000 := by
  unfold dumpM
  split
  · simp
  · split
    · simp
    · rename_i h
      dsimp only
      unfold upL
      have h1 := upG_len x.toNat (bytesP (leafPs l)) (placesP x.toNat (leafPs l))
      have h2 := bytesP_len (leafPs l)
      have h3 := leafPs_len l
      rw [placesP_len] at h1
      omega
def tupG (i : Nat) (v : Value) : Value := match v with | .tuple a => a.getD i undef | _ => undef
theorem tupG0 (x y z : Value) : tupG 0 (.tuple #[x, y, z]) = x := rfl
theorem tupG1 (x y z : Value) : tupG 1 (.tuple #[x, y, z]) = y := rfl
theorem tupG2 (x y z : Value) : tupG 2 (.tuple #[x, y, z]) = z := rfl
def cmD (i : Nat) (D : List UInt8 × SlotT × Int) : Cm := ⟨i, 999, [], fun v L' => ∃ a c, v = .tuple #[.slice a D.1.length c, .agg (cSlot D.2.1).toArray, .int .i64 D.2.2] ∧ L' = [own8 (.slice a D.1.length c) 5 D.1], fun _ _ => True⟩
def cmS (i j : Nat) (s : SlotT) : Cm := ⟨i, j, [], fun v L' => ∃ b, v = pt b ∧ L' = [.blk b (.cells (cSlot zeroS).toArray 28 (0, 0))], fun v L' => ∃ b, v = pt b ∧ L' = [.blk b (.cells (cSlot s).toArray 28 (0, 0))]⟩
theorem ro_Load (h0 : FH) (a : Option Addr) (c : Nat) (b : List UInt8) (s : SlotT) (w : World) (hs : Sat h0 w) (hT : Half h0) (hr : BS h0 a c b) (hb : b.length ≤ 40960) :
    Spec Tryd.prog 13 #[.slice a b.length c, .agg (cSlot s).toArray] w [] h0 (fun v h' L' => ∃ a' c', v = .tuple #[.slice a' (loadL b s).1.length c', .int .i64 (loadL b s).2] ∧ L' = [] ∧ Sl h' 5 a' c' ((loadL b s).1.map cItem)) := by
  have H := St.start hs
  have lS := cSlot_len s
  have hcap := hr.le
  have hE4 := s.end_.toNat_lt
  have hA4 := s.at_.toNat_lt
  unfold Spec
  refine calls_of Tryd.func13 rfl Tryd.ntmps13 (by simp) ?_
  have g2 : (cSlot s)[0 + 2]? = some (.int .u32 (s.end_.toNat : Nat)) := rfl
  have g1 : (cSlot s)[0 + 1]? = some (.int .u32 (s.at_.toNat : Nat)) := rfl
  have g0 : (cSlot s)[0 + 0]? = some (.int .u64 (s.ver.toNat : Nat)) := rfl
  by_cases hlt : b.length < s.end_.toNat
  · rw [loadL_4 hlt]
    repeat' (first | ((first | refine WL.p rfl ?_ | refine WL.u ?_ | refine WL.g rfl rfl ?_ | refine WL.gu rfl ?_); first | refine pvQ ?_ | (refine opk 3 rfl ?_; first | (refine ost_eqA rfl (by decide) rfl rfl tyQ tyQ (fun hc => ?_) (fun hc => ?_) <;> try exact prEQ) | (refine ost_neA rfl (by decide) rfl rfl tyQ tyQ (fun hc => ?_) (fun hc => ?_) <;> try exact prEQ) | (refine ost_cmp rfl rfl rfl rfl (fun hc => ?_) (fun hc => ?_) <;> (simp only [cmpP] at hc; try exact prIQ)) | (refine ost_streqB rfl rfl rfl (fun hc => ?_) (fun hc => ?_) <;> try exact prEQ) | (refine ost_strneB rfl rfl rfl (fun hc => ?_) (fun hc => ?_) <;> try exact prEQ) | (refine ost_streq rfl rfl rfl (fun hc => ?_) (fun hc => ?_) <;> try exact absurd rfl hc) | (refine ost_strne rfl rfl rfl (fun hc => ?_) (fun hc => ?_))) | (refine opk 4 rfl ?_; (refine ost_cmp rfl rfl rfl rfl (fun hc => ?_) (fun hc => ?_) <;> (simp only [cmpP] at hc; try exact prIQ))) | (refine opk 8 rfl ?_; (refine ost_storeW H rfl rfl rfl rfl lQ ixQ lQ okQ ?_; clear H; intro wk H; simp only [List.set_cons_zero, List.set_cons_succ, Nat.reduceAdd] at H)) | (refine opk 9 rfl ?_; first | (refine ost_boxq H rfl ?_; clear H; intro bk wk H) | (refine ost_allocA H rfl ?_; clear H; intro bk wk H))) | refine Wc.seq ?_ | refine then_n ?_ | refine WL.nil ?_ | refine Wc.region ?_ | refine Wc.block ?_ | refine then_r ?_ | refine then_e ?_ | refine inb_e rfl ?_ | refine inb_o rfl ?_ | refine inb_n ?_ | refine inb_r ?_ | refine Wc.skip ?_ | refine Wc.exit ?_ | refine Wc.ret ?_ | refine Wc.cond_true rfl ?_ | refine Wc.cond_false rfl ?_ | (refine Wc.drawn (id := 7) 14 (by kernel_rfl) ?_) | (refine Wc.drawn (id := 14) 15 (by kernel_rfl) ?_) | (refine Wc.drawn (id := 16) 10 (by kernel_rfl) ?_) | refine WL.skp rfl rfl ?_ | refine WL.sku rfl ?_ | (refine rgs_nil ?_; intro vs wk hE; replace H := H.ext hE; clear hE) | refine RGs.skp (fun _ => rfl) rfl ?_ | (refine RGs.bq (fun _ => rfl) rfl (by intro vs w hE hP; have H := H.ext hE; first | exact dbQ | fail) (fun hc => ?_) (fun hc => ?_) <;> ((try simp only [cmpP, decide_eq_true_eq, decide_eq_false_iff_not, dcd_iff, dcd_no] at hc); try exact prDQ)) | refine RGs.pq (fun _ => rfl) rfl (by intro vs w hE hP; have H := H.ext hE; first | exact dvQ | fail) ?_)
    all_goals first | (exfalso; omega) | exact fn_ret2 (v1 := .slice _ _ _) (v2 := .int _ _) rfl rfl rfl ⟨_, _, H.picks [] rfl (by decide), _, _, rfl, rfl, Sl.nil _ _⟩
  · have hbl : (b.take s.end_.toNat).length = s.end_.toNat := by rw [List.length_take]; omega
    have hrb : BS h0 a c (b.take s.end_.toNat) := hr.take _
    have hRD := fun (rb : Nat) (ai : Option Addr) (ci : Nat) w HO => ro_read rb a c (b.take s.end_.toNat) (by omega) 8192 (by omega) s.at_.toNat (by omega) ai ci [] h0 w hT hrb (by simp) HO
    have hln := rdF_len (b.take s.end_.toNat) 8192 [s.at_.toNat]
    repeat' (first | ((first | refine WL.p rfl ?_ | refine WL.u ?_ | refine WL.g rfl rfl ?_ | refine WL.gu rfl ?_); first | refine pvQ ?_ | (refine opk 3 rfl ?_; first | (refine ost_eqA rfl (by decide) rfl rfl tyQ tyQ (fun hc => ?_) (fun hc => ?_) <;> try exact prEQ) | (refine ost_neA rfl (by decide) rfl rfl tyQ tyQ (fun hc => ?_) (fun hc => ?_) <;> try exact prEQ) | (refine ost_cmp rfl rfl rfl rfl (fun hc => ?_) (fun hc => ?_) <;> (simp only [cmpP] at hc; try exact prIQ)) | (refine ost_streqB rfl rfl rfl (fun hc => ?_) (fun hc => ?_) <;> try exact prEQ) | (refine ost_strneB rfl rfl rfl (fun hc => ?_) (fun hc => ?_) <;> try exact prEQ) | (refine ost_streq rfl rfl rfl (fun hc => ?_) (fun hc => ?_) <;> try exact absurd rfl hc) | (refine ost_strne rfl rfl rfl (fun hc => ?_) (fun hc => ?_))) | (refine opk 4 rfl ?_; (refine ost_cmp rfl rfl rfl rfl (fun hc => ?_) (fun hc => ?_) <;> (simp only [cmpP] at hc; try exact prIQ))) | (refine opk 8 rfl ?_; (refine ost_storeW H rfl rfl rfl rfl lQ ixQ lQ okQ ?_; clear H; intro wk H; simp only [List.set_cons_zero, List.set_cons_succ, Nat.reduceAdd] at H)) | (refine opk 9 rfl ?_; first | (refine ost_boxq H rfl ?_; clear H; intro bk wk H) | (refine ost_allocA H rfl ?_; clear H; intro bk wk H))) | refine Wc.seq ?_ | refine then_n ?_ | refine WL.nil ?_ | refine Wc.region ?_ | refine Wc.block ?_ | refine then_r ?_ | refine then_e ?_ | refine inb_e rfl ?_ | refine inb_o rfl ?_ | refine inb_n ?_ | refine inb_r ?_ | refine Wc.skip ?_ | refine Wc.exit ?_ | refine Wc.ret ?_ | refine Wc.cond_true rfl ?_ | refine Wc.cond_false rfl ?_ | (refine Wc.drawn (id := 7) 14 (by kernel_rfl) ?_) | (refine Wc.drawn (id := 14) 15 (by kernel_rfl) ?_) | (refine Wc.drawn (id := 16) 10 (by kernel_rfl) ?_) | refine WL.skp rfl rfl ?_ | refine WL.sku rfl ?_ | (refine rgs_nil ?_; intro vs wk hE; replace H := H.ext hE; clear hE) | refine RGs.skp (fun _ => rfl) rfl ?_ | (refine RGs.bq (fun _ => rfl) rfl (by intro vs w hE hP; have H := H.ext hE; first | exact dbQ | fail) (fun hc => ?_) (fun hc => ?_) <;> ((try simp only [cmpP, decide_eq_true_eq, decide_eq_false_iff_not, dcd_iff, dcd_no] at hc); try exact prDQ)) | refine RGs.pq (fun _ => rfl) rfl (by intro vs w hE hP; have H := H.ext hE; first | exact dvQ | fail) ?_)
    all_goals first | (exfalso; omega) | skip
    have hEn : ((s.end_.toNat : Int)).toNat = (b.take s.end_.toNat).length := by rw [hbl]; rfl
    rw [hEn] at H ⊢
    have hL1 := @loadL_none b s hlt
    have hL2 := fun r => @loadL_no b s r hlt
    have hL3 := fun r => @loadL_yes b s r hlt
    generalize b.take s.end_.toNat = b' at *
    obtain ⟨rb, erb⟩ := H.nameB idx0
    subst erb
    obtain ⟨bt, ebt⟩ := H.nameB idx1
    subst ebt
    replace H : St w [] h0 h0 [rdH rb a c b' 8192 none 0 [], .blk bt (.cells (cSlot s).toArray 28 (0, 0))] _ := ((H.nilOwn 70 5).picks (L' := [.blk rb _, _, _]) [1, 0, 2] rfl (by decide)).join
    repeat' (first | ((first | refine WL.p rfl ?_ | refine WL.u ?_ | refine WL.g rfl rfl ?_ | refine WL.gu rfl ?_); first | (refine opk 1 rfl ?_; (refine ost_H (A := rdH _ _ _ _ _ _ _ _) H rfl (by (exact ixQ)) (fun HO => hRD _ _ _ _ HO) rfl ?_; clear H; rintro vk wk hfk Lk ⟨a2, c2, i2, l2, rfl, hz, hcase⟩ hle H; simp only [List.cons_append, List.nil_append, List.eraseIdx_cons_zero, List.eraseIdx_cons_succ] at H)) | refine pvQ ?_ | (refine opk 3 rfl ?_; first | (refine ost_eqA rfl (by decide) rfl rfl tyQ tyQ (fun hc => ?_) (fun hc => ?_) <;> try exact prEQ) | (refine ost_neA rfl (by decide) rfl rfl tyQ tyQ (fun hc => ?_) (fun hc => ?_) <;> try exact prEQ) | (refine ost_cmp rfl rfl rfl rfl (fun hc => ?_) (fun hc => ?_) <;> (simp only [cmpP] at hc; try exact prIQ)) | (refine ost_streqB rfl rfl rfl (fun hc => ?_) (fun hc => ?_) <;> try exact prEQ) | (refine ost_strneB rfl rfl rfl (fun hc => ?_) (fun hc => ?_) <;> try exact prEQ) | (refine ost_streq rfl rfl rfl (fun hc => ?_) (fun hc => ?_) <;> try exact absurd rfl hc) | (refine ost_strne rfl rfl rfl (fun hc => ?_) (fun hc => ?_))) | (refine opk 4 rfl ?_; (refine ost_cmp rfl rfl rfl rfl (fun hc => ?_) (fun hc => ?_) <;> (simp only [cmpP] at hc; try exact prIQ))) | (refine opk 8 rfl ?_; (refine ost_storeW H rfl rfl rfl rfl lQ ixQ lQ okQ ?_; clear H; intro wk H; simp only [List.set_cons_zero, List.set_cons_succ, Nat.reduceAdd] at H)) | (refine opk 9 rfl ?_; first | (refine ost_boxq H rfl ?_; clear H; intro bk wk H) | (refine ost_allocA H rfl ?_; clear H; intro bk wk H))) | refine Wc.seq ?_ | refine then_n ?_ | refine WL.nil ?_ | refine Wc.region ?_ | refine Wc.block ?_ | refine then_r ?_ | refine then_e ?_ | refine inb_e rfl ?_ | refine inb_o rfl ?_ | refine inb_n ?_ | refine inb_r ?_ | refine Wc.skip ?_ | refine Wc.exit ?_ | refine Wc.ret ?_ | refine Wc.cond_true rfl ?_ | refine Wc.cond_false rfl ?_ | (refine Wc.drawn (id := 7) 14 (by kernel_rfl) ?_) | (refine Wc.drawn (id := 14) 15 (by kernel_rfl) ?_) | (refine Wc.drawn (id := 16) 10 (by kernel_rfl) ?_) | refine WL.skp rfl rfl ?_ | refine WL.sku rfl ?_ | (refine rgs_nil ?_; intro vs wk hE; replace H := H.ext hE; clear hE) | refine RGs.skp (fun _ => rfl) rfl ?_ | (refine RGs.bq (fun _ => rfl) rfl (by intro vs w hE hP; have H := H.ext hE; first | exact dbQ | fail) (fun hc => ?_) (fun hc => ?_) <;> ((try simp only [cmpP, decide_eq_true_eq, decide_eq_false_iff_not, dcd_iff, dcd_no] at hc); try exact prDQ)) | refine RGs.pq (fun _ => rfl) rfl (by intro vs w hE hP; have H := H.ext hE; first | exact dvQ | fail) ?_)
    rcases hcase with ⟨r, hr9, rfl, rfl, rfl⟩ | ⟨rfl, hno⟩
    · obtain ⟨l, lf⟩ := r
      dsimp only at H hz
      rw [List.nil_append] at H hz
      have hno4 := hL2 _ hr9
      replace H := H.split
      by_cases hl4 : 4096 < l.length
      · rw [hno4 (fun h => absurd h.1 (by dsimp only; omega))]
        repeat' (first | ((first | refine WL.p rfl ?_ | refine WL.u ?_ | refine WL.g rfl rfl ?_ | refine WL.gu rfl ?_); first | refine pvQ ?_ | (refine opk 3 rfl ?_; first | (refine ost_eqA rfl (by decide) rfl rfl tyQ tyQ (fun hc => ?_) (fun hc => ?_) <;> try exact prEQ) | (refine ost_neA rfl (by decide) rfl rfl tyQ tyQ (fun hc => ?_) (fun hc => ?_) <;> try exact prEQ) | (refine ost_cmp rfl rfl rfl rfl (fun hc => ?_) (fun hc => ?_) <;> (simp only [cmpP] at hc; try exact prIQ)) | (refine ost_streqB rfl rfl rfl (fun hc => ?_) (fun hc => ?_) <;> try exact prEQ) | (refine ost_strneB rfl rfl rfl (fun hc => ?_) (fun hc => ?_) <;> try exact prEQ) | (refine ost_streq rfl rfl rfl (fun hc => ?_) (fun hc => ?_) <;> try exact absurd rfl hc) | (refine ost_strne rfl rfl rfl (fun hc => ?_) (fun hc => ?_))) | (refine opk 4 rfl ?_; (refine ost_cmp rfl rfl rfl rfl (fun hc => ?_) (fun hc => ?_) <;> (simp only [cmpP] at hc; try exact prIQ))) | (refine opk 8 rfl ?_; (refine ost_storeW H rfl rfl rfl rfl lQ ixQ lQ okQ ?_; clear H; intro wk H; simp only [List.set_cons_zero, List.set_cons_succ, Nat.reduceAdd] at H)) | (refine opk 9 rfl ?_; first | (refine ost_boxq H rfl ?_; clear H; intro bk wk H) | (refine ost_allocA H rfl ?_; clear H; intro bk wk H))) | refine Wc.seq ?_ | refine then_n ?_ | refine WL.nil ?_ | refine Wc.region ?_ | refine Wc.block ?_ | refine then_r ?_ | refine then_e ?_ | refine inb_e rfl ?_ | refine inb_o rfl ?_ | refine inb_n ?_ | refine inb_r ?_ | refine Wc.skip ?_ | refine Wc.exit ?_ | refine Wc.ret ?_ | refine Wc.cond_true rfl ?_ | refine Wc.cond_false rfl ?_ | (refine Wc.drawn (id := 7) 14 (by kernel_rfl) ?_) | (refine Wc.drawn (id := 14) 15 (by kernel_rfl) ?_) | (refine Wc.drawn (id := 16) 10 (by kernel_rfl) ?_) | refine WL.skp rfl rfl ?_ | refine WL.sku rfl ?_ | (refine rgs_nil ?_; intro vs wk hE; replace H := H.ext hE; clear hE) | refine RGs.skp (fun _ => rfl) rfl ?_ | (refine RGs.bq (fun _ => rfl) rfl (by intro vs w hE hP; have H := H.ext hE; first | exact dbQ | fail) (fun hc => ?_) (fun hc => ?_) <;> ((try simp only [cmpP, decide_eq_true_eq, decide_eq_false_iff_not, dcd_iff, dcd_no] at hc); try exact prDQ)) | refine RGs.pq (fun _ => rfl) rfl (by intro vs w hE hP; have H := H.ext hE; first | exact dvQ | fail) ?_)
        all_goals first | (exfalso; omega) | exact fn_ret2 (v1 := .slice _ _ _) (v2 := .int _ _) rfl rfl rfl ⟨_, _, H.picks [] rfl (by decide), _, _, rfl, rfl, Sl.nil _ _⟩
      · repeat' (first | ((first | refine WL.p rfl ?_ | refine WL.u ?_ | refine WL.g rfl rfl ?_ | refine WL.gu rfl ?_); first | refine pvQ ?_ | (refine opk 3 rfl ?_; first | (refine ost_eqA rfl (by decide) rfl rfl tyQ tyQ (fun hc => ?_) (fun hc => ?_) <;> try exact prEQ) | (refine ost_neA rfl (by decide) rfl rfl tyQ tyQ (fun hc => ?_) (fun hc => ?_) <;> try exact prEQ) | (refine ost_cmp rfl rfl rfl rfl (fun hc => ?_) (fun hc => ?_) <;> (simp only [cmpP] at hc; try exact prIQ)) | (refine ost_streqB rfl rfl rfl (fun hc => ?_) (fun hc => ?_) <;> try exact prEQ) | (refine ost_strneB rfl rfl rfl (fun hc => ?_) (fun hc => ?_) <;> try exact prEQ) | (refine ost_streq rfl rfl rfl (fun hc => ?_) (fun hc => ?_) <;> try exact absurd rfl hc) | (refine ost_strne rfl rfl rfl (fun hc => ?_) (fun hc => ?_))) | (refine opk 4 rfl ?_; (refine ost_cmp rfl rfl rfl rfl (fun hc => ?_) (fun hc => ?_) <;> (simp only [cmpP] at hc; try exact prIQ))) | (refine opk 8 rfl ?_; (refine ost_storeW H rfl rfl rfl rfl lQ ixQ lQ okQ ?_; clear H; intro wk H; simp only [List.set_cons_zero, List.set_cons_succ, Nat.reduceAdd] at H)) | (refine opk 9 rfl ?_; first | (refine ost_boxq H rfl ?_; clear H; intro bk wk H) | (refine ost_allocA H rfl ?_; clear H; intro bk wk H))) | refine Wc.seq ?_ | refine then_n ?_ | refine WL.nil ?_ | refine Wc.region ?_ | refine Wc.block ?_ | refine then_r ?_ | refine then_e ?_ | refine inb_e rfl ?_ | refine inb_o rfl ?_ | refine inb_n ?_ | refine inb_r ?_ | refine Wc.skip ?_ | refine Wc.exit ?_ | refine Wc.ret ?_ | refine Wc.cond_true rfl ?_ | refine Wc.cond_false rfl ?_ | (refine Wc.drawn (id := 14) 15 (by kernel_rfl) ?_) | (refine Wc.drawn (id := 16) 10 (by kernel_rfl) ?_) | refine WL.skp rfl rfl ?_ | refine WL.sku rfl ?_ | (refine rgs_nil ?_; intro vs wk hE; replace H := H.ext hE; clear hE) | refine RGs.skp (fun _ => rfl) rfl ?_ | (refine RGs.bq (fun _ => rfl) rfl (by intro vs w hE hP; have H := H.ext hE; first | exact dbQ | fail) (fun hc => ?_) (fun hc => ?_) <;> ((try simp only [cmpP, decide_eq_true_eq, decide_eq_false_iff_not, dcd_iff, dcd_no] at hc); try exact prDQ)) | refine RGs.pq (fun _ => rfl) rfl (by intro vs w hE hP; have H := H.ext hE; first | exact dvQ | fail) ?_)
        all_goals first | (exfalso; omega) | skip
        replace H := H.picks (L' := [_, _, _]) [1, 0, 2] rfl (by decide)
        obtain ⟨a8, c8, h7, e8, hle9, hI7, H7⟩ := H.freezeR (rows_len5 _)
        clear H
        have H := H7
        clear H7
        injection e8 with e81 e82 e83
        subst e81; subst e83
        have hT7 := hT.mono (hle.trans hle9)
        have hD := fun (x : Int) h w hs hT hN => ro_Dump h w hs hT a2 c2 l hN s.ver x
        refine Wc.drawC (id := 7) 14 [cmD 6 (dumpM l s.ver 0), cmS 11 13 (dumpM l s.ver 0).2.1] [.blk _ _, .blk _ _] [(6, 999), (11, 13)] H (by kernel_rfl) rfl (by kernel_rfl) (by first | exact List.Perm.refl _ | (simp [inpC, cmD, cmS]; done)) ?_
        refine RGc.p rfl rfl (by intro vs w T hP H; simp only [List.cons_append, List.nil_append] at H; exact dvQ) ?_
        refine RGc.p rfl rfl (by intro vs w T hP H; simp only [List.cons_append, List.nil_append] at H; exact dvQ) ?_
        refine RGc.p rfl rfl (by intro vs w T hP H; simp only [List.cons_append, List.nil_append] at H; exact dvQ) ?_
        refine RGc.p rfl rfl (by intro vs w T hP H; simp only [List.cons_append, List.nil_append] at H; exact dvQ) ?_
        refine RGc.p rfl rfl (by intro vs w T hP H; simp only [List.cons_append, List.nil_append] at H; exact dvQ) ?_
        refine RGc.p rfl rfl (by intro vs w T hP H; simp only [List.cons_append, List.nil_append] at H; exact dvQ) ?_
        refine RGc.m (m := (cmD 6 (dumpM l s.ver 0))) rfl (by intro vs w T hP H; refine ost_C H rfl (hD 0 _ _ (sat_full _) (hT7.full H) (hI7.mono H.sat.le)) rfl ?_; rintro vk wk hfk Lk ⟨rfl, a9, c9, rfl, rfl⟩ H2; exact ⟨[_], ⟨a9, c9, rfl, rfl⟩, H2⟩) ?_
        refine RGc.v (fun v => v) 6 [] (by kernel_rfl) rfl rfl rfl (by intro vs w T hP H; exact dvQ) ?_
        refine RGc.v (tupG 0) 6 [7] (by kernel_rfl) rfl rfl rfl (by intro vs w T hP H; obtain ⟨L9, ⟨a9, c9, e9, -⟩, -⟩ := hP 6 _ ⟨[7], by kernel_rfl⟩ rfl; refine ost_extract rfl e9 rfl ?_; exact ⟨Fr.refl _ _, by rw [e9]; rfl⟩) ?_
        refine RGc.v (tupG 1) 6 [7] (by kernel_rfl) rfl rfl rfl (by intro vs w T hP H; obtain ⟨L9, ⟨a9, c9, e9, -⟩, -⟩ := hP 6 _ ⟨[7], by kernel_rfl⟩ rfl; refine ost_extract rfl e9 rfl ?_; exact ⟨Fr.refl _ _, by rw [e9]; rfl⟩) ?_
        refine RGc.v (tupG 2) 6 [7] (by kernel_rfl) rfl rfl rfl (by intro vs w T hP H; obtain ⟨L9, ⟨a9, c9, e9, -⟩, -⟩ := hP 6 _ ⟨[7], by kernel_rfl⟩ rfl; refine ost_extract rfl e9 rfl ?_; exact ⟨Fr.refl _ _, by rw [e9]; rfl⟩) ?_
        refine RGc.m (m := (cmS 11 13 (dumpM l s.ver 0).2.1)) rfl (by intro vs w T hP H; refine ost_allocA H rfl ?_; intro bk wk H2; exact ⟨[_], ⟨_, rfl, rfl⟩, H2⟩) ?_
        refine RGc.v (tupG 0) 6 [8, 7] (by kernel_rfl) rfl rfl rfl (by intro vs w T hP H; exact dvQ) ?_
        refine RGc.s (m := (cmS 11 13 (dumpM l s.ver 0).2.1)) rfl rfl (by intro vs w T L1 hP h1 H; obtain ⟨b9, e9, rfl⟩ := h1; obtain ⟨L9, ⟨a8, c8, e8, -⟩, -⟩ := hP 6 _ ⟨[9, 7], by kernel_rfl⟩ rfl; refine ost_storeW (i := 0) (vs := cSlot (dumpM l s.ver 0).2.1) H rfl rfl e9 (show tupG 1 (vs 6) = _ by rw [e8]; rfl) rfl rfl rfl (allOne_of rfl) ?_; intro wk H2; exact ⟨[_], ⟨_, e9, rfl⟩, H2⟩) ?_
        refine RGc.nil ?_
        intro vs wk outs HM hR
        obtain ⟨a6, c6, e6, o6⟩ := (hR (cmD 6 (dumpM l s.ver 0)) (by simp)).2 (by simp [cmD])
        obtain ⟨b11, e11, o11⟩ := (hR (cmS 11 13 (dumpM l s.ver 0).2.1) (by simp)).1 (by simp [cmS])
        have e11' : vs (0 + 1 + 1 + 1 + 1 + 1 + 1 + 1 + 1 + 1 + 1 + 1) = pt b11 := e11
        have o6' : outs 6 = _ := o6
        have o11' : outs 11 = _ := o11
        have e6' : vs 6 = _ := e6
        have e6'' : vs (0 + 1 + 1 + 1 + 1 + 1 + 1) = _ := e6
        simp only [outsC, cmD, cmS, o6', o11', List.cons_append, List.nil_append, List.append_nil] at HM
        dsimp only
        rw [e6']
        try rw [e6'']
        rw [e11']
        simp only [tupG0, tupG1, tupG2]
        replace H := HM
        clear HM hR o6 o11 e6 e11 e6' e6'' e11' o6' o11'
        have hde := fun (x : Nat) (hx : x ≤ 1073741824) => dumpM_err l s.ver s.ver hx (Nat.zero_le _)
        have hdl := @dumpM_ok l s.ver 0
        have hno5 : (dumpM l s.ver 0).2.2 ≠ 0 → loadL b s = ([], 15) := fun h0 => hno4 fun ⟨_, x, hx, e⟩ => h0 (by
          have := hde x (by omega)
          rw [show ((0 : Nat) : Int) = 0 from rfl] at this
          rw [← this]; dsimp only at e; rw [e])
        have hn9 := dumpM_len l s.ver 0
        have hE9 : b'.length ≤ 40960 := by omega
        repeat' (first | ((first | refine WL.p rfl ?_ | refine WL.u ?_ | refine WL.g rfl rfl ?_ | refine WL.gu rfl ?_); first | refine pvQ ?_ | (refine opk 3 rfl ?_; first | (refine ost_eqA rfl (by decide) rfl rfl tyQ tyQ (fun hc => ?_) (fun hc => ?_) <;> try exact prEQ) | (refine ost_neA rfl (by decide) rfl rfl tyQ tyQ (fun hc => ?_) (fun hc => ?_) <;> try exact prEQ) | (refine ost_cmp rfl rfl rfl rfl (fun hc => ?_) (fun hc => ?_) <;> (simp only [cmpP] at hc; try exact prIQ)) | (refine ost_streqB rfl rfl rfl (fun hc => ?_) (fun hc => ?_) <;> try exact prEQ) | (refine ost_strneB rfl rfl rfl (fun hc => ?_) (fun hc => ?_) <;> try exact prEQ) | (refine ost_streq rfl rfl rfl (fun hc => ?_) (fun hc => ?_) <;> try exact absurd rfl hc) | (refine ost_strne rfl rfl rfl (fun hc => ?_) (fun hc => ?_))) | (refine opk 4 rfl ?_; (refine ost_cmp rfl rfl rfl rfl (fun hc => ?_) (fun hc => ?_) <;> (simp only [cmpP] at hc; try exact prIQ))) | (refine opk 8 rfl ?_; (refine ost_storeW H rfl rfl rfl rfl lQ ixQ lQ okQ ?_; clear H; intro wk H; simp only [List.set_cons_zero, List.set_cons_succ, Nat.reduceAdd] at H)) | (refine opk 9 rfl ?_; first | (refine ost_boxq H rfl ?_; clear H; intro bk wk H) | (refine ost_allocA H rfl ?_; clear H; intro bk wk H))) | refine Wc.seq ?_ | refine then_n ?_ | refine WL.nil ?_ | refine Wc.region ?_ | refine Wc.block ?_ | refine then_r ?_ | refine then_e ?_ | refine inb_e rfl ?_ | refine inb_o rfl ?_ | refine inb_n ?_ | refine inb_r ?_ | refine Wc.skip ?_ | refine Wc.exit ?_ | refine Wc.ret ?_ | refine Wc.cond_true rfl ?_ | refine Wc.cond_false rfl ?_ | (refine Wc.drawn (id := 7) 14 (by kernel_rfl) ?_) | (refine Wc.drawn (id := 14) 15 (by kernel_rfl) ?_) | (refine Wc.drawn (id := 16) 10 (by kernel_rfl) ?_) | refine WL.skp rfl rfl ?_ | refine WL.sku rfl ?_ | (refine rgs_nil ?_; intro vs wk hE; replace H := H.ext hE; clear hE) | refine RGs.skp (fun _ => rfl) rfl ?_ | (refine RGs.bq (fun _ => rfl) rfl (by intro vs w hE hP; have H := H.ext hE; first | exact dbQ | fail) (fun hc => ?_) (fun hc => ?_) <;> ((try simp only [cmpP, decide_eq_true_eq, decide_eq_false_iff_not, dcd_iff, dcd_no] at hc); try exact prDQ)) | refine RGs.pq (fun _ => rfl) rfl (by intro vs w hE hP; have H := H.ext hE; first | exact dvQ | fail) ?_)
        · rw [hno5 (by assumption)]
          exact fn_ret2 (v1 := .slice _ _ _) (v2 := .int _ _) rfl rfl rfl ⟨_, _, H.picks [] rfl (by decide), _, _, rfl, rfl, Sl.nil _ _⟩
        have hd0 : (dumpM l s.ver 0).2.2 = 0 := Decidable.not_not.1 (by assumption)
        have hmx : max (0 : Int) ((b'.length : Int) - ((dumpM l s.ver 0).1.length + 40960)) = (0 : Nat) := by omega
        rw [hmx]
        replace H := H.picks (L' := [_, _]) [0, 1] rfl (by decide)
        refine Wc.loopE (fun s0 m s9 w' => ∃ (j : Nat), m = b'.length + 1 - j ∧ j ≤ b'.length + 1 ∧ Agree [4, 5, 11, 12, 13, 14, 63, 64, 65, 66, 67, 68, 69, 70, 71, 72, 73, 74, 75, 76, 77, 78, 79, 80, 81, 82, 83, 84, 85, 86, 87, 88, 89, 90, 91, 92, 93, 94, 95, 96, 97, 98] s9 s0 ∧ s9 11 = .int .i64 j ∧ (∀ x, x < j → dumpM l s.ver (x : Nat) ≠ (b'.drop x, s, 0)) ∧
          St w [] h0 h7 [.blk rb (.cells [Value.slice a b'.length c, .int .i64 lf, .slice a2 l.length c2].toArray 94 (0, 0)), .blk bt (.cells (cSlot s).toArray 28 (0, 0))] w') _ ⟨0, rfl, by omega, Agree.refl _ _, rfl, fun x hx => absurd hx (by omega), H⟩ ?_
        clear H
        rintro m s9 w' ⟨j, rfl, hj, hA, e1, hno, H⟩
        obtain ⟨j9, rfl⟩ := hA.env1 e1
        clear hA e1
        by_cases hjl : j ≤ b'.length
        · repeat' (first | ((first | refine WL.p rfl ?_ | refine WL.u ?_ | refine WL.g rfl rfl ?_ | refine WL.gu rfl ?_); first | refine pvQ ?_ | (refine opk 3 rfl ?_; first | (refine ost_eqA rfl (by decide) rfl rfl tyQ tyQ (fun hc => ?_) (fun hc => ?_) <;> try exact prEQ) | (refine ost_neA rfl (by decide) rfl rfl tyQ tyQ (fun hc => ?_) (fun hc => ?_) <;> try exact prEQ) | (refine ost_cmp rfl rfl rfl rfl (fun hc => ?_) (fun hc => ?_) <;> (simp only [cmpP] at hc; try exact prIQ)) | (refine ost_streqB rfl rfl rfl (fun hc => ?_) (fun hc => ?_) <;> try exact prEQ) | (refine ost_strneB rfl rfl rfl (fun hc => ?_) (fun hc => ?_) <;> try exact prEQ) | (refine ost_streq rfl rfl rfl (fun hc => ?_) (fun hc => ?_) <;> try exact absurd rfl hc) | (refine ost_strne rfl rfl rfl (fun hc => ?_) (fun hc => ?_))) | (refine opk 4 rfl ?_; (refine ost_cmp rfl rfl rfl rfl (fun hc => ?_) (fun hc => ?_) <;> (simp only [cmpP] at hc; try exact prIQ))) | (refine opk 8 rfl ?_; (refine ost_storeW H rfl rfl rfl rfl lQ ixQ lQ okQ ?_; clear H; intro wk H; simp only [List.set_cons_zero, List.set_cons_succ, Nat.reduceAdd] at H)) | (refine opk 9 rfl ?_; first | (refine ost_boxq H rfl ?_; clear H; intro bk wk H) | (refine ost_allocA H rfl ?_; clear H; intro bk wk H))) | refine Wc.seq ?_ | refine then_n ?_ | refine WL.nil ?_ | refine Wc.region ?_ | refine Wc.block ?_ | refine then_r ?_ | refine then_e ?_ | refine inb_e rfl ?_ | refine inb_o rfl ?_ | refine inb_n ?_ | refine inb_r ?_ | refine Wc.skip ?_ | refine Wc.exit ?_ | refine Wc.ret ?_ | refine Wc.cond_true rfl ?_ | refine Wc.cond_false rfl ?_ | (refine Wc.drawn (id := 7) 14 (by kernel_rfl) ?_) | (refine Wc.drawn (id := 16) 10 (by kernel_rfl) ?_) | refine WL.skp rfl rfl ?_ | refine WL.sku rfl ?_ | (refine rgs_nil ?_; intro vs wk hE; replace H := H.ext hE; clear hE) | refine RGs.skp (fun _ => rfl) rfl ?_ | (refine RGs.bq (fun _ => rfl) rfl (by intro vs w hE hP; have H := H.ext hE; first | exact dbQ | fail) (fun hc => ?_) (fun hc => ?_) <;> ((try simp only [cmpP, decide_eq_true_eq, decide_eq_false_iff_not, dcd_iff, dcd_no] at hc); try exact prDQ)) | refine RGs.pq (fun _ => rfl) rfl (by intro vs w hE hP; have H := H.ext hE; first | exact dvQ | fail) ?_)
          refine Wc.drawC (id := 14) 15 [cmD 7 (dumpM l s.ver (j : Int)), cmS 12 14 (dumpM l s.ver (j : Int)).2.1] [.blk _ _, .blk _ _] [(7, 999), (12, 14)] H (by kernel_rfl) rfl (by kernel_rfl) (by first | exact List.Perm.refl _ | (simp [inpC, cmD, cmS]; done)) ?_
          refine RGc.p rfl rfl (by intro vs w T hP H; simp only [List.cons_append, List.nil_append] at H; exact dvQ) ?_
          refine RGc.p rfl rfl (by intro vs w T hP H; simp only [List.cons_append, List.nil_append] at H; exact dvQ) ?_
          refine RGc.p rfl rfl (by intro vs w T hP H; simp only [List.cons_append, List.nil_append] at H; exact dvQ) ?_
          refine RGc.p rfl rfl (by intro vs w T hP H; simp only [List.cons_append, List.nil_append] at H; exact dvQ) ?_
          refine RGc.p rfl rfl (by intro vs w T hP H; simp only [List.cons_append, List.nil_append] at H; exact dvQ) ?_
          refine RGc.p rfl rfl (by intro vs w T hP H; simp only [List.cons_append, List.nil_append] at H; exact dvQ) ?_
          refine RGc.p rfl rfl (by intro vs w T hP H; simp only [List.cons_append, List.nil_append] at H; exact dvQ) ?_
          refine RGc.m (m := (cmD 7 (dumpM l s.ver (j : Int)))) rfl (by intro vs w T hP H; refine ost_C H rfl (hD (j : Int) _ _ (sat_full _) (hT7.full H) (hI7.mono H.sat.le)) rfl ?_; rintro vk wk hfk Lk ⟨rfl, a9, c9, rfl, rfl⟩ H2; exact ⟨[_], ⟨a9, c9, rfl, rfl⟩, H2⟩) ?_
          refine RGc.v (fun v => v) 7 [] (by kernel_rfl) rfl rfl rfl (by intro vs w T hP H; exact dvQ) ?_
          refine RGc.v (tupG 0) 7 [8] (by kernel_rfl) rfl rfl rfl (by intro vs w T hP H; obtain ⟨L9, ⟨a9, c9, e9, -⟩, -⟩ := hP 7 _ ⟨[8], by kernel_rfl⟩ rfl; refine ost_extract rfl e9 rfl ?_; exact ⟨Fr.refl _ _, by rw [e9]; rfl⟩) ?_
          refine RGc.v (tupG 1) 7 [8] (by kernel_rfl) rfl rfl rfl (by intro vs w T hP H; obtain ⟨L9, ⟨a9, c9, e9, -⟩, -⟩ := hP 7 _ ⟨[8], by kernel_rfl⟩ rfl; refine ost_extract rfl e9 rfl ?_; exact ⟨Fr.refl _ _, by rw [e9]; rfl⟩) ?_
          refine RGc.v (tupG 2) 7 [8] (by kernel_rfl) rfl rfl rfl (by intro vs w T hP H; obtain ⟨L9, ⟨a9, c9, e9, -⟩, -⟩ := hP 7 _ ⟨[8], by kernel_rfl⟩ rfl; refine ost_extract rfl e9 rfl ?_; exact ⟨Fr.refl _ _, by rw [e9]; rfl⟩) ?_
          refine RGc.m (m := (cmS 12 14 (dumpM l s.ver (j : Int)).2.1)) rfl (by intro vs w T hP H; refine ost_allocA H rfl ?_; intro bk wk H2; exact ⟨[_], ⟨_, rfl, rfl⟩, H2⟩) ?_
          refine RGc.v (tupG 0) 7 [9, 8] (by kernel_rfl) rfl rfl rfl (by intro vs w T hP H; exact dvQ) ?_
          refine RGc.s (m := (cmS 12 14 (dumpM l s.ver (j : Int)).2.1)) rfl rfl (by intro vs w T L1 hP h1 H; obtain ⟨b9, e9, rfl⟩ := h1; obtain ⟨L9, ⟨a8, c8, e8, -⟩, -⟩ := hP 7 _ ⟨[10, 8], by kernel_rfl⟩ rfl; refine ost_storeW (i := 0) (vs := cSlot (dumpM l s.ver (j : Int)).2.1) H rfl rfl e9 (show tupG 1 (vs 7) = _ by rw [e8]; rfl) rfl rfl rfl (allOne_of rfl) ?_; intro wk H2; exact ⟨[_], ⟨_, e9, rfl⟩, H2⟩) ?_
          refine RGc.nil ?_
          intro vs wk outs HM hR
          obtain ⟨a6, c6, e6, o6⟩ := (hR (cmD 7 (dumpM l s.ver (j : Int))) (by simp)).2 (by simp [cmD])
          obtain ⟨b11, e11, o11⟩ := (hR (cmS 12 14 (dumpM l s.ver (j : Int)).2.1) (by simp)).1 (by simp [cmS])
          have e11' : vs (0 + 1 + 1 + 1 + 1 + 1 + 1 + 1 + 1 + 1 + 1 + 1 + 1) = pt b11 := e11
          have o6' : outs 7 = _ := o6
          have o11' : outs 12 = _ := o11
          have e6' : vs 7 = _ := e6
          have e6'' : vs (0 + 1 + 1 + 1 + 1 + 1 + 1 + 1) = _ := e6
          simp only [outsC, cmD, cmS, o6', o11', List.cons_append, List.nil_append, List.append_nil] at HM
          dsimp only
          rw [e6']
          try rw [e6'']
          rw [e11']
          simp only [tupG0, tupG1, tupG2]
          replace H := HM
          clear HM hR o6 o11 e6 e11 e6' e6'' e11' o6' o11'
          have hdj : (dumpM l s.ver (j : Int)).2.2 = 0 := (hde j (by omega)).trans hd0
          have hdl9 := dumpM_len l s.ver (j : Int)
          have hyes : dumpM l s.ver (j : Int) = (b'.drop j, s, 0) → loadL b s = (l, 0) := fun h => hL3 _ hr9 ⟨by dsimp only; omega, j, by omega, h⟩
          have hnx : dumpM l s.ver (j : Int) ≠ (b'.drop j, s, 0) → ∀ x, x < j + 1 → dumpM l s.ver (x : Nat) ≠ (b'.drop x, s, 0) := fun h x hx => by
            by_cases hxj : x = j
            · subst hxj; exact h
            · exact hno x (by omega)
          clear hno
          generalize dumpM l s.ver (j : Int) = D at *
          obtain ⟨B9, s9, e9⟩ := D
          dsimp only at hdj hdl9 H ⊢
          subst hdj
          have hrj := (hrb.mono (hle.trans hle9)).drop (n := j) (by omega)
          have hnj : (b'.drop j).length = b'.length - j := by rw [List.length_drop]
          by_cases h1 : s9 = s
          · subst h1
            by_cases h2 : B9 = b'.drop j
            · subst h2
              rw [hyes rfl]
              repeat' (first | ((first | refine WL.p rfl ?_ | refine WL.u ?_ | refine WL.g rfl rfl ?_ | refine WL.gu rfl ?_); first | refine pvQ ?_ | (refine opk 3 rfl ?_; first | (refine ost_eqA rfl (by decide) rfl rfl tyQ tyQ (fun hc => ?_) (fun hc => ?_) <;> try exact prEQ) | (refine ost_neA rfl (by decide) rfl rfl tyQ tyQ (fun hc => ?_) (fun hc => ?_) <;> try exact prEQ) | (refine ost_cmp rfl rfl rfl rfl (fun hc => ?_) (fun hc => ?_) <;> (simp only [cmpP] at hc; try exact prIQ)) | (refine ost_streqB rfl rfl rfl (fun hc => ?_) (fun hc => ?_) <;> try exact prEQ) | (refine ost_strneB rfl rfl rfl (fun hc => ?_) (fun hc => ?_) <;> try exact prEQ) | (refine ost_streq rfl rfl rfl (fun hc => ?_) (fun hc => ?_) <;> try exact absurd rfl hc) | (refine ost_strne rfl rfl rfl (fun hc => ?_) (fun hc => ?_))) | (refine opk 4 rfl ?_; (refine ost_cmp rfl rfl rfl rfl (fun hc => ?_) (fun hc => ?_) <;> (simp only [cmpP] at hc; try exact prIQ))) | (refine opk 8 rfl ?_; (refine ost_storeW H rfl rfl rfl rfl lQ ixQ lQ okQ ?_; clear H; intro wk H; simp only [List.set_cons_zero, List.set_cons_succ, Nat.reduceAdd] at H)) | (refine opk 9 rfl ?_; first | (refine ost_boxq H rfl ?_; clear H; intro bk wk H) | (refine ost_allocA H rfl ?_; clear H; intro bk wk H))) | refine Wc.seq ?_ | refine then_n ?_ | refine WL.nil ?_ | refine Wc.region ?_ | refine Wc.block ?_ | refine then_r ?_ | refine then_e ?_ | refine inb_e rfl ?_ | refine inb_o rfl ?_ | refine inb_n ?_ | refine inb_r ?_ | refine Wc.skip ?_ | refine Wc.exit ?_ | refine Wc.ret ?_ | refine Wc.cond_true rfl ?_ | refine Wc.cond_false rfl ?_ | (refine Wc.drawn (id := 7) 14 (by kernel_rfl) ?_) | (refine Wc.drawn (id := 14) 15 (by kernel_rfl) ?_) | (refine Wc.drawn (id := 16) 10 (by kernel_rfl) ?_) | refine WL.skp rfl rfl ?_ | refine WL.sku rfl ?_ | (refine rgs_nil ?_; intro vs wk hE; replace H := H.ext hE; clear hE) | refine RGs.skp (fun _ => rfl) rfl ?_ | (refine RGs.bq (fun _ => rfl) rfl (by intro vs w hE hP; have H := H.ext hE; first | exact dbQ | fail) (fun hc => ?_) (fun hc => ?_) <;> ((try simp only [cmpP, decide_eq_true_eq, decide_eq_false_iff_not, dcd_iff, dcd_no] at hc); try exact prDQ)) | refine RGs.pq (fun _ => rfl) rfl (by intro vs w hE hP; have H := H.ext hE; first | (refine opk 6 rfl ?_; first | (refine ost_toStrN (xs := b'.drop j) rfl rfl (by first | rfl | (simp; omega)) (H.own8rd (by (exact ixQ))) ?_; exact ⟨Fr.refl _ _, rfl⟩) | (refine ost_toStrN (xs := b'.drop j) rfl rfl (by simp) (hrj.full H) ?_; exact ⟨Fr.refl _ _, rfl⟩)) | exact dvQ | fail) ?_)
              all_goals first | (exfalso; omega) | exact fn_ret2 (v1 := .slice _ _ _) (v2 := .int _ _) rfl rfl rfl ⟨_, _, H.picks [] rfl (by decide), _, _, rfl, rfl, hI7⟩ | exact absurd rfl ‹¬ _ = _›
            · have hnx := hnx (by intro h; injection h with h3 h4; exact h2 h3)
              repeat' (first | ((first | refine WL.p rfl ?_ | refine WL.u ?_ | refine WL.g rfl rfl ?_ | refine WL.gu rfl ?_); first | refine pvQ ?_ | (refine opk 3 rfl ?_; first | (refine ost_eqA rfl (by decide) rfl rfl tyQ tyQ (fun hc => ?_) (fun hc => ?_) <;> try exact prEQ) | (refine ost_neA rfl (by decide) rfl rfl tyQ tyQ (fun hc => ?_) (fun hc => ?_) <;> try exact prEQ) | (refine ost_cmp rfl rfl rfl rfl (fun hc => ?_) (fun hc => ?_) <;> (simp only [cmpP] at hc; try exact prIQ)) | (refine ost_streqB rfl rfl rfl (fun hc => ?_) (fun hc => ?_) <;> try exact prEQ) | (refine ost_strneB rfl rfl rfl (fun hc => ?_) (fun hc => ?_) <;> try exact prEQ) | (refine ost_streq rfl rfl rfl (fun hc => ?_) (fun hc => ?_) <;> try exact absurd rfl hc) | (refine ost_strne rfl rfl rfl (fun hc => ?_) (fun hc => ?_))) | (refine opk 4 rfl ?_; (refine ost_cmp rfl rfl rfl rfl (fun hc => ?_) (fun hc => ?_) <;> (simp only [cmpP] at hc; try exact prIQ))) | (refine opk 8 rfl ?_; (refine ost_storeW H rfl rfl rfl rfl lQ ixQ lQ okQ ?_; clear H; intro wk H; simp only [List.set_cons_zero, List.set_cons_succ, Nat.reduceAdd] at H)) | (refine opk 9 rfl ?_; first | (refine ost_boxq H rfl ?_; clear H; intro bk wk H) | (refine ost_allocA H rfl ?_; clear H; intro bk wk H))) | refine Wc.seq ?_ | refine then_n ?_ | refine WL.nil ?_ | refine Wc.region ?_ | refine Wc.block ?_ | refine then_r ?_ | refine then_e ?_ | refine inb_e rfl ?_ | refine inb_o rfl ?_ | refine inb_n ?_ | refine inb_r ?_ | refine Wc.skip ?_ | refine Wc.exit ?_ | refine Wc.ret ?_ | refine Wc.cond_true rfl ?_ | refine Wc.cond_false rfl ?_ | (refine Wc.drawn (id := 7) 14 (by kernel_rfl) ?_) | (refine Wc.drawn (id := 14) 15 (by kernel_rfl) ?_) | (refine Wc.drawn (id := 16) 10 (by kernel_rfl) ?_) | refine WL.skp rfl rfl ?_ | refine WL.sku rfl ?_ | (refine rgs_nil ?_; intro vs wk hE; replace H := H.ext hE; clear hE) | refine RGs.skp (fun _ => rfl) rfl ?_ | (refine RGs.bq (fun _ => rfl) rfl (by intro vs w hE hP; have H := H.ext hE; first | exact dbQ | fail) (fun hc => ?_) (fun hc => ?_) <;> ((try simp only [cmpP, decide_eq_true_eq, decide_eq_false_iff_not, dcd_iff, dcd_no] at hc); try exact prDQ)) | refine RGs.pq (fun _ => rfl) rfl (by intro vs w hE hP; have H := H.ext hE; first | (refine opk 6 rfl ?_; first | (refine ost_toStrN (xs := B9) rfl rfl (by first | rfl | (simp; omega)) (H.own8rd (by (exact ixQ))) ?_; exact ⟨Fr.refl _ _, rfl⟩) | (refine ost_toStrN (xs := b'.drop j) rfl rfl (by simp) (hrj.full H) ?_; exact ⟨Fr.refl _ _, rfl⟩)) | exact dvQ | fail) ?_)
              all_goals first | (exfalso; omega) | exact ⟨b'.length + 1 - (j + 1), by omega, j + 1, rfl, by omega, by (repeat' (first | exact Agree.refl _ _ | exact Agree.havoc | refine Agree.upd rfl ?_ | refine Agree.hav2 rfl ?_)), rfl, hnx, H.picks [0, 1] rfl (by decide)⟩ | exact absurd rfl ‹¬ _ = _›
          · have hnx := hnx (by intro h; injection h with h3 h4; injection h4 with h4 h5; exact h1 h4)
            have hsn : cSlot s9 ≠ cSlot s := fun h => h1 (cSlot_inj.1 h)
            repeat' (first | ((first | refine WL.p rfl ?_ | refine WL.u ?_ | refine WL.g rfl rfl ?_ | refine WL.gu rfl ?_); first | refine pvQ ?_ | (refine opk 3 rfl ?_; first | (refine ost_eqA rfl (by decide) rfl rfl tyQ tyQ (fun hc => ?_) (fun hc => ?_) <;> try exact prEQ) | (refine ost_neA rfl (by decide) rfl rfl tyQ tyQ (fun hc => ?_) (fun hc => ?_) <;> try exact prEQ) | (refine ost_cmp rfl rfl rfl rfl (fun hc => ?_) (fun hc => ?_) <;> (simp only [cmpP] at hc; try exact prIQ)) | (refine ost_streqB rfl rfl rfl (fun hc => ?_) (fun hc => ?_) <;> try exact prEQ) | (refine ost_strneB rfl rfl rfl (fun hc => ?_) (fun hc => ?_) <;> try exact prEQ) | (refine ost_streq rfl rfl rfl (fun hc => ?_) (fun hc => ?_) <;> try exact absurd rfl hc) | (refine ost_strne rfl rfl rfl (fun hc => ?_) (fun hc => ?_))) | (refine opk 4 rfl ?_; (refine ost_cmp rfl rfl rfl rfl (fun hc => ?_) (fun hc => ?_) <;> (simp only [cmpP] at hc; try exact prIQ))) | (refine opk 8 rfl ?_; (refine ost_storeW H rfl rfl rfl rfl lQ ixQ lQ okQ ?_; clear H; intro wk H; simp only [List.set_cons_zero, List.set_cons_succ, Nat.reduceAdd] at H)) | (refine opk 9 rfl ?_; first | (refine ost_boxq H rfl ?_; clear H; intro bk wk H) | (refine ost_allocA H rfl ?_; clear H; intro bk wk H))) | refine Wc.seq ?_ | refine then_n ?_ | refine WL.nil ?_ | refine Wc.region ?_ | refine Wc.block ?_ | refine then_r ?_ | refine then_e ?_ | refine inb_e rfl ?_ | refine inb_o rfl ?_ | refine inb_n ?_ | refine inb_r ?_ | refine Wc.skip ?_ | refine Wc.exit ?_ | refine Wc.ret ?_ | refine Wc.cond_true rfl ?_ | refine Wc.cond_false rfl ?_ | (refine Wc.drawn (id := 7) 14 (by kernel_rfl) ?_) | (refine Wc.drawn (id := 14) 15 (by kernel_rfl) ?_) | (refine Wc.drawn (id := 16) 10 (by kernel_rfl) ?_) | refine WL.skp rfl rfl ?_ | refine WL.sku rfl ?_ | (refine rgs_nil ?_; intro vs wk hE; replace H := H.ext hE; clear hE) | refine RGs.skp (fun _ => rfl) rfl ?_ | (refine RGs.bq (fun _ => rfl) rfl (by intro vs w hE hP; have H := H.ext hE; first | exact dbQ | fail) (fun hc => ?_) (fun hc => ?_) <;> ((try simp only [cmpP, decide_eq_true_eq, decide_eq_false_iff_not, dcd_iff, dcd_no] at hc); try exact prDQ)) | refine RGs.pq (fun _ => rfl) rfl (by intro vs w hE hP; have H := H.ext hE; first | exact dvQ | fail) ?_)
            all_goals first | (exfalso; omega) | exact ⟨b'.length + 1 - (j + 1), by omega, j + 1, rfl, by omega, by (repeat' (first | exact Agree.refl _ _ | exact Agree.havoc | refine Agree.upd rfl ?_ | refine Agree.hav2 rfl ?_)), rfl, hnx, H.picks [0, 1] rfl (by decide)⟩ | exact absurd ‹cSlot s9 = cSlot s› hsn
        · have hjE : j = b'.length + 1 := by omega
          rw [hno4 fun ⟨_, x, hx, e⟩ => hno x (by omega) e]
          repeat' (first | ((first | refine WL.p rfl ?_ | refine WL.u ?_ | refine WL.g rfl rfl ?_ | refine WL.gu rfl ?_); first | refine pvQ ?_ | (refine opk 3 rfl ?_; first | (refine ost_eqA rfl (by decide) rfl rfl tyQ tyQ (fun hc => ?_) (fun hc => ?_) <;> try exact prEQ) | (refine ost_neA rfl (by decide) rfl rfl tyQ tyQ (fun hc => ?_) (fun hc => ?_) <;> try exact prEQ) | (refine ost_cmp rfl rfl rfl rfl (fun hc => ?_) (fun hc => ?_) <;> (simp only [cmpP] at hc; try exact prIQ)) | (refine ost_streqB rfl rfl rfl (fun hc => ?_) (fun hc => ?_) <;> try exact prEQ) | (refine ost_strneB rfl rfl rfl (fun hc => ?_) (fun hc => ?_) <;> try exact prEQ) | (refine ost_streq rfl rfl rfl (fun hc => ?_) (fun hc => ?_) <;> try exact absurd rfl hc) | (refine ost_strne rfl rfl rfl (fun hc => ?_) (fun hc => ?_))) | (refine opk 4 rfl ?_; (refine ost_cmp rfl rfl rfl rfl (fun hc => ?_) (fun hc => ?_) <;> (simp only [cmpP] at hc; try exact prIQ))) | (refine opk 8 rfl ?_; (refine ost_storeW H rfl rfl rfl rfl lQ ixQ lQ okQ ?_; clear H; intro wk H; simp only [List.set_cons_zero, List.set_cons_succ, Nat.reduceAdd] at H)) | (refine opk 9 rfl ?_; first | (refine ost_boxq H rfl ?_; clear H; intro bk wk H) | (refine ost_allocA H rfl ?_; clear H; intro bk wk H))) | refine Wc.seq ?_ | refine then_n ?_ | refine WL.nil ?_ | refine Wc.region ?_ | refine Wc.block ?_ | refine then_r ?_ | refine then_e ?_ | refine inb_e rfl ?_ | refine inb_o rfl ?_ | refine inb_n ?_ | refine inb_r ?_ | refine Wc.skip ?_ | refine Wc.exit ?_ | refine Wc.ret ?_ | refine Wc.cond_true rfl ?_ | refine Wc.cond_false rfl ?_ | (refine Wc.drawn (id := 7) 14 (by kernel_rfl) ?_) | (refine Wc.drawn (id := 14) 15 (by kernel_rfl) ?_) | (refine Wc.drawn (id := 16) 10 (by kernel_rfl) ?_) | refine WL.skp rfl rfl ?_ | refine WL.sku rfl ?_ | (refine rgs_nil ?_; intro vs wk hE; replace H := H.ext hE; clear hE) | refine RGs.skp (fun _ => rfl) rfl ?_ | (refine RGs.bq (fun _ => rfl) rfl (by intro vs w hE hP; have H := H.ext hE; first | exact dbQ | fail) (fun hc => ?_) (fun hc => ?_) <;> ((try simp only [cmpP, decide_eq_true_eq, decide_eq_false_iff_not, dcd_iff, dcd_no] at hc); try exact prDQ)) | refine RGs.pq (fun _ => rfl) rfl (by intro vs w hE hP; have H := H.ext hE; first | exact dvQ | fail) ?_)
          exact fn_ret2 (v1 := .slice _ _ _) (v2 := .int _ _) rfl rfl rfl ⟨_, _, H.picks [] rfl (by decide), _, _, rfl, rfl, Sl.nil _ _⟩
    · rw [hL1 hno]
      repeat' (first | ((first | refine WL.p rfl ?_ | refine WL.u ?_ | refine WL.g rfl rfl ?_ | refine WL.gu rfl ?_); first | refine pvQ ?_ | (refine opk 3 rfl ?_; first | (refine ost_eqA rfl (by decide) rfl rfl tyQ tyQ (fun hc => ?_) (fun hc => ?_) <;> try exact prEQ) | (refine ost_neA rfl (by decide) rfl rfl tyQ tyQ (fun hc => ?_) (fun hc => ?_) <;> try exact prEQ) | (refine ost_cmp rfl rfl rfl rfl (fun hc => ?_) (fun hc => ?_) <;> (simp only [cmpP] at hc; try exact prIQ)) | (refine ost_streqB rfl rfl rfl (fun hc => ?_) (fun hc => ?_) <;> try exact prEQ) | (refine ost_strneB rfl rfl rfl (fun hc => ?_) (fun hc => ?_) <;> try exact prEQ) | (refine ost_streq rfl rfl rfl (fun hc => ?_) (fun hc => ?_) <;> try exact absurd rfl hc) | (refine ost_strne rfl rfl rfl (fun hc => ?_) (fun hc => ?_))) | (refine opk 4 rfl ?_; (refine ost_cmp rfl rfl rfl rfl (fun hc => ?_) (fun hc => ?_) <;> (simp only [cmpP] at hc; try exact prIQ))) | (refine opk 8 rfl ?_; (refine ost_storeW H rfl rfl rfl rfl lQ ixQ lQ okQ ?_; clear H; intro wk H; simp only [List.set_cons_zero, List.set_cons_succ, Nat.reduceAdd] at H)) | (refine opk 9 rfl ?_; first | (refine ost_boxq H rfl ?_; clear H; intro bk wk H) | (refine ost_allocA H rfl ?_; clear H; intro bk wk H))) | refine Wc.seq ?_ | refine then_n ?_ | refine WL.nil ?_ | refine Wc.region ?_ | refine Wc.block ?_ | refine then_r ?_ | refine then_e ?_ | refine inb_e rfl ?_ | refine inb_o rfl ?_ | refine inb_n ?_ | refine inb_r ?_ | refine Wc.skip ?_ | refine Wc.exit ?_ | refine Wc.ret ?_ | refine Wc.cond_true rfl ?_ | refine Wc.cond_false rfl ?_ | (refine Wc.drawn (id := 7) 14 (by kernel_rfl) ?_) | (refine Wc.drawn (id := 14) 15 (by kernel_rfl) ?_) | (refine Wc.drawn (id := 16) 10 (by kernel_rfl) ?_) | refine WL.skp rfl rfl ?_ | refine WL.sku rfl ?_ | (refine rgs_nil ?_; intro vs wk hE; replace H := H.ext hE; clear hE) | refine RGs.skp (fun _ => rfl) rfl ?_ | (refine RGs.bq (fun _ => rfl) rfl (by intro vs w hE hP; have H := H.ext hE; first | exact dbQ | fail) (fun hc => ?_) (fun hc => ?_) <;> ((try simp only [cmpP, decide_eq_true_eq, decide_eq_false_iff_not, dcd_iff, dcd_no] at hc); try exact prDQ)) | refine RGs.pq (fun _ => rfl) rfl (by intro vs w hE hP; have H := H.ext hE; first | exact dvQ | fail) ?_)
      all_goals first | (exfalso; omega) | exact fn_ret2 (v1 := .slice _ _ _) (v2 := .int _ _) rfl rfl rfl ⟨_, _, H.picks [] rfl (by decide), _, _, rfl, rfl, Sl.nil _ _⟩
end Go.Tg

set_option linter.unusedVariables false
set_option linter.unusedSimpArgs false
set_option maxRecDepth 100000
set_option maxHeartbeats 4000000
namespace Go.Tg
open Go Go.Proofs
def SrtK (ks : List KeyT) : Prop := ks.Pairwise fun a b => keyN a < keyN b
theorem srtK_iff {ks : List KeyT} : sortedK ks ↔ SrtK ks := by
  unfold SrtK
  rw [List.pairwise_iff_getElem]
  constructor
  · intro h i j hi hj hij
    have := sortedK_mono h (j - i) i (by omega)
    have e : (ks[i + (j - i)]'(by omega)) = ks[j] := by congr 1; omega
    rw [e] at this; omega
  · intro h i hi
    exact h i (i + 1) (by omega) hi (by omega)
theorem SrtK.sub {ks ls : List KeyT} (h : SrtK ks) (hs : ls.Sublist ks) : SrtK ls := List.Pairwise.sublist hs h
def parts {α : Type} (l : List α) : List (List α) := if h : l = [] then [] else l.take 8 :: parts (l.drop 8)
termination_by l.length
decreasing_by
  have := List.length_pos_iff.2 h
  simp; omega
theorem parts_nil {α : Type} : parts ([] : List α) = [] := by rw [parts]; simp
theorem parts_cons {α : Type} {l : List α} (h : l ≠ []) : parts l = l.take 8 :: parts (l.drop 8) := by rw [parts, dif_neg h]
theorem parts_eq {α : Type} : ∀ (n : Nat) (l : List α), l.length ≤ n → (List.range (chN l.length)).map (partK l) = parts l
  | 0, l, h => by
    have : l = [] := List.length_eq_zero_iff.1 (by omega)
    subst this; rw [parts_nil]; simp [chN]
  | n + 1, l, h => by
    by_cases hl : l = []
    · subst hl; rw [parts_nil]; simp [chN]
    · have hp := List.length_pos_iff.2 hl
      have e : chN l.length = chN (l.drop 8).length + 1 := by unfold chN; rw [List.length_drop]; omega
      rw [parts_cons hl, e, List.range_succ_eq_map, List.map_cons, List.map_map, ← parts_eq n (l.drop 8) (by rw [List.length_drop]; omega)]
      have e0 : partK l 0 = l.take 8 := by unfold partK; simp
      rw [e0]
      congr 1
      refine List.map_congr_left fun k _ => ?_
      simp only [Function.comp, partK]
      rw [List.drop_drop]; congr 2; omega
theorem parts_len {α : Type} (l : List α) : (parts l).length = chN l.length := by rw [← parts_eq l.length l (Nat.le_refl _)]; simp
theorem nodePs_parts (l : List PlT) : nodePs l = (parts l).map nodeP := by
  rw [← parts_eq l.length l (Nat.le_refl _), List.map_map]; rfl
theorem leafPs_parts {l : List ItemT} (h : l ≠ []) : leafPs l = (parts l).map leafP := by
  rw [← parts_eq l.length l (Nat.le_refl _), List.map_map]
  unfold leafPs; rw [if_neg h]; rfl
theorem heads_sub {α β : Type} (g : α → β) (z : β) : ∀ (n : Nat) (l : List α), l.length ≤ n → ((parts l).map fun p => (p.map g).headD z).Sublist (l.map g)
  | 0, l, h => by
    have : l = [] := List.length_eq_zero_iff.1 (by omega)
    subst this; rw [parts_nil]; exact List.Sublist.refl _
  | n + 1, l, h => by
    cases l with
    | nil => rw [parts_nil]; exact List.Sublist.refl _
    | cons x t =>
      rw [parts_cons (by simp), List.map_cons, List.map_cons]
      have h1 := heads_sub g z n ((x :: t).drop 8) (by rw [List.length_drop, List.length_cons]; rw [List.length_cons] at h; omega)
      have e : (((x :: t).take 8).map g).headD z = g x := rfl
      rw [e]
      refine List.Sublist.cons_cons _ (h1.trans ?_)
      rw [show (x :: t).drop 8 = t.drop 7 from rfl, List.map_drop]
      exact List.drop_sublist _ _
def Reads (b : List UInt8) (ats : List Nat) (its : List ItemT) (n : Nat) : Prop := ∀ left, n ≤ left → rdF b left ats = some (its, left - n)
theorem Reads.nil (b : List UInt8) : Reads b [] [] 0 := fun left _ => rdF_nil _ _
theorem Reads.app {b : List UInt8} {xs ys : List Nat} {i1 i2 : List ItemT} {n1 n2 : Nat} (h1 : Reads b xs i1 n1) (h2 : Reads b ys i2 n2) : Reads b (xs ++ ys) (i1 ++ i2) (n1 + n2) := fun left hl => by
  rw [rdF_app, h1 left (by omega)]
  simp only [Option.bind_some, h2 (left - n1) (by omega), Option.map_some]
  congr 2; omega
theorem Reads.page {b : List UInt8} {i : Nat} {p : PageT} {its : List ItemT} {n : Nat} (hp : pageAt b i = some p) (h : Reads b (p.kids.map (·.toNat)) its n) : Reads b [i] (itemsP p ++ its) (n + 1) := fun left hl => by
  obtain ⟨left, rfl⟩ : ∃ m, left = m + 1 := ⟨left - 1, by omega⟩
  rw [rdF_page hp, List.append_nil, h left (by omega)]
  simp only [Option.map_some]
  congr 2; omega
inductive RdAll (b : List UInt8) : List PlT → List ItemT → Nat → Prop
  | nil : RdAll b [] [] 0
  | cons {pl : PlT} {pls : List PlT} {i1 its : List ItemT} {n1 n : Nat} : Reads b [pl.2] i1 n1 → RdAll b pls its n → RdAll b (pl :: pls) (i1 ++ its) (n1 + n)
theorem RdAll.reads {b : List UInt8} {pls : List PlT} {its : List ItemT} {n : Nat} (h : RdAll b pls its n) : Reads b (pls.map (·.2)) its n := by
  induction h with
  | nil => exact Reads.nil b
  | cons h1 _ ih => exact Reads.app h1 ih
theorem RdAll.split {b : List UInt8} : ∀ (xs ys : List PlT) (its : List ItemT) (n : Nat), RdAll b (xs ++ ys) its n → ∃ i1 i2 n1 n2, its = i1 ++ i2 ∧ n = n1 + n2 ∧ RdAll b xs i1 n1 ∧ RdAll b ys i2 n2
  | [], ys, its, n, h => ⟨[], its, 0, n, rfl, by omega, .nil, h⟩
  | x :: xs, ys, its, n, h => by
    cases h with
    | cons h1 h2 =>
      obtain ⟨i1, i2, n1, n2, rfl, rfl, h3, h4⟩ := RdAll.split xs ys _ _ h2
      exact ⟨_, _, _, _, (List.append_assoc _ _ _).symm, (Nat.add_assoc _ _ _).symm, .cons h1 h3, h4⟩
theorem encP_pos (p : PageT) : 0 < (encP p).length := by
  unfold encP wrapB; rw [List.length_append, sum4_len]; omega
theorem pageAt_enc {p : PageT} (h : rightP p = true) (x y : List UInt8) : pageAt (x ++ (encP p ++ y)) x.length = some p := by
  have h1 : (x ++ (encP p ++ y)).drop x.length = encP p ++ y := List.drop_left' rfl
  have h2 : firstF (encP p ++ y) = (numsB (natsP p), (encP p).length, 0) := by
    have := natsP_len h
    exact firstF_wrap (xs := numsB (natsP p)) (by omega) y
  have h3 : (encP p ++ y).take (encP p).length = encP p := List.take_left' rfl
  have hp := encP_pos p
  have := pageAt_yes (b := x ++ (encP p ++ y)) (i := x.length) (by simp only [List.length_append]; omega) (by rw [h1, h2]) (by rw [h1, h2]; dsimp only; rw [h3, decP_enc h])
  rw [this, h1, h2]; dsimp only; rw [h3, decP_enc h]
theorem bytesP_cons (p : PageT) (ps : List PageT) : bytesP (p :: ps) = (outP p).1 ++ bytesP ps := rfl
theorem outP_right {p : PageT} (h : rightP p = true) : (outP p).1 = encP p := by unfold outP; rw [if_pos h]
theorem node_right {pls : List PlT} (h : pls ≠ []) (hs : SrtK (pls.map (·.1))) : rightP (nodeP (pls.take 8)) = true := by
  have hp := List.length_pos_iff.2 h
  refine rightP_iff.2 ⟨srtK_iff.2 (hs.sub ?_), ?_⟩
  · unfold nodeP; dsimp only; rw [List.map_take]; exact List.take_sublist _ _
  · unfold nodeP
    rw [shapeP_F]
    simp only [List.length_map, List.length_take, List.length_nil]
    refine ⟨by omega, by omega, trivial, trivial⟩
theorem leaf_right {l : List ItemT} (hs : SrtK (l.map (·.key))) : rightP (leafP (l.take 8)) = true := by
  refine rightP_iff.2 ⟨srtK_iff.2 (hs.sub ?_), ?_⟩
  · unfold leafP; dsimp only; rw [List.map_take]; exact List.take_sublist _ _
  · unfold leafP
    rw [shapeP_T]
    simp only [List.length_map, List.length_take, List.length_nil]
    exact ⟨by omega, trivial, trivial⟩
theorem itemsP_leaf (l : List ItemT) : itemsP (leafP l) = l := by
  unfold itemsP leafP
  dsimp only
  induction l with
  | nil => rfl
  | cons x t ih => rw [List.map_cons, List.map_cons, List.zip_cons_cons, List.map_cons, ih]
theorem itemsP_node (l : List PlT) : itemsP (nodeP l) = [] := by unfold itemsP nodeP; simp
theorem rd_nodes (b y : List UInt8) : ∀ (n0 : Nat) (pls : List PlT), pls.length ≤ n0 → ∀ (x : List UInt8) (its : List ItemT) (n : Nat), b = x ++ (bytesP ((parts pls).map nodeP) ++ y) → (∀ pl, pl ∈ pls → pl.2 < 4294967296) → SrtK (pls.map (·.1)) → RdAll b pls its n →
    RdAll b (placesP x.length ((parts pls).map nodeP)) its (n + (parts pls).length)
  | n0, pls, hn0, x, its, n, hb, hlt, hs, h => by
    by_cases hp : pls = []
    · subst hp
      cases h
      rw [parts_nil]; exact .nil
    · have hpos := List.length_pos_iff.2 hp
      obtain ⟨n0, rfl⟩ : ∃ m, n0 = m + 1 := ⟨n0 - 1, by omega⟩
      have hR := node_right hp hs
      rw [parts_cons hp, List.map_cons, bytesP_cons, outP_right hR, List.append_assoc] at hb
      rw [parts_cons hp, List.map_cons, placesP, List.length_cons, outP_right hR]
      have hsp : pls = pls.take 8 ++ pls.drop 8 := (List.take_append_drop _ _).symm
      rw [hsp] at h
      obtain ⟨i1, i2, n1, n2, rfl, rfl, h1, h2⟩ := RdAll.split _ _ _ _ h
      have hpa : pageAt b x.length = some (nodeP (pls.take 8)) := by rw [hb]; exact pageAt_enc hR _ _
      have hk : (nodeP (pls.take 8)).kids.map (·.toNat) = (pls.take 8).map (·.2) := by
        unfold nodeP
        rw [List.map_map]
        refine List.map_congr_left fun pl hpl => ?_
        have := hlt pl (List.mem_of_mem_take hpl)
        simp only [Function.comp]
        simp; omega
      have hr := Reads.page hpa (by rw [hk]; exact h1.reads)
      rw [itemsP_node, List.nil_append] at hr
      have ih := rd_nodes b y n0 (pls.drop 8) (by rw [List.length_drop]; omega) (x ++ encP (nodeP (pls.take 8))) i2 n2 (by rw [hb, List.append_assoc]) (fun pl hpl => hlt pl (List.mem_of_mem_drop hpl)) (hs.sub (by rw [List.map_drop]; exact List.drop_sublist _ _)) h2
      rw [List.length_append] at ih
      have := RdAll.cons (pl := (key0 (nodeP (pls.take 8)), x.length)) hr ih
      rw [show n1 + n2 + ((parts (pls.drop 8)).length + 1) = n1 + 1 + (n2 + (parts (pls.drop 8)).length) by omega]
      exact this
theorem rd_leaves (b y : List UInt8) : ∀ (n0 : Nat) (l : List ItemT), l.length ≤ n0 → ∀ (x : List UInt8), b = x ++ (bytesP ((parts l).map leafP) ++ y) → SrtK (l.map (·.key)) → RdAll b (placesP x.length ((parts l).map leafP)) l (parts l).length
  | n0, l, hn0, x, hb, hs => by
    by_cases hp : l = []
    · subst hp
      rw [parts_nil]; exact .nil
    · have hpos := List.length_pos_iff.2 hp
      obtain ⟨n0, rfl⟩ : ∃ m, n0 = m + 1 := ⟨n0 - 1, by omega⟩
      have hR := leaf_right hs
      rw [parts_cons hp, List.map_cons, bytesP_cons, outP_right hR, List.append_assoc] at hb
      have hpa : pageAt b x.length = some (leafP (l.take 8)) := by rw [hb]; exact pageAt_enc hR _ _
      have hr := Reads.page hpa (its := []) (n := 0) (Reads.nil b)
      rw [itemsP_leaf, List.append_nil] at hr
      have ih := rd_leaves b y n0 (l.drop 8) (by rw [List.length_drop]; omega) (x ++ encP (leafP (l.take 8))) (by rw [hb, List.append_assoc]) (hs.sub (by rw [List.map_drop]; exact List.drop_sublist _ _))
      rw [List.length_append] at ih
      have := RdAll.cons (pl := (key0 (leafP (l.take 8)), x.length)) hr ih
      rw [List.take_append_drop] at this
      rw [parts_cons hp, List.map_cons, placesP, List.length_cons, outP_right hR]
      rw [show (parts (l.drop 8)).length + 1 = 0 + 1 + (parts (l.drop 8)).length by omega]
      exact this
end Go.Tg

