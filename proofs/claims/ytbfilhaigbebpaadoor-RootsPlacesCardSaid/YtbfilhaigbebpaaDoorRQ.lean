/- Proved: the given statement RootsPlacesCardSaid: the Go law RootsPlaces returns true for every input that it is asked of. No conditions. -/
import Derived.Test.YtbfilhaigbebpaaDoorInst
import Derived.Test.YtbfilhaigbebpaaDoorAuto
import Derived.Test.YtbfilhaigbebpaaDoorL7
set_option linter.unusedVariables false
set_option linter.unusedSimpArgs false
set_option maxRecDepth 100000
set_option maxHeartbeats 4000000
namespace Go.Tg
open Go Go.Proofs
theorem dumpM_bad2 {l : List ItemT} {v : UInt64} {x : Int} (h : (dumpM l v x).2.2 ≠ 0) (hl : l.length ≤ 4096) : dumpM l v x = ([], zeroS, 2) := by
  unfold dumpM at h ⊢
  split
  · rfl
  · rename_i h9
    rw [if_neg h9, if_neg (by omega)] at h
    exact absurd rfl h
theorem page_DecodeQ (n : Nat) (h0 : FH) (a : Option Addr) (c : Nat) (b : List UInt8) (w : World) (hs : Sat h0 w) (hT : Half h0) (hn : n = b.length) (hr : BS h0 a c b) (hb : b.length ≤ 1000000) :
    Spec Tryd.prog 20 #[.slice a n c] w [] h0 (fun v h' L' => ∃ A, v = .tuple #[.agg (pgV (decP b).1 A).toArray, .int .i64 (decP b).2] ∧ L' = [] ∧ PgR h' (decP b).1 A) := by
  subst hn; exact page_Decode h0 a c b w hs hT hr hb
theorem law_RootsPlaces (la : Option Addr) (lc : Nat) (l : List ItemT) (z : Int) (hz1 : IntKind.u16.min ≤ z) (hz2 : z ≤ IntKind.u16.max) (w : World) (hT0 : Half (full w)) (hN0 : Sl (full w) 5 la lc (l.map cItem)) :
    SpecV Tryd.prog 8 #[.slice la l.length lc, .int .u16 z] w (.bool true) := by
  have H := St.start (sat_full w)
  generalize hh : full w = h0 at H hT0 hN0
  have hT := hT0
  have hN := hN0
  obtain ⟨n, rfl, hn9⟩ : ∃ n : Nat, z = n ∧ n ≤ 65535 := by
    have h1 : 0 ≤ z := hz1
    have h2 : z ≤ 65535 := hz2
    exact ⟨z.toNat, by omega, by omega⟩
  clear hz1 hz2
  unfold SpecV
  refine calls_of Tryd.func8 rfl Tryd.ntmps8 (by simp) ?_
  by_cases h1 : l.length ≤ 100
  · have hth := fun w hs => law15_theirs h0 w hs la lc l hN (by omega)
    have hD1 := fun h w hs hT al cl hN => ro_Dump h w hs hT al cl l hN 7 (n : Int)
    by_cases he : (dumpM l 7 (n : Int)).2.2 = 0
    · have hpl : (List.replicate n (0 : UInt8)).length = n := List.length_replicate
      obtain ⟨root, lf, u, p, hd, hroot, -, hu, hre, hR, hlf⟩ := rd_dump (l := l) (v := 7) (pre := List.replicate n 0) (by rw [hpl]; exact he) (by omega) []
      have hlen := dumpM_len8 l 7 (n : Int)
      rw [hpl] at hd hu hre
      generalize dumpM l 7 (n : Int) = D at *
      obtain ⟨B, s, e⟩ := D
      dsimp only at he hd hu hlen hD1
      injection hd with _ hd
      injection hd with hsl _
      subst he
      have hBl : B.length = u.length + (encP p).length := by rw [hu, List.length_append]
      have lS := cSlot_len s
      have g0 : (cSlot s)[0 + 0]? = some (.int .u64 7) := by rw [hsl]; rfl
      have g1 : (cSlot s)[0 + 1]? = some (.int .u32 ((n + u.length : Nat) : Int)) := by
        have : (cSlot s)[0 + 1]? = some (.int .u32 (s.at_.toNat : Nat)) := rfl
        rw [this, hsl]
        have : (UInt32.ofNat root).toNat = n + u.length := by rw [hre]; simp; omega
        dsimp only; rw [this]
      have g2 : (cSlot s)[0 + 2]? = some (.int .u32 ((n + B.length : Nat) : Int)) := by
        have : (cSlot s)[0 + 2]? = some (.int .u32 (s.end_.toNat : Nat)) := rfl
        rw [this, hsl]
        have : (UInt32.ofNat (n + B.length)).toNat = n + B.length := by simp; omega
        dsimp only; rw [this]
      have g3 : (cSlot s)[0 + 3]? = some (.int .u32 ((l.length : Nat) : Int)) := by
        have : (cSlot s)[0 + 3]? = some (.int .u32 (s.items.toNat : Nat)) := rfl
        rw [this, hsl]
        have : (UInt32.ofNat l.length).toNat = l.length := by simp; omega
        dsimp only; rw [this]
      repeat' (first | ((first | refine WL.p rfl ?_ | refine WL.u ?_ | refine WL.g rfl rfl ?_ | refine WL.gu rfl ?_); first | (refine opk 1 rfl ?_; first | (refine ost_V H rfl (alive15 _ _ (sat_full _) (hT.full H)) rfl ?_; clear H; intro wk H) | (refine ost_Sk H rfl (hth _ H.sat) rfl ?_; clear H; rintro vk wk hfk Lk ⟨a1, c1, rfl, rfl, hN1⟩ hle H; simp only [List.cons_append, List.nil_append] at H) | (refine ost_C H rfl (hD1 _ _ (sat_full _) ((hT.mono hle).full H) _ _ (hN1.mono H.sat.le)) rfl ?_; clear H; rintro vk wk hfk Lk ⟨rfl, a2, c2, rfl, rfl⟩ H; simp only [List.cons_append, List.nil_append] at H)) | refine pvQ ?_ | (refine opk 3 rfl ?_; (refine ost_cmp rfl rfl rfl rfl (fun hc => ?_) (fun hc => ?_) <;> (simp only [cmpP] at hc; try exact prIQ))) | (refine opk 4 rfl ?_; (refine ost_cmp rfl rfl rfl rfl (fun hc => ?_) (fun hc => ?_) <;> (simp only [cmpP] at hc; try exact prIQ))) | (refine opk 8 rfl ?_; (refine ost_storeW H rfl rfl rfl rfl lQ ixQ lQ okQ ?_; clear H; intro wk H; simp only [List.set_cons_zero, List.set_cons_succ, Nat.reduceAdd] at H)) | (refine opk 9 rfl ?_; (refine ost_allocA H rfl ?_; clear H; intro bk wk H))) | refine Wc.seq ?_ | refine then_n ?_ | refine WL.nil ?_ | refine Wc.region ?_ | refine Wc.block ?_ | refine then_r ?_ | refine then_e ?_ | refine inb_e rfl ?_ | refine inb_o rfl ?_ | refine inb_n ?_ | refine inb_r ?_ | refine Wc.skip ?_ | refine Wc.exit ?_ | refine Wc.ret ?_ | refine Wc.cond_true rfl ?_ | refine Wc.cond_false rfl ?_ | refine WL.skp rfl rfl ?_ | refine WL.sku rfl ?_)
      all_goals first | (exfalso; omega) | skip
      have hsub : ((n + u.length : Nat) : Int) - (n : Nat) = ((u.length : Nat) : Int) := by omega
      rw [hsub]
      obtain ⟨a3, c3, h7, e7, hle7, hrB, H7⟩ := (H.front 1 rfl).freeze8
      clear H
      have H := H7
      clear H7
      cases e7
      simp only [List.eraseIdx_cons_succ, List.eraseIdx_cons_zero] at H
      have hT7 := (hT.mono hle).mono hle7
      have hdec : decP (B.drop u.length) = (p, 0) := by rw [hu, List.drop_left' rfl, decP_enc hR]
      have cDec := fun w hs => page_DecodeQ (B.length - u.length) h7 _ _ (B.drop u.length) w hs hT7 (by rw [List.length_drop]) (hrB.drop (n := u.length) (by omega)) (by rw [List.length_drop]; omega)
      simp only [hdec] at cDec
      repeat' (first | ((first | refine WL.p rfl ?_ | refine WL.u ?_ | refine WL.g rfl rfl ?_ | refine WL.gu rfl ?_); first | (refine opk 1 rfl ?_; (refine ost_Sk H rfl (cDec _ H.sat) rfl ?_; clear H; rintro vk wk hfk Lk ⟨A, rfl, rfl, hP⟩ hle H; simp only [List.cons_append, List.nil_append] at H)) | refine pvQ ?_ | (refine opk 3 rfl ?_; (refine ost_cmp rfl rfl rfl rfl (fun hc => ?_) (fun hc => ?_) <;> (simp only [cmpP] at hc; try exact prIQ))) | (refine opk 4 rfl ?_; (refine ost_cmp rfl rfl rfl rfl (fun hc => ?_) (fun hc => ?_) <;> (simp only [cmpP] at hc; try exact prIQ))) | (refine opk 8 rfl ?_; (refine ost_storeW H rfl rfl rfl rfl lQ ixQ lQ okQ ?_; clear H; intro wk H; simp only [List.set_cons_zero, List.set_cons_succ, Nat.reduceAdd] at H)) | (refine opk 9 rfl ?_; (refine ost_allocA H rfl ?_; clear H; intro bk wk H))) | refine Wc.seq ?_ | refine then_n ?_ | refine WL.nil ?_ | refine Wc.region ?_ | refine Wc.block ?_ | refine then_r ?_ | refine then_e ?_ | refine inb_e rfl ?_ | refine inb_o rfl ?_ | refine inb_n ?_ | refine inb_r ?_ | refine Wc.skip ?_ | refine Wc.exit ?_ | refine Wc.ret ?_ | refine Wc.cond_true rfl ?_ | refine Wc.cond_false rfl ?_ | refine WL.skp rfl rfl ?_ | refine WL.sku rfl ?_)
      have hdiv : ((l.length : Int) + 7) / 8 = (((l.length + 7) / 8 : Nat) : Int) := by omega
      rw [hdiv]
      obtain ⟨bp, ebp⟩ := H.nameB idx0
      subst ebp
      obtain ⟨bs, ebs⟩ := H.nameB idx1
      subst ebs
      have lp := pgV_len p A
      refine Wc.loopE (fun s0 m s9 w' => ∃ (q r : Nat), m = q ∧ Agree [10, 11, 63, 64, 65, 66, 67, 68, 69] s9 s0 ∧ s9 11 = .int .i64 q ∧ s9 10 = .int .i64 r ∧ 1 ≤ r ∧ q + r ≤ 100 ∧ (l.length ≤ 8 → r = 1 ∧ q ≤ 1) ∧ (8 < l.length → r = 1 → 1 < q) ∧
        St w [] h0 hfk [.blk bp (.cells (pgV p A).toArray 59 (0, 0)), .blk bs (.cells (cSlot s).toArray 28 (0, 0))] w') _ ⟨(l.length + 7) / 8, 1, rfl, Agree.refl _ _, rfl, rfl, by omega, by omega, by omega, by omega, H⟩ ?_
      clear H
      rintro m s9 w' ⟨q, r, hm, hA, e1, e2, hr1, hqr, hq1, hq2, H⟩
      obtain ⟨j9, rfl⟩ := hA.env2 e2 e1
      clear hA e1 e2
      by_cases hlt : 1 < q
      · repeat' (first | ((first | refine WL.p rfl ?_ | refine WL.u ?_ | refine WL.g rfl rfl ?_ | refine WL.gu rfl ?_); first | refine pvQ ?_ | (refine opk 3 rfl ?_; (refine ost_cmp rfl rfl rfl rfl (fun hc => ?_) (fun hc => ?_) <;> (simp only [cmpP] at hc; try exact prIQ))) | (refine opk 4 rfl ?_; (refine ost_cmp rfl rfl rfl rfl (fun hc => ?_) (fun hc => ?_) <;> (simp only [cmpP] at hc; try exact prIQ))) | (refine opk 8 rfl ?_; (refine ost_storeW H rfl rfl rfl rfl lQ ixQ lQ okQ ?_; clear H; intro wk H; simp only [List.set_cons_zero, List.set_cons_succ, Nat.reduceAdd] at H)) | (refine opk 9 rfl ?_; (refine ost_allocA H rfl ?_; clear H; intro bk wk H))) | refine Wc.seq ?_ | refine then_n ?_ | refine WL.nil ?_ | refine Wc.region ?_ | refine Wc.block ?_ | refine then_r ?_ | refine then_e ?_ | refine inb_e rfl ?_ | refine inb_o rfl ?_ | refine inb_n ?_ | refine inb_r ?_ | refine Wc.skip ?_ | refine Wc.exit ?_ | refine Wc.ret ?_ | refine Wc.cond_true rfl ?_ | refine Wc.cond_false rfl ?_ | refine WL.skp rfl rfl ?_ | refine WL.sku rfl ?_)
        have hdq : ((q : Int) + 7) / 8 = (((q + 7) / 8 : Nat) : Int) := by omega
        have hrr : (r : Int) + 1 = ((r + 1 : Nat) : Int) := by omega
        rw [hdq, hrr]
        exact ⟨(q + 7) / 8, by omega, (q + 7) / 8, r + 1, rfl, by (repeat' (first | exact Agree.refl _ _ | exact Agree.havoc | refine Agree.upd rfl ?_ | refine Agree.hav2 rfl ?_)), rfl, rfl, by omega, by omega, by omega, by omega, H⟩
      · by_cases h8 : l.length ≤ 8
        · have hlf' : p.leaf = true := by rw [hlf]; exact decide_eq_true h8
          have gL : (pgV p A)[0 + 0]? = some (.bool true) := by rw [← hlf']; rfl
          obtain rfl : r = 1 := (hq1 h8).1
          repeat' (first | ((first | refine WL.p rfl ?_ | refine WL.u ?_ | refine WL.g rfl rfl ?_ | refine WL.gu rfl ?_); first | refine pvQ ?_ | (refine opk 3 rfl ?_; (refine ost_cmp rfl rfl rfl rfl (fun hc => ?_) (fun hc => ?_) <;> (simp only [cmpP] at hc; try exact prIQ))) | (refine opk 4 rfl ?_; (refine ost_cmp rfl rfl rfl rfl (fun hc => ?_) (fun hc => ?_) <;> (simp only [cmpP] at hc; try exact prIQ))) | (refine opk 8 rfl ?_; (refine ost_storeW H rfl rfl rfl rfl lQ ixQ lQ okQ ?_; clear H; intro wk H; simp only [List.set_cons_zero, List.set_cons_succ, Nat.reduceAdd] at H)) | (refine opk 9 rfl ?_; (refine ost_allocA H rfl ?_; clear H; intro bk wk H))) | refine Wc.seq ?_ | refine then_n ?_ | refine WL.nil ?_ | refine Wc.region ?_ | refine Wc.block ?_ | refine then_r ?_ | refine then_e ?_ | refine inb_e rfl ?_ | refine inb_o rfl ?_ | refine inb_n ?_ | refine inb_r ?_ | refine Wc.skip ?_ | refine Wc.exit ?_ | refine Wc.ret ?_ | refine Wc.cond_true rfl ?_ | refine Wc.cond_false rfl ?_ | refine WL.skp rfl rfl ?_ | refine WL.sku rfl ?_)
          all_goals first | ((first | refine fn_ret1 (v := .bool _) rfl rfl ⟨?_, H.fr⟩ | refine fn_ret1 (v := .int _ _) rfl rfl ⟨?_, H.fr⟩ | refine fn_ret1 (v := .string _) rfl rfl ⟨?_, H.fr⟩); rfl) | (exfalso; omega)
        · have hlf' : p.leaf = false := by rw [hlf]; exact decide_eq_false h8
          have gL : (pgV p A)[0 + 0]? = some (.bool false) := by rw [← hlf']; rfl
          have hr2 : 1 < r := by
            by_cases hr : r = 1
            · exact absurd (hq2 (by omega) hr) hlt
            · omega
          repeat' (first | ((first | refine WL.p rfl ?_ | refine WL.u ?_ | refine WL.g rfl rfl ?_ | refine WL.gu rfl ?_); first | refine pvQ ?_ | (refine opk 3 rfl ?_; (refine ost_cmp rfl rfl rfl rfl (fun hc => ?_) (fun hc => ?_) <;> (simp only [cmpP] at hc; try exact prIQ))) | (refine opk 4 rfl ?_; (refine ost_cmp rfl rfl rfl rfl (fun hc => ?_) (fun hc => ?_) <;> (simp only [cmpP] at hc; try exact prIQ))) | (refine opk 8 rfl ?_; (refine ost_storeW H rfl rfl rfl rfl lQ ixQ lQ okQ ?_; clear H; intro wk H; simp only [List.set_cons_zero, List.set_cons_succ, Nat.reduceAdd] at H)) | (refine opk 9 rfl ?_; (refine ost_allocA H rfl ?_; clear H; intro bk wk H))) | refine Wc.seq ?_ | refine then_n ?_ | refine WL.nil ?_ | refine Wc.region ?_ | refine Wc.block ?_ | refine then_r ?_ | refine then_e ?_ | refine inb_e rfl ?_ | refine inb_o rfl ?_ | refine inb_n ?_ | refine inb_r ?_ | refine Wc.skip ?_ | refine Wc.exit ?_ | refine Wc.ret ?_ | refine Wc.cond_true rfl ?_ | refine Wc.cond_false rfl ?_ | refine WL.skp rfl rfl ?_ | refine WL.sku rfl ?_)
          all_goals first | ((first | refine fn_ret1 (v := .bool _) rfl rfl ⟨?_, H.fr⟩ | refine fn_ret1 (v := .int _ _) rfl rfl ⟨?_, H.fr⟩ | refine fn_ret1 (v := .string _) rfl rfl ⟨?_, H.fr⟩); rfl) | (exfalso; omega)
    · have hbad := dumpM_bad2 he (by omega)
      rw [hbad] at hD1
      dsimp only [List.length_nil] at hD1
      have lz : (cSlot zeroS).length = 4 := rfl
      repeat' (first | ((first | refine WL.p rfl ?_ | refine WL.u ?_ | refine WL.g rfl rfl ?_ | refine WL.gu rfl ?_); first | (refine opk 1 rfl ?_; first | (refine ost_V H rfl (alive15 _ _ (sat_full _) (hT.full H)) rfl ?_; clear H; intro wk H) | (refine ost_Sk H rfl (hth _ H.sat) rfl ?_; clear H; rintro vk wk hfk Lk ⟨a1, c1, rfl, rfl, hN1⟩ hle H; simp only [List.cons_append, List.nil_append] at H) | (refine ost_C H rfl (hD1 _ _ (sat_full _) ((hT.mono hle).full H) _ _ (hN1.mono H.sat.le)) rfl ?_; clear H; rintro vk wk hfk Lk ⟨rfl, a2, c2, rfl, rfl⟩ H; simp only [List.cons_append, List.nil_append] at H)) | refine pvQ ?_ | (refine opk 3 rfl ?_; (refine ost_cmp rfl rfl rfl rfl (fun hc => ?_) (fun hc => ?_) <;> (simp only [cmpP] at hc; try exact prIQ))) | (refine opk 4 rfl ?_; (refine ost_cmp rfl rfl rfl rfl (fun hc => ?_) (fun hc => ?_) <;> (simp only [cmpP] at hc; try exact prIQ))) | (refine opk 8 rfl ?_; (refine ost_storeW H rfl rfl rfl rfl lQ ixQ lQ okQ ?_; clear H; intro wk H; simp only [List.set_cons_zero, List.set_cons_succ, Nat.reduceAdd] at H)) | (refine opk 9 rfl ?_; (refine ost_allocA H rfl ?_; clear H; intro bk wk H))) | refine Wc.seq ?_ | refine then_n ?_ | refine WL.nil ?_ | refine Wc.region ?_ | refine Wc.block ?_ | refine then_r ?_ | refine then_e ?_ | refine inb_e rfl ?_ | refine inb_o rfl ?_ | refine inb_n ?_ | refine inb_r ?_ | refine Wc.skip ?_ | refine Wc.exit ?_ | refine Wc.ret ?_ | refine Wc.cond_true rfl ?_ | refine Wc.cond_false rfl ?_ | refine WL.skp rfl rfl ?_ | refine WL.sku rfl ?_)
      all_goals first | ((first | refine fn_ret1 (v := .bool _) rfl rfl ⟨?_, H.fr⟩ | refine fn_ret1 (v := .int _ _) rfl rfl ⟨?_, H.fr⟩ | refine fn_ret1 (v := .string _) rfl rfl ⟨?_, H.fr⟩); rfl) | (exfalso; omega)
  · repeat' (first | ((first | refine WL.p rfl ?_ | refine WL.u ?_ | refine WL.g rfl rfl ?_ | refine WL.gu rfl ?_); first | (refine opk 1 rfl ?_; (refine ost_V H rfl (alive15 _ _ (sat_full _) (hT.full H)) rfl ?_; clear H; intro wk H)) | refine pvQ ?_ | (refine opk 3 rfl ?_; (refine ost_cmp rfl rfl rfl rfl (fun hc => ?_) (fun hc => ?_) <;> (simp only [cmpP] at hc; try exact prIQ))) | (refine opk 4 rfl ?_; (refine ost_cmp rfl rfl rfl rfl (fun hc => ?_) (fun hc => ?_) <;> (simp only [cmpP] at hc; try exact prIQ))) | (refine opk 8 rfl ?_; (refine ost_storeW H rfl rfl rfl rfl lQ ixQ lQ okQ ?_; clear H; intro wk H; simp only [List.set_cons_zero, List.set_cons_succ, Nat.reduceAdd] at H)) | (refine opk 9 rfl ?_; (refine ost_allocA H rfl ?_; clear H; intro bk wk H))) | refine Wc.seq ?_ | refine then_n ?_ | refine WL.nil ?_ | refine Wc.region ?_ | refine Wc.block ?_ | refine then_r ?_ | refine then_e ?_ | refine inb_e rfl ?_ | refine inb_o rfl ?_ | refine inb_n ?_ | refine inb_r ?_ | refine Wc.skip ?_ | refine Wc.exit ?_ | refine Wc.ret ?_ | refine Wc.cond_true rfl ?_ | refine Wc.cond_false rfl ?_ | refine WL.skp rfl rfl ?_ | refine WL.sku rfl ?_)
    all_goals first | (exfalso; omega) | ((first | refine fn_ret1 (v := .bool _) rfl rfl ⟨?_, H.fr⟩ | refine fn_ret1 (v := .int _ _) rfl rfl ⟨?_, H.fr⟩ | refine fn_ret1 (v := .string _) rfl rfl ⟨?_, H.fr⟩); rfl)
end Go.Tg
namespace Go.Proofs.YtbfilhaigbebpaaDoor
open Go.ChangeShapes Go.WideShapes Go.ChangeAt Go.RowKit Go.Tg
theorem rootsPlaces_lifted (os : Os) (started : os.Started) (H : Type) (enc : TypeId × Value → H) :
    ReturnsInHanded {} Tryd.checked os 8 .any (fun w args => (Rows.rootsPlacesSpec.pre enc Tryd.prog Tryd.f8 Rows.rootsPlacesRow.domain false w args ∧ laidMetH Tryd.prog Rows.rootsPlacesRow.laid w) ∧ sizedMet enc Tryd.prog Tryd.f8 (OpenSpec.ofChange Rows.rootsPlacesSpec) false w args) (Rows.rootsPlacesSpec.post enc Tryd.prog Tryd.f8 false true false false) := by
  refine returnsInHanded_of_change_and (C := Tryd.checked) (X := fun w _ => laidMetH Tryd.prog Rows.rootsPlacesRow.laid w) (fun _ _ _ hh h => h.of_heap hh) own_ started (by kernel_rfl) Tryd.func8
    (ChangeSpec.witness_shaped (enc := enc) (C := Tryd.checked) (os := os) (X := fun w _ => laidMetH Tryd.prog Rows.rootsPlacesRow.laid w) false (World.laidAll Tryd.prog os Rows.rootsPlacesRow.laid) #[.slice none 0 0, .int .u16 0] 8 (World.laidAll_os _ _ _)
      (World.shaped_of_ZipB (by kernel_rfl) (by kernel_rfl)) (by kernel_rfl) (by kernel_rfl) (by kernel_rfl)
      (by rw [MakeChecks.laidMetH_plain _ _ _ (by kernel_rfl)]; exact laidMet_laidAll _ (by kernel_rfl) (by kernel_rfl))) ?_
  intro W base args ds gs before hval0 hW hcnd _ hLd _
  have hval : ∀ (j : Nat) t v, Tryd.f8.params[j]? = some t → args[j]? = some v → Value.okWide Tryd.prog W .any base t v := hval0
  have hT : Half (full W) := half_of (by rfl) hLd
  have hW' := hW
  obtain ⟨p, q, hA0, -, -, -, -⟩ := hW'
  have hA : DataW.TrodAll enc Tryd.prog W 0 (fun _ => true) true Tryd.f8.params.toList args.toList ds p := hA0
  rw [Tryd.params8] at hA hval
  obtain ⟨v0, v1, d0, d1, p0, p1, rfl, rfl, rfl, h0, h1⟩ := trodAll_two hA
  obtain ⟨z, rfl, z1, z2⟩ := int_of_okV Tryd.underlying54 (hval 1 _ v1 rfl rfl)
  obtain ⟨la, lc, l, e0, lr⟩ := items_of (Td.of h0)
  obtain rfl := val_of1 e0 (okWide_slice Tryd.underlying22 (hval 0 _ v0 rfl rfl))
  refine (law_RootsPlaces la lc l z z1 z2 W hT lr).mono fun e W' ⟨v, he, hv, hE⟩ => ⟨v, he, ?_⟩
  subst hv
  exact law_post rfl hW hE rfl (by kernel_rfl) Tryd.underlying4 laid_ (by kernel_rfl)
theorem rootsPlaces_said : Rows.RootsPlacesSaid :=
  OpenClaim.holds_of_wide 8 Tryd.f8 rfl rfl rfl rfl rfl rfl rfl ⟨rfl, rfl, rfl, rfl, rfl⟩ rfl rfl rfl rfl rfl (by kernel_rfl) Tryd.func8 (by kernel_rfl)
    (of_decide_eq_true (by kernel_rfl)) (by unfold Func.isWrapper; first | (rw [if_pos (by decide +kernel)]; kernel_rfl) | (rw [if_neg (by decide +kernel)]; exact ⟨rfl, rfl⟩))
    (fun os started H enc _ => rootsPlaces_lifted os started H enc)
theorem rootsPlaces_holds : Rows.RootsPlacesCardSaid :=
  Claim7.holds_tied_plain_at .later [] [.data] true (true, "6266663437662ea72edc6a47c7bafabcd50b56fe735f93247bb89da89eddd568") false rootsPlaces_said (fun _ h => by cases h) (by kernel_rfl) (fun _ h => by cases h) rootsPlaces_row_tie rfl ⟨rfl, rfl⟩ (by kernel_rfl) rfl
    (fun f fn hf hfn => by
      obtain rfl : f = 8 := Option.some.inj ((show Tryd.prog.funcNamed "trug/truglaw15.RootsPlaces" = some 8 by kernel_rfl).symm.trans hf) |>.symm
      obtain rfl : fn = Tryd.f8 := (Option.some.inj (Tryd.func8.symm.trans hfn)).symm
      exact ⟨by kernel_rfl, fun j t ht => by
        have hm : t ∈ Tryd.f8.params.toList := by simpa using Array.mem_of_getElem? ht
        have hall : (Tryd.f8.params.toList.all fun u => !Tryd.prog.wantsStandIn u) = true := by kernel_rfl
        exact (show Tryd.prog.wantsStandIn t = false by simpa using List.all_eq_true.1 hall t hm)⟩)
    (by kernel_rfl)
end Go.Proofs.YtbfilhaigbebpaaDoor

