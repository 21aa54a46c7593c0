/- Proved: the given statement LinksDoubleSaid: the Go law LinksDouble returns true for every input that it is asked of. No conditions. -/
import Derived.Test.YtajfhoeejeadkaaInst
import Derived.Test.YtajfhoeejeadkaaAuto
import Derived.Test.YtajfhoeejeadkaaTH
set_option linter.unusedVariables false
set_option linter.unusedSimpArgs false
set_option maxRecDepth 100000
set_option maxHeartbeats 8000000
namespace Go.Tg
open Go Go.Proofs
theorem po_WaitsK (pb mb : Nat) (xs : List (List UInt8)) (es : List EnT) (clk : Nat) (hp : PoI 2 100 (mkL xs) es clk) {ws : World} {S : List Nat} {h0 h : FH} {L : List HA} {i : Nat} (w : World) (H : St ws S h0 h L w) (hi : L[i]? = some (poH pb mb 2 100 (mkL xs).length es clk)) :
    Spec Try.prog 18 #[pt pb, .int .u8 1, .int .u8 0] w [] (full w) (fun v h' L' => ∃ a' c' lv', v = .slice a' xs.length c' ∧ L' = [vsH v lv', lvH lv'] ∧ lv'.map (·.2) = xs ∧ xs.length = lv'.length) := by
  refine (po_WaitsA pb mb 2 100 (mkL xs) es clk (1, 0) hp w H hi w (sat_full _)).mono ?_
  rintro v h' L' ⟨a', c', lv', rfl, rfl, e⟩
  rw [lsF_mk] at e
  have hl : lv'.length = xs.length := by rw [← e, List.length_map]
  exact ⟨a', c', lv', by rw [hl], rfl, e, hl.symm⟩
theorem ok2100 : okR 2 100 := by unfold okR; omega
theorem law_LinksDouble (a : Option Addr) (c : Nat) (lv : List (Value × List UInt8)) (n x0 x1 : UInt8) (w : World) (hr0 : LsF (full w) a c lv) : SpecV Try.prog 6 #[.slice a lv.length c, .int .u8 n.toNat, .agg #[.int .u8 x0.toNat, .int .u8 x1.toNat]] w (.bool true) := by
  have H := St.start (sat_full w)
  have hs := sat_full w
  generalize hh : full w = h0 at H hr0 hs
  have hS := hr0.1
  have hln := hS.lenM
  have hN : PoI 2 100 (mkL []) [] 0 := PoI.new ok2100
  have un := n.toNat_lt; have u0 := x0.toNat_lt; have u1 := x1.toNat_lt
  unfold SpecV
  refine calls_of Try.func6 rfl Try.ntmps6 (by simp) ?_
  repeat' (first | ((first | refine WL.p rfl ?_ | refine WL.u ?_ | refine WL.g rfl rfl ?_ | refine WL.gu rfl ?_); first | (refine opk 1 rfl ?_; first | (refine ost_V H rfl (alive21 _) rfl ?_; clear H; intro wk H) | (refine ost_C H rfl (po_NewE 2 100 ok2100 _ _ (sat_full _)) rfl ?_; clear H; rintro vk wk hfk Lk ⟨-, pb, mb, rfl, rfl⟩ H; simp only [List.cons_append, List.nil_append] at H)) | refine pvQ ?_ | (refine opk 3 rfl ?_; first | (refine ost_cmp rfl rfl rfl rfl (fun hc => ?_) (fun hc => ?_) <;> (simp only [cmpP] at hc; try exact prIQ)) | (refine ost_ptEq rfl rfl rfl (fun hc => ?_) (fun hc => ?_) <;> try (simp at hc; done)) | (refine ost_ptNe rfl rfl rfl (fun hc => ?_) (fun hc => ?_) <;> try (simp at hc; done))) | (refine opk 4 rfl ?_; (refine ost_cmp rfl rfl rfl rfl (fun hc => ?_) (fun hc => ?_) <;> (simp only [cmpP] at hc; try exact prIQ))) | (refine opk 8 rfl ?_; (refine ost_storeW H rfl rfl rfl rfl lQ ixQ lQ okQ ?_; clear H; intro wk H; simp only [List.set_cons_zero, List.set_cons_succ, Nat.reduceAdd] at H)) | (refine opk 9 rfl ?_; first | (refine ost_boxq H rfl ?_; clear H; intro bk wk H) | (refine ost_allocA H rfl ?_; clear H; intro bk wk H))) | refine Wc.seq ?_ | refine then_n ?_ | refine WL.nil ?_ | refine Wc.region ?_ | refine Wc.block ?_ | refine then_r ?_ | refine then_e ?_ | refine inb_e rfl ?_ | refine inb_o rfl ?_ | refine inb_n ?_ | refine inb_r ?_ | refine Wc.skip ?_ | refine Wc.exit ?_ | refine Wc.ret ?_ | refine Wc.cond_true rfl ?_ | refine Wc.cond_false rfl ?_ | refine WL.skp rfl rfl ?_ | refine WL.sku rfl ?_)
  obtain ⟨bh, ebh⟩ := H.nameB idx1
  subst ebh
  refine Wc.loopE (fun s0 m s w' => ∃ (i : Nat) (xs : List (List UInt8)) (es : List EnT) (clk : Nat), m = lv.length - i ∧ i ≤ lv.length ∧ i ≤ 20 ∧ Agree [8, 9, 18, 19, 20, 21, 22, 23, 24, 25, 26, 27, 28, 29, 30, 31, 32, 33, 34, 35, 36, 37, 38, 39, 40, 41, 42, 43, 44, 45] s s0 ∧ s 8 = .int .i64 xs.length ∧ s 9 = .int .i64 i ∧ xs.length ≤ i ∧ PoI 2 100 (mkL xs) es clk ∧
    St w [] h0 h0 [poH pb mb 2 100 (mkL xs).length es clk, .blk bh (.cells [Value.int .u8 x0.toNat, .int .u8 x1.toNat].toArray 61 (0, 0))] w') lv.length ⟨0, [], [], 0, rfl, by omega, by omega, Agree.refl _ _, rfl, rfl, by simp, hN, H⟩ ?_
  clear H hN
  rintro m s w' ⟨i, xs, es, clk, rfl, hi, hi20, hA9, e1, e2, hxi, hN, H⟩
  obtain ⟨j, rfl⟩ := hA9.env2 e1 e2
  clear hA9 e1 e2
  by_cases hlt : i < lv.length ∧ i < 20
  · obtain ⟨b, off, l, T, fr, e1, eb, eg⟩ := hS.getM (by decide) (Nat.lt_of_le_of_lt (Nat.zero_le _) hlt.1)
    subst e1
    have g1 : l[off + (i : Int).toNat * 1]? = some lv[i].1 := row_cell (eg (i : Int).toNat i hlt.1 (by omega)) (q := 0) (by simp)
    obtain ⟨a8, c8, e8, hr8⟩ := hr0.2 _ (List.getElem_mem hlt.1)
    rw [e8] at g1
    generalize lv[i].2 = x at g1 hr8
    clear eg e8
    by_cases hx : x.length ≤ 600
    · have hl1 : (((xs ++ [x]).length : Nat) : Int) = xs.length + 1 := by simp
      have hse := send_mk hx (xs := xs) (by omega)
      have hC := fun g w hr HO => po_SendE pb mb 2 100 (mkL xs) es clk (1, 0) hN g w HO (a := a8) (c := c8) (x := x) _ _ hse hr
      repeat' (first | ((first | refine WL.p rfl ?_ | refine WL.u ?_ | refine WL.g rfl rfl ?_ | refine WL.gu rfl ?_); first | (refine opk 1 rfl ?_; (refine ost_O H rfl idx0 (fun HO => hC _ _ (hr8.mono (H.less (i := 0) rfl)) HO) rfl ?_; clear H; rintro vk wk hfk Lk ⟨-, es7, clk7, rfl, rfl, hN7⟩ H; simp only [List.cons_append, List.nil_append, List.eraseIdx_cons_zero, List.eraseIdx_cons_succ] at H)) | refine pvQ ?_ | (refine opk 3 rfl ?_; first | (refine ost_cmp rfl rfl rfl rfl (fun hc => ?_) (fun hc => ?_) <;> (simp only [cmpP] at hc; try exact prIQ)) | (refine ost_ptEq rfl rfl rfl (fun hc => ?_) (fun hc => ?_) <;> try (simp at hc; done)) | (refine ost_ptNe rfl rfl rfl (fun hc => ?_) (fun hc => ?_) <;> try (simp at hc; done))) | (refine opk 4 rfl ?_; (refine ost_cmp rfl rfl rfl rfl (fun hc => ?_) (fun hc => ?_) <;> (simp only [cmpP] at hc; try exact prIQ))) | (refine opk 8 rfl ?_; (refine ost_storeW H rfl rfl rfl rfl lQ ixQ lQ okQ ?_; clear H; intro wk H; simp only [List.set_cons_zero, List.set_cons_succ, Nat.reduceAdd] at H)) | (refine opk 9 rfl ?_; first | (refine ost_boxq H rfl ?_; clear H; intro bk wk H) | (refine ost_allocA H rfl ?_; clear H; intro bk wk H))) | refine Wc.seq ?_ | refine then_n ?_ | refine WL.nil ?_ | refine Wc.region ?_ | refine Wc.block ?_ | refine then_r ?_ | refine then_e ?_ | refine inb_e rfl ?_ | refine inb_o rfl ?_ | refine inb_n ?_ | refine inb_r ?_ | refine Wc.skip ?_ | refine Wc.exit ?_ | refine Wc.ret ?_ | refine Wc.cond_true rfl ?_ | refine Wc.cond_false rfl ?_ | refine WL.skp rfl rfl ?_ | refine WL.sku rfl ?_)
      all_goals first | (exfalso; omega) | skip
      exact ⟨lv.length - (i + 1), by omega, i + 1, xs ++ [x], es7, clk7, rfl, by omega, by omega, by (repeat' (first | exact Agree.refl _ _ | exact Agree.havoc | refine Agree.upd rfl ?_ | refine Agree.hav2 rfl ?_)), by rw [hl1]; rfl, rfl, by simp; omega, hN7, H⟩
    · repeat' (first | ((first | refine WL.p rfl ?_ | refine WL.u ?_ | refine WL.g rfl rfl ?_ | refine WL.gu rfl ?_); first | refine pvQ ?_ | (refine opk 3 rfl ?_; first | (refine ost_cmp rfl rfl rfl rfl (fun hc => ?_) (fun hc => ?_) <;> (simp only [cmpP] at hc; try exact prIQ)) | (refine ost_ptEq rfl rfl rfl (fun hc => ?_) (fun hc => ?_) <;> try (simp at hc; done)) | (refine ost_ptNe rfl rfl rfl (fun hc => ?_) (fun hc => ?_) <;> try (simp at hc; done))) | (refine opk 4 rfl ?_; (refine ost_cmp rfl rfl rfl rfl (fun hc => ?_) (fun hc => ?_) <;> (simp only [cmpP] at hc; try exact prIQ))) | (refine opk 8 rfl ?_; (refine ost_storeW H rfl rfl rfl rfl lQ ixQ lQ okQ ?_; clear H; intro wk H; simp only [List.set_cons_zero, List.set_cons_succ, Nat.reduceAdd] at H)) | (refine opk 9 rfl ?_; first | (refine ost_boxq H rfl ?_; clear H; intro bk wk H) | (refine ost_allocA H rfl ?_; clear H; intro bk wk H))) | refine Wc.seq ?_ | refine then_n ?_ | refine WL.nil ?_ | refine Wc.region ?_ | refine Wc.block ?_ | refine then_r ?_ | refine then_e ?_ | refine inb_e rfl ?_ | refine inb_o rfl ?_ | refine inb_n ?_ | refine inb_r ?_ | refine Wc.skip ?_ | refine Wc.exit ?_ | refine Wc.ret ?_ | refine Wc.cond_true rfl ?_ | refine Wc.cond_false rfl ?_ | refine WL.skp rfl rfl ?_ | refine WL.sku rfl ?_)
      all_goals first | (exfalso; omega) | skip
      exact ⟨lv.length - (i + 1), by omega, i + 1, xs, es, clk, rfl, by omega, by omega, by (repeat' (first | exact Agree.refl _ _ | exact Agree.havoc | refine Agree.upd rfl ?_ | refine Agree.hav2 rfl ?_)), rfl, rfl, by omega, hN, H⟩
  · by_cases hk : xs.length = 0
    · repeat' (first | ((first | refine WL.p rfl ?_ | refine WL.u ?_ | refine WL.g rfl rfl ?_ | refine WL.gu rfl ?_); first | (refine opk 1 rfl ?_; (refine ost_C H rfl (po_WaitsK pb mb xs _ _ hN _ H (i := 0) rfl) rfl ?_; clear H; rintro vk wk hfk Lk ⟨a9, c9, lv9, rfl, rfl, hw9, hl9⟩ H; simp only [List.cons_append, List.nil_append] at H)) | refine pvQ ?_ | (refine opk 3 rfl ?_; first | (refine ost_cmp rfl rfl rfl rfl (fun hc => ?_) (fun hc => ?_) <;> (simp only [cmpP] at hc; try exact prIQ)) | (refine ost_ptEq rfl rfl rfl (fun hc => ?_) (fun hc => ?_) <;> try (simp at hc; done)) | (refine ost_ptNe rfl rfl rfl (fun hc => ?_) (fun hc => ?_) <;> try (simp at hc; done))) | (refine opk 4 rfl ?_; (refine ost_cmp rfl rfl rfl rfl (fun hc => ?_) (fun hc => ?_) <;> (simp only [cmpP] at hc; try exact prIQ))) | (refine opk 8 rfl ?_; (refine ost_storeW H rfl rfl rfl rfl lQ ixQ lQ okQ ?_; clear H; intro wk H; simp only [List.set_cons_zero, List.set_cons_succ, Nat.reduceAdd] at H)) | (refine opk 9 rfl ?_; first | (refine ost_boxq H rfl ?_; clear H; intro bk wk H) | (refine ost_allocA H rfl ?_; clear H; intro bk wk H))) | refine Wc.seq ?_ | refine then_n ?_ | refine WL.nil ?_ | refine Wc.region ?_ | refine Wc.block ?_ | refine then_r ?_ | refine then_e ?_ | refine inb_e rfl ?_ | refine inb_o rfl ?_ | refine inb_n ?_ | refine inb_r ?_ | refine Wc.skip ?_ | refine Wc.exit ?_ | refine Wc.ret ?_ | refine Wc.cond_true rfl ?_ | refine Wc.cond_false rfl ?_ | refine WL.skp rfl rfl ?_ | refine WL.sku rfl ?_)
      all_goals first | (exfalso; omega) | ((first | refine fn_ret1 (v := .bool _) rfl rfl ⟨?_, H.fr⟩ | refine fn_ret1 (v := .int _ _) rfl rfl ⟨?_, H.fr⟩ | refine fn_ret1 (v := .string _) rfl rfl ⟨?_, H.fr⟩); rfl)
    · have hq : ((n.toNat : Int) % (xs.length : Int)) = ((n.toNat % xs.length : Nat) : Int) := by omega
      have hjl : n.toNat % xs.length < xs.length := Nat.mod_lt _ (by omega)
      have hh1 : x0.toNat % 2 ≤ 1 := by omega
      have hq2 : ((n.toNat : Int) % (xs.length : Int)) + (x0.toNat : Int) % 2 = ((n.toNat % xs.length + x0.toNat % 2 : Nat) : Int) := by omega
      have h2 := harm_two hjl (by omega)
      have h1 := harm_back hjl (by omega) hh1
      have h3 := harm_turn hjl (by omega) x0.toUInt16 x1
      have h4 := harm_turn2 hjl (by omega) x0.toUInt16 x1
      have hyl : (mkL (xs.take (n.toNat % xs.length) ++ [xs[n.toNat % xs.length], xs[n.toNat % xs.length]] ++ xs.drop (n.toNat % xs.length + 1))).length = xs.length + 1 := by rw [mkL_len]; simp; omega
      have hxl := mkL_len xs
      rw [← hq] at h2 h3 h4
      rw [← hq2] at h1
      generalize mkL (xs.take (n.toNat % xs.length) ++ [xs[n.toNat % xs.length], xs[n.toNat % xs.length]] ++ xs.drop (n.toNat % xs.length + 1)) = ys at h1 h2 hyl
      generalize mkL (xs.set (n.toNat % xs.length) (turnB x0.toUInt16 x1 xs[n.toNat % xs.length])) = zs at h3 h4
      have cT := fun ls es clk (hp : PoI 2 100 ls es clk) g w HO ls' he => po_HarmE pb mb 2 100 ls es clk (1, 0) hp g w HO ((n.toNat : Int) % (xs.length : Int)) 3 x0.toUInt16 x1 0 ls' he
      simp only [hmL, UInt8.toNat_toUInt16] at cT
      repeat' (first | ((first | refine WL.p rfl ?_ | refine WL.u ?_ | refine WL.g rfl rfl ?_ | refine WL.gu rfl ?_); first | (refine opk 1 rfl ?_; first | (refine ost_C H rfl (po_WaitsK pb mb xs _ _ hN _ H (i := 0) rfl) rfl ?_; clear H; rintro vk wk hfk Lk ⟨a9, c9, lv9, rfl, rfl, hw9, hl9⟩ H; simp only [List.cons_append, List.nil_append] at H) | (refine ost_O H rfl idx2 (fun HO => po_HarmE pb mb 2 100 _ _ _ (1, 0) hN _ _ HO ((n.toNat : Int) % (xs.length : Int)) 2 0 0 _ _ h2) rfl ?_; clear H; rintro vk wk hfk Lk ⟨-, es2, clk2, rfl, rfl, hN2⟩ H; simp only [List.cons_append, List.nil_append, List.eraseIdx_cons_zero, List.eraseIdx_cons_succ] at H) | (refine ost_V H rfl (po_LenL pb _ _ _ _ _ _ (sat_full _) (H.poBlk (i := 0) rfl)) rfl ?_; clear H; intro wk H) | (refine ost_O H rfl idx0 (fun HO => po_HarmE pb mb 2 100 _ _ _ (1, 0) hN2 _ _ HO (((n.toNat : Int) % (xs.length : Int)) + (x0.toNat : Int) % 2) 1 0 0 _ _ h1) rfl ?_; clear H; rintro vk wk hfk Lk ⟨-, es3, clk3, rfl, rfl, hN3⟩ H; simp only [List.cons_append, List.nil_append, List.eraseIdx_cons_zero, List.eraseIdx_cons_succ] at H) | (refine ost_C H rfl (po_WaitsK pb mb xs _ _ hN3 _ H (i := 0) rfl) rfl ?_; clear H; rintro vk wk hfk Lk ⟨a8, c8, lv8, rfl, rfl, hw8, hl8⟩ H; simp only [List.cons_append, List.nil_append] at H) | (refine ost_V H rfl (same_t _ _ (sat_full _) _ _ _ lv8 _ _ _ lv9 (H.ownLs' (i := 0) (j := 1) rfl rfl) (H.ownLs' (i := 3) (j := 4) rfl rfl) hl8 hl9 (hw8.trans hw9.symm)) rfl ?_; clear H; intro wk H) | (refine ost_O H rfl idx3 (fun HO => cT _ _ _ hN3 _ _ HO _ h3) rfl ?_; clear H; rintro vk wk hfk Lk ⟨-, es4, clk4, rfl, rfl, hN4⟩ H; simp only [List.cons_append, List.nil_append, List.eraseIdx_cons_zero, List.eraseIdx_cons_succ] at H) | (refine ost_O H rfl idx0 (fun HO => cT _ _ _ hN4 _ _ HO _ h4) rfl ?_; clear H; rintro vk wk hfk Lk ⟨-, es5, clk5, rfl, rfl, hN5⟩ H; simp only [List.cons_append, List.nil_append, List.eraseIdx_cons_zero, List.eraseIdx_cons_succ] at H) | (refine ost_C H rfl (po_WaitsK pb mb xs _ _ hN5 _ H (i := 0) rfl) rfl ?_; clear H; rintro vk wk hfk Lk ⟨a7, c7, lv7, rfl, rfl, hw7, hl7⟩ H; simp only [List.cons_append, List.nil_append] at H) | (refine ost_V H rfl (same_t _ _ (sat_full _) _ _ _ lv7 _ _ _ lv9 (H.ownLs' (i := 0) (j := 1) rfl rfl) (H.ownLs' (i := 6) (j := 7) rfl rfl) hl7 hl9 (hw7.trans hw9.symm)) rfl ?_; clear H; intro wk H)) | refine pvQ ?_ | (refine opk 3 rfl ?_; first | (refine ost_cmp rfl rfl rfl rfl (fun hc => ?_) (fun hc => ?_) <;> (simp only [cmpP] at hc; try exact prIQ)) | (refine ost_ptEq rfl rfl rfl (fun hc => ?_) (fun hc => ?_) <;> try (simp at hc; done)) | (refine ost_ptNe rfl rfl rfl (fun hc => ?_) (fun hc => ?_) <;> try (simp at hc; done))) | (refine opk 4 rfl ?_; (refine ost_cmp rfl rfl rfl rfl (fun hc => ?_) (fun hc => ?_) <;> (simp only [cmpP] at hc; try exact prIQ))) | (refine opk 8 rfl ?_; (refine ost_storeW H rfl rfl rfl rfl lQ ixQ lQ okQ ?_; clear H; intro wk H; simp only [List.set_cons_zero, List.set_cons_succ, Nat.reduceAdd] at H)) | (refine opk 9 rfl ?_; first | (refine ost_boxq H rfl ?_; clear H; intro bk wk H) | (refine ost_allocA H rfl ?_; clear H; intro bk wk H))) | refine Wc.seq ?_ | refine then_n ?_ | refine WL.nil ?_ | refine Wc.region ?_ | refine Wc.block ?_ | refine then_r ?_ | refine then_e ?_ | refine inb_e rfl ?_ | refine inb_o rfl ?_ | refine inb_n ?_ | refine inb_r ?_ | refine Wc.skip ?_ | refine Wc.exit ?_ | refine Wc.ret ?_ | refine Wc.cond_true rfl ?_ | refine Wc.cond_false rfl ?_ | refine WL.skp rfl rfl ?_ | refine WL.sku rfl ?_)
      all_goals first | (exfalso; omega) | ((first | refine fn_ret1 (v := .bool _) rfl rfl ⟨?_, H.fr⟩ | refine fn_ret1 (v := .int _ _) rfl rfl ⟨?_, H.fr⟩ | refine fn_ret1 (v := .string _) rfl rfl ⟨?_, H.fr⟩); rfl)
end Go.Tg
namespace Go.Proofs.Ytajfhoeejeadkaa
open Go.ChangeShapes Go.WideShapes Go.ChangeAt Go.RowKit Go.Tg
theorem linksDouble_lifted (os : Os) (started : os.Started) (H : Type) (enc : TypeId × Value → H) :
    ReturnsInHanded {} Try.checked os 6 .any (Rows.linksDoubleSpec.pre6 enc Try.prog Try.f6 Rows.linksDoubleRow.domain false) (Rows.linksDoubleSpec.post enc Try.prog Try.f6 false true false false) := by
  refine returnsInHanded_of_change (C := Try.checked) own_ started (by kernel_rfl) Try.func6
    (ChangeSpec.witness6 (enc := enc) (C := Try.checked) false ⟨#[], #[.slice none 0 0, .int .u8 0, .agg #[.int .u8 0, .int .u8 0]], []⟩ 8 (by kernel_rfl) (by kernel_rfl) (by kernel_rfl) (by kernel_rfl)) ?_
  intro W base args ds gs before hval0 hW hcnd _
  have hval : ∀ (j : Nat) t v, Try.f6.params[j]? = some t → args[j]? = some v → Value.okWide Try.prog W .any base t v := hval0
  have hW' := hW
  obtain ⟨p, q, hA0, -, -, -, -⟩ := hW'
  have hA : DataW.TrodAll enc Try.prog W 0 (fun _ => true) true Try.f6.params.toList args.toList ds p := hA0
  rw [Try.params6] at hA hval
  obtain ⟨v0, v1, v2, d0, d1, d2, p0, p1, p2, rfl, rfl, rfl, h0, h1, h2⟩ := trodAll_three hA
  obtain ⟨la, lc, l, e0, lr⟩ := lss_of (Td.of h0)
  obtain rfl := val_of1 e0 (okWide_slice Try.underlying51 (hval 0 _ v0 rfl rfl))
  obtain ⟨nz, rfl, n1, n2⟩ := int_of_okV Try.underlying5 (hval 1 _ v1 rfl rfl)
  obtain ⟨n, rfl⟩ := u8_ok n1 n2
  obtain ⟨u, uy, e2⟩ := two_of (Td.of h2)
  obtain rfl := val_ofA e2 (okWide_arr Try.underlying61 (hval 2 _ v2 rfl rfl))
  refine (law_LinksDouble (w := W) la lc l n u uy lr).mono fun e W' ⟨v, he, hv, hE⟩ => ⟨v, he, ?_⟩
  subst hv
  exact law_post rfl hW hE rfl (by kernel_rfl) Try.underlying4 laid_ (by kernel_rfl)
theorem linksDouble_holds : Rows.LinksDoubleSaid :=
  OpenClaim.holds_of_wide 6 Try.f6 rfl rfl rfl rfl rfl rfl rfl ⟨rfl, rfl, rfl, rfl, rfl⟩ rfl rfl rfl rfl rfl (by kernel_rfl) Try.func6 (by kernel_rfl)
    (of_decide_eq_true (by kernel_rfl)) (by unfold Func.isWrapper; first | (rw [if_pos (by decide +kernel)]; kernel_rfl) | (rw [if_neg (by decide +kernel)]; exact ⟨rfl, rfl⟩))
    (fun os started H enc _ => linksDouble_lifted os started H enc)
end Go.Proofs.Ytajfhoeejeadkaa

