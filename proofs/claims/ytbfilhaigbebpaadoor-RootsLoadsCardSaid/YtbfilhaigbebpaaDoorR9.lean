/- Contracts of Go functions that the laws reach: what each call answers and leaves in memory, for all arguments within the bounds that each theorem names. -/
import Derived.Test.YtbfilhaigbebpaaDoorInst
import Derived.Test.YtbfilhaigbebpaaDoorAuto
import Derived.Test.YtbfilhaigbebpaaDoorR6
set_option linter.unusedVariables false
set_option linter.unusedSimpArgs false
set_option maxRecDepth 100000
set_option maxHeartbeats 4000000
namespace Go.Tg
open Go Go.Proofs
theorem nodePs_len (l : List PlT) : (nodePs l).length = chN l.length := by simp [nodePs]
theorem leafPs_len (l : List ItemT) : 1 ≤ (leafPs l).length ∧ (leafPs l).length ≤ l.length + 1 := by
  unfold leafPs
  split
  · rename_i h; subst h; simp
  · rename_i h
    have := List.length_pos_iff.2 h
    simp only [List.length_map, List.length_range]; unfold chN; omega
noncomputable def upG (base : Nat) (xs : List UInt8) (pls : List PlT) : List UInt8 × List PlT :=
  if h : 1 < pls.length then upG base (xs ++ bytesP (nodePs pls)) (placesP (base + xs.length) (nodePs pls)) else (xs, pls)
termination_by pls.length
decreasing_by rw [placesP_len, nodePs_len]; unfold chN; omega
theorem upG_step {base : Nat} {xs : List UInt8} {pls : List PlT} (h : 1 < pls.length) : upG base xs pls = upG base (xs ++ bytesP (nodePs pls)) (placesP (base + xs.length) (nodePs pls)) := by
  rw [upG, dif_pos h]
theorem upG_end {base : Nat} {xs : List UInt8} {pls : List PlT} (h : ¬ 1 < pls.length) : upG base xs pls = (xs, pls) := by
  rw [upG, dif_neg h]
structure SlotT where
  ver : UInt64
  at_ : UInt32
  end_ : UInt32
  items : UInt32
def cSlot (s : SlotT) : List Value := [.int .u64 s.ver.toNat, .int .u32 s.at_.toNat, .int .u32 s.end_.toNat, .int .u32 s.items.toNat]
def zeroS : SlotT := ⟨0, 0, 0, 0⟩
theorem cSlot_len (s : SlotT) : (cSlot s).length = 4 := rfl
theorem cSlot_inj {a b : SlotT} : cSlot a = cSlot b ↔ a = b := by
  refine ⟨fun h => ?_, fun h => by rw [h]⟩
  simp only [cSlot, List.cons.injEq, Value.int.injEq, true_and, and_true] at h
  obtain ⟨h1, h2, h3, h4⟩ := h
  have e1 : a.ver = b.ver := UInt64.toNat_inj.1 (by omega)
  have e2 : a.at_ = b.at_ := UInt32.toNat_inj.1 (by omega)
  have e3 : a.end_ = b.end_ := UInt32.toNat_inj.1 (by omega)
  have e4 : a.items = b.items := UInt32.toNat_inj.1 (by omega)
  cases a; cases b; simp_all
noncomputable def upL (l : List ItemT) (base : Nat) : List UInt8 × List PlT := upG base (bytesP (leafPs l)) (placesP base (leafPs l))
noncomputable def dumpM (l : List ItemT) (ver : UInt64) (base : Int) : List UInt8 × SlotT × Int :=
  if base < 0 ∨ 1073741824 < base ∨ riseL l = false then ([], zeroS, 2) else if 4096 < l.length then ([], zeroS, 3) else
    ((upL l base.toNat).1, ⟨ver, UInt32.ofNat ((upL l base.toNat).2.headD (zeroK, 0)).2, UInt32.ofNat (base.toNat + (upL l base.toNat).1.length), UInt32.ofNat l.length⟩, 0)
theorem ro_Dump (h0 : FH) (w : World) (hs : Sat h0 w) (hT : Half h0) (al : Option Addr) (cl : Nat) (l : List ItemT) (hN : Sl h0 5 al cl (l.map cItem)) (ver : UInt64) (base : Int) :
    Spec Tryd.prog 10 #[.slice al l.length cl, .int .u64 ver.toNat, .int .i64 base] w [] h0 (fun v h' L' => h' = h0 ∧ ∃ a' c', v = .tuple #[.slice a' (dumpM l ver base).1.length c', .agg (cSlot (dumpM l ver base).2.1).toArray, .int .i64 (dumpM l ver base).2.2] ∧ L' = [own8 (.slice a' (dumpM l ver base).1.length c') 5 (dumpM l ver base).1]) := by
  have H := St.start hs
  have q1 := hN.lenM
  have lz : cSlot zeroS = [Value.int .u64 0, .int .u32 0, .int .u32 0, .int .u32 0] := rfl
  unfold Spec
  refine calls_of Tryd.func10 rfl Tryd.ntmps10 (by simp) ?_
  by_cases hbad : base < 0 ∨ 1073741824 < base ∨ riseL l = false
  · have hD : dumpM l ver base = ([], zeroS, 2) := if_pos hbad
    rw [hD]
    have hri := fun w hs => ro_rise h0 w hs al cl l hN
    generalize riseL l = q at hri hbad
    have hq : ¬ base < 0 → ¬ 1073741824 < base → q = false := fun h1 h2 => by rcases hbad with h | h | h <;> first | exact absurd h h1 | exact absurd h h2 | exact h
    by_cases hA : base < 0 ∨ 1073741824 < base
    · repeat' (first | ((first | refine WL.p rfl ?_ | refine WL.u ?_ | refine WL.g rfl rfl ?_ | refine WL.gu rfl ?_); first | (refine opk 9 rfl ?_; (refine ost_buildS rfl evP_nil rfl (rfl : _ = [_, _, _, _]) ?_)) | refine pvQ ?_ | (refine opk 3 rfl ?_; (refine ost_cmp rfl rfl rfl rfl (fun hc => ?_) (fun hc => ?_) <;> (simp only [cmpP] at hc; try exact prIQ))) | (refine opk 4 rfl ?_; (refine ost_cmp rfl rfl rfl rfl (fun hc => ?_) (fun hc => ?_) <;> (simp only [cmpP] at hc; try exact prIQ))) | (refine opk 8 rfl ?_; (refine ost_storeW H rfl rfl rfl rfl lQ ixQ lQ okQ ?_; clear H; intro wk H; simp only [List.set_cons_zero, List.set_cons_succ, Nat.reduceAdd] at H)) | (refine opk 9 rfl ?_; first | (refine ost_boxq H rfl ?_; clear H; intro bk wk H) | (refine ost_allocA H rfl ?_; clear H; intro bk wk H))) | refine Wc.seq ?_ | refine then_n ?_ | refine WL.nil ?_ | refine Wc.region ?_ | refine Wc.block ?_ | refine then_r ?_ | refine then_e ?_ | refine inb_e rfl ?_ | refine inb_o rfl ?_ | refine inb_n ?_ | refine inb_r ?_ | refine Wc.skip ?_ | refine Wc.exit ?_ | refine Wc.ret ?_ | refine Wc.cond_true rfl ?_ | refine Wc.cond_false rfl ?_ | (refine Wc.drawn (id := 9) 23 (by kernel_rfl) ?_) | refine WL.skp rfl rfl ?_ | refine WL.sku rfl ?_ | (refine rgs_nil ?_; intro vs wk hE; replace H := H.ext hE; clear hE) | refine RGs.skp (fun _ => rfl) rfl ?_ | (refine RGs.bq (fun _ => rfl) rfl (by intro vs w hE hP; have H := H.ext hE; first | exact dbQ | fail) (fun hc => ?_) (fun hc => ?_) <;> ((try simp only [cmpP, decide_eq_true_eq, decide_eq_false_iff_not, dcd_iff, dcd_no] at hc); try exact prDQ)) | refine RGs.pq (fun _ => rfl) rfl (by intro vs w hE hP; have H := H.ext hE; first | exact dvQ | fail) ?_)
      all_goals first | (exfalso; omega) | exact fn_ret3 (v1 := .slice _ _ _) (v3 := .int _ _) rfl rfl (rv_cellA rfl rfl H.bI lQ) rfl ⟨_, _, (H.nilOwn 5 1).picks [0] rfl (by decide), rfl, none, 0, rfl, rfl⟩
    · obtain rfl := hq (fun h => hA (.inl h)) (fun h => hA (.inr h))
      repeat' (first | ((first | refine WL.p rfl ?_ | refine WL.u ?_ | refine WL.g rfl rfl ?_ | refine WL.gu rfl ?_); first | (refine opk 1 rfl ?_; (refine ost_V H rfl (hri _ H.sat) rfl ?_; clear H; intro wk H)) | (refine opk 9 rfl ?_; (refine ost_buildS rfl evP_nil rfl (rfl : _ = [_, _, _, _]) ?_)) | refine pvQ ?_ | (refine opk 3 rfl ?_; (refine ost_cmp rfl rfl rfl rfl (fun hc => ?_) (fun hc => ?_) <;> (simp only [cmpP] at hc; try exact prIQ))) | (refine opk 4 rfl ?_; (refine ost_cmp rfl rfl rfl rfl (fun hc => ?_) (fun hc => ?_) <;> (simp only [cmpP] at hc; try exact prIQ))) | (refine opk 8 rfl ?_; (refine ost_storeW H rfl rfl rfl rfl lQ ixQ lQ okQ ?_; clear H; intro wk H; simp only [List.set_cons_zero, List.set_cons_succ, Nat.reduceAdd] at H)) | (refine opk 9 rfl ?_; first | (refine ost_boxq H rfl ?_; clear H; intro bk wk H) | (refine ost_allocA H rfl ?_; clear H; intro bk wk H))) | refine Wc.seq ?_ | refine then_n ?_ | refine WL.nil ?_ | refine Wc.region ?_ | refine Wc.block ?_ | refine then_r ?_ | refine then_e ?_ | refine inb_e rfl ?_ | refine inb_o rfl ?_ | refine inb_n ?_ | refine inb_r ?_ | refine Wc.skip ?_ | refine Wc.exit ?_ | refine Wc.ret ?_ | refine Wc.cond_true rfl ?_ | refine Wc.cond_false rfl ?_ | (refine Wc.drawn (id := 9) 23 (by kernel_rfl) ?_) | refine WL.skp rfl rfl ?_ | refine WL.sku rfl ?_ | (refine rgs_nil ?_; intro vs wk hE; replace H := H.ext hE; clear hE) | refine RGs.skp (fun _ => rfl) rfl ?_ | (refine RGs.bq (fun _ => rfl) rfl (by intro vs w hE hP; have H := H.ext hE; first | exact dbQ | fail) (fun hc => ?_) (fun hc => ?_) <;> ((try simp only [cmpP, decide_eq_true_eq, decide_eq_false_iff_not, dcd_iff, dcd_no] at hc); try exact prDQ)) | refine RGs.pq (fun _ => rfl) rfl (by intro vs w hE hP; have H := H.ext hE; first | exact dvQ | fail) ?_)
      all_goals first | (exfalso; omega) | exact fn_ret3 (v1 := .slice _ _ _) (v3 := .int _ _) rfl rfl (rv_cellA rfl rfl H.bI lQ) rfl ⟨_, _, (H.nilOwn 5 1).picks [0] rfl (by decide), rfl, none, 0, rfl, rfl⟩
  · have hri : ∀ w, Sat h0 w → SpecV Tryd.prog 21 #[.slice al l.length cl] w (.bool true) := fun w hs => by
      have := ro_rise h0 w hs al cl l hN
      have e : riseL l = true := by cases h : riseL l with | true => rfl | false => exact absurd (.inr (.inr h)) hbad
      rw [e] at this; exact this
    have hb0 : 0 ≤ base := by omega
    have hb1 : base ≤ 1073741824 := by omega
    by_cases hbig : 4096 < l.length
    · have hD : dumpM l ver base = ([], zeroS, 3) := by unfold dumpM; rw [if_neg hbad, if_pos hbig]
      rw [hD]
      repeat' (first | ((first | refine WL.p rfl ?_ | refine WL.u ?_ | refine WL.g rfl rfl ?_ | refine WL.gu rfl ?_); first | (refine opk 1 rfl ?_; (refine ost_V H rfl (hri _ H.sat) rfl ?_; clear H; intro wk H)) | (refine opk 9 rfl ?_; (refine ost_buildS rfl evP_nil rfl (rfl : _ = [_, _, _, _]) ?_)) | refine pvQ ?_ | (refine opk 3 rfl ?_; (refine ost_cmp rfl rfl rfl rfl (fun hc => ?_) (fun hc => ?_) <;> (simp only [cmpP] at hc; try exact prIQ))) | (refine opk 4 rfl ?_; (refine ost_cmp rfl rfl rfl rfl (fun hc => ?_) (fun hc => ?_) <;> (simp only [cmpP] at hc; try exact prIQ))) | (refine opk 8 rfl ?_; (refine ost_storeW H rfl rfl rfl rfl lQ ixQ lQ okQ ?_; clear H; intro wk H; simp only [List.set_cons_zero, List.set_cons_succ, Nat.reduceAdd] at H)) | (refine opk 9 rfl ?_; first | (refine ost_boxq H rfl ?_; clear H; intro bk wk H) | (refine ost_allocA H rfl ?_; clear H; intro bk wk H))) | refine Wc.seq ?_ | refine then_n ?_ | refine WL.nil ?_ | refine Wc.region ?_ | refine Wc.block ?_ | refine then_r ?_ | refine then_e ?_ | refine inb_e rfl ?_ | refine inb_o rfl ?_ | refine inb_n ?_ | refine inb_r ?_ | refine Wc.skip ?_ | refine Wc.exit ?_ | refine Wc.ret ?_ | refine Wc.cond_true rfl ?_ | refine Wc.cond_false rfl ?_ | (refine Wc.drawn (id := 9) 23 (by kernel_rfl) ?_) | refine WL.skp rfl rfl ?_ | refine WL.sku rfl ?_ | (refine rgs_nil ?_; intro vs wk hE; replace H := H.ext hE; clear hE) | refine RGs.skp (fun _ => rfl) rfl ?_ | (refine RGs.bq (fun _ => rfl) rfl (by intro vs w hE hP; have H := H.ext hE; first | exact dbQ | fail) (fun hc => ?_) (fun hc => ?_) <;> ((try simp only [cmpP, decide_eq_true_eq, decide_eq_false_iff_not, dcd_iff, dcd_no] at hc); try exact prDQ)) | refine RGs.pq (fun _ => rfl) rfl (by intro vs w hE hP; have H := H.ext hE; first | exact dvQ | fail) ?_)
      all_goals first | (exfalso; omega) | exact fn_ret3 (v1 := .slice _ _ _) (v3 := .int _ _) rfl rfl (rv_cellA rfl rfl H.bI lQ) rfl ⟨_, _, (H.nilOwn 5 1).picks [0] rfl (by decide), rfl, none, 0, rfl, rfl⟩
    · have hD : dumpM l ver base = ((upL l base.toNat).1, ⟨ver, UInt32.ofNat ((upL l base.toNat).2.headD (zeroK, 0)).2, UInt32.ofNat (base.toNat + (upL l base.toNat).1.length), UInt32.ofNat l.length⟩, 0) := by unfold dumpM; rw [if_neg hbad, if_neg hbig]
      rw [hD]
      clear hD
      obtain ⟨b, rfl⟩ : ∃ b : Nat, base = b := ⟨base.toNat, by omega⟩
      rw [Int.toNat_natCast]
      have hbb : b ≤ 1073741824 := by omega
      repeat' (first | ((first | refine WL.p rfl ?_ | refine WL.u ?_ | refine WL.g rfl rfl ?_ | refine WL.gu rfl ?_); first | (refine opk 1 rfl ?_; (refine ost_V H rfl (hri _ H.sat) rfl ?_; clear H; intro wk H)) | (refine opk 9 rfl ?_; first | (refine ost_buildS rfl evP_nil rfl (rfl : _ = [_, _, _, _]) ?_) | (refine ost_buildS rfl (evP1 (rfl : _ = Value.int _ _)) rfl (rfl : _ = [_, _]) ?_)) | refine pvQ ?_ | (refine opk 3 rfl ?_; (refine ost_cmp rfl rfl rfl rfl (fun hc => ?_) (fun hc => ?_) <;> (simp only [cmpP] at hc; try exact prIQ))) | (refine opk 4 rfl ?_; (refine ost_cmp rfl rfl rfl rfl (fun hc => ?_) (fun hc => ?_) <;> (simp only [cmpP] at hc; try exact prIQ))) | (refine opk 8 rfl ?_; (refine ost_storeW H rfl rfl rfl rfl lQ ixQ lQ okQ ?_; clear H; intro wk H; simp only [List.set_cons_zero, List.set_cons_succ, Nat.reduceAdd] at H)) | (refine opk 9 rfl ?_; first | (refine ost_boxq H rfl ?_; clear H; intro bk wk H) | (refine ost_allocA H rfl ?_; clear H; intro bk wk H))) | refine Wc.seq ?_ | refine then_n ?_ | refine WL.nil ?_ | refine Wc.region ?_ | refine Wc.block ?_ | refine then_r ?_ | refine then_e ?_ | refine inb_e rfl ?_ | refine inb_o rfl ?_ | refine inb_n ?_ | refine inb_r ?_ | refine Wc.skip ?_ | refine Wc.exit ?_ | refine Wc.ret ?_ | refine Wc.cond_true rfl ?_ | refine Wc.cond_false rfl ?_ | (refine Wc.drawn (id := 9) 23 (by kernel_rfl) ?_) | refine WL.skp rfl rfl ?_ | refine WL.sku rfl ?_ | (refine rgs_nil ?_; intro vs wk hE; replace H := H.ext hE; clear hE) | refine RGs.skp (fun _ => rfl) rfl ?_ | (refine RGs.bq (fun _ => rfl) rfl (by intro vs w hE hP; have H := H.ext hE; first | exact dbQ | fail) (fun hc => ?_) (fun hc => ?_) <;> ((try simp only [cmpP, decide_eq_true_eq, decide_eq_false_iff_not, dcd_iff, dcd_no] at hc); try exact prDQ)) | refine RGs.pq (fun _ => rfl) rfl (by intro vs w hE hP; have H := H.ext hE; first | exact dvQ | fail) ?_)
      obtain ⟨wb, ewb⟩ := H.nameB idx0
      subst ewb
      obtain ⟨b7, eb7⟩ := H.nameB idx1
      subst eb7
      replace H : St w [] h0 h0 [wrt wb none 0 [] b, .blk b7 (.cells (cSlot zeroS).toArray 28 (0, 0))] _ := ((H.nilOwn 5 1).picks (L' := [.blk wb _, _, _]) [1, 0, 2] rfl (by decide)).join
      have hlv := fun w HO => ro_leaves wb none 0 [] b al cl l (by simp) hbb (by omega) h0 w hT hN HO
      rw [show b + ([] : List UInt8).length = b from rfl, List.nil_append] at hlv
      repeat' (first | ((first | refine WL.p rfl ?_ | refine WL.u ?_ | refine WL.g rfl rfl ?_ | refine WL.gu rfl ?_); first | (refine opk 1 rfl ?_; (refine ost_H (A := wrt _ _ _ _ _) H rfl (by (exact ixQ)) (fun HO => hlv _ HO) rfl ?_; clear H; rintro vk wk hfk Lk ⟨hle0, a1, c1, ao, co, rfl, rfl⟩ hle H; simp only [List.cons_append, List.nil_append, List.eraseIdx_cons_zero, List.eraseIdx_cons_succ] at H)) | refine pvQ ?_ | (refine opk 3 rfl ?_; (refine ost_cmp rfl rfl rfl rfl (fun hc => ?_) (fun hc => ?_) <;> (simp only [cmpP] at hc; try exact prIQ))) | (refine opk 4 rfl ?_; (refine ost_cmp rfl rfl rfl rfl (fun hc => ?_) (fun hc => ?_) <;> (simp only [cmpP] at hc; try exact prIQ))) | (refine opk 8 rfl ?_; (refine ost_storeW H rfl rfl rfl rfl lQ ixQ lQ okQ ?_; clear H; intro wk H; simp only [List.set_cons_zero, List.set_cons_succ, Nat.reduceAdd] at H)) | (refine opk 9 rfl ?_; first | (refine ost_boxq H rfl ?_; clear H; intro bk wk H) | (refine ost_allocA H rfl ?_; clear H; intro bk wk H))) | refine Wc.seq ?_ | refine then_n ?_ | refine WL.nil ?_ | refine Wc.region ?_ | refine Wc.block ?_ | refine then_r ?_ | refine then_e ?_ | refine inb_e rfl ?_ | refine inb_o rfl ?_ | refine inb_n ?_ | refine inb_r ?_ | refine Wc.skip ?_ | refine Wc.exit ?_ | refine Wc.ret ?_ | refine Wc.cond_true rfl ?_ | refine Wc.cond_false rfl ?_ | (refine Wc.drawn (id := 9) 23 (by kernel_rfl) ?_) | refine WL.skp rfl rfl ?_ | refine WL.sku rfl ?_ | (refine rgs_nil ?_; intro vs wk hE; replace H := H.ext hE; clear hE) | refine RGs.skp (fun _ => rfl) rfl ?_ | (refine RGs.bq (fun _ => rfl) rfl (by intro vs w hE hP; have H := H.ext hE; first | exact dbQ | fail) (fun hc => ?_) (fun hc => ?_) <;> ((try simp only [cmpP, decide_eq_true_eq, decide_eq_false_iff_not, dcd_iff, dcd_no] at hc); try exact prDQ)) | refine RGs.pq (fun _ => rfl) rfl (by intro vs w hE hP; have H := H.ext hE; first | exact dvQ | fail) ?_)
      obtain ⟨ao2, co2, h7, e7, hle7, hP7, H⟩ := H.freezeR (rows_len4 _)
      injection e7 with e71 e72 e73
      subst e71; subst e73
      have hpl := placesP_len b (leafPs l)
      have hll := leafPs_len l
      have hbl := bytesP_len (leafPs l)
      have hup : upG b (bytesP (leafPs l)) (placesP b (leafPs l)) = upL l b := rfl
      refine Wc.loopE (fun s0 m s w' => ∃ (pls : List PlT) (xs : List UInt8) (ao : Option Addr) (co : Nat) (a1 : Option Addr) (c1 : Nat) (h7 : FH), m = pls.length ∧ FLe h0 h7 ∧ Agree [10, 35, 36, 37, 38, 39, 40] s s0 ∧ s 10 = .slice ao pls.length co ∧ Sl h7 4 ao co (pls.map cPl) ∧ 1 ≤ pls.length ∧ pls.length ≤ 4097 ∧ upG b xs pls = upL l b ∧ xs.length + 1000 * pls.length ≤ 7000000 ∧
        St w [] h0 h7 [wrt wb a1 c1 xs b, .blk b7 (.cells (cSlot zeroS).toArray 28 (0, 0))] w') _ ⟨_, _, _, _, _, _, _, rfl, hle0.trans hle7, Agree.refl _ _, rfl, hP7, by omega, by omega, hup, by omega, H⟩ ?_
      clear H hP7 hup hbl hpl hlv
      rintro m s w' ⟨pls, xs, ao, co, a1, c1, h7, rfl, hle7, hA, e1, hP7, hp1, hp2, hup, hbd, H⟩
      obtain ⟨j, rfl⟩ := hA.env1 e1
      clear hA e1
      have hT7 := hT.mono hle7
      by_cases hlt : 1 < pls.length
      · rw [upG_step hlt] at hup
        have hab := fun w HO => ro_above wb a1 c1 xs b ao co pls (by omega) hbb (by omega) h7 w hT7 hP7 HO
        have hpl := placesP_len (b + xs.length) (nodePs pls)
        have hnl := nodePs_len pls
        have hbl := bytesP_len (nodePs pls)
        generalize nodePs pls = NP at *
        repeat' (first | ((first | refine WL.p rfl ?_ | refine WL.u ?_ | refine WL.g rfl rfl ?_ | refine WL.gu rfl ?_); first | (refine opk 1 rfl ?_; (refine ost_H (A := wrt _ _ _ _ _) H rfl (by (exact ixQ)) (fun HO => hab _ HO) rfl ?_; clear H; rintro vk wk hfk Lk ⟨hle8, a2, c2, ao2, co2, rfl, rfl⟩ hle H; simp only [List.cons_append, List.nil_append, List.eraseIdx_cons_zero, List.eraseIdx_cons_succ] at H)) | refine pvQ ?_ | (refine opk 3 rfl ?_; (refine ost_cmp rfl rfl rfl rfl (fun hc => ?_) (fun hc => ?_) <;> (simp only [cmpP] at hc; try exact prIQ))) | (refine opk 4 rfl ?_; (refine ost_cmp rfl rfl rfl rfl (fun hc => ?_) (fun hc => ?_) <;> (simp only [cmpP] at hc; try exact prIQ))) | (refine opk 8 rfl ?_; (refine ost_storeW H rfl rfl rfl rfl lQ ixQ lQ okQ ?_; clear H; intro wk H; simp only [List.set_cons_zero, List.set_cons_succ, Nat.reduceAdd] at H)) | (refine opk 9 rfl ?_; first | (refine ost_boxq H rfl ?_; clear H; intro bk wk H) | (refine ost_allocA H rfl ?_; clear H; intro bk wk H))) | refine Wc.seq ?_ | refine then_n ?_ | refine WL.nil ?_ | refine Wc.region ?_ | refine Wc.block ?_ | refine then_r ?_ | refine then_e ?_ | refine inb_e rfl ?_ | refine inb_o rfl ?_ | refine inb_n ?_ | refine inb_r ?_ | refine Wc.skip ?_ | refine Wc.exit ?_ | refine Wc.ret ?_ | refine Wc.cond_true rfl ?_ | refine Wc.cond_false rfl ?_ | (refine Wc.drawn (id := 9) 23 (by kernel_rfl) ?_) | refine WL.skp rfl rfl ?_ | refine WL.sku rfl ?_ | (refine rgs_nil ?_; intro vs wk hE; replace H := H.ext hE; clear hE) | refine RGs.skp (fun _ => rfl) rfl ?_ | (refine RGs.bq (fun _ => rfl) rfl (by intro vs w hE hP; have H := H.ext hE; first | exact dbQ | fail) (fun hc => ?_) (fun hc => ?_) <;> ((try simp only [cmpP, decide_eq_true_eq, decide_eq_false_iff_not, dcd_iff, dcd_no] at hc); try exact prDQ)) | refine RGs.pq (fun _ => rfl) rfl (by intro vs w hE hP; have H := H.ext hE; first | exact dvQ | fail) ?_)
        obtain ⟨ao3, co3, h8, e8, hle9, hP8, H⟩ := H.freezeR (rows_len4 _)
        injection e8 with e81 e82 e83
        subst e81; subst e83
        unfold chN at hnl
        exact ⟨_, by omega, placesP (b + xs.length) NP, xs ++ bytesP NP, _, _, _, _, h8, rfl, (hle7.trans hle8).trans hle9, by (repeat' (first | exact Agree.refl _ _ | exact Agree.havoc | refine Agree.upd rfl ?_ | refine Agree.hav2 rfl ?_)), rfl, hP8, by omega, by omega, hup, by rw [List.length_append]; omega, H⟩
      · rw [upG_end hlt] at hup
        rw [← hup]
        obtain ⟨y, rfl⟩ : ∃ y, pls = [y] := by
          match pls, hp1, hlt with
          | [y], _, _ => exact ⟨y, rfl⟩
          | y :: z :: t, _, h => exact absurd (by simp) h
        obtain ⟨bq, off, L9, T, fr, e2, eb, eg⟩ := hP7.getM (by decide) (by simp)
        subst e2
        have g1 : L9[off + (0 : Int).toNat * 4 + 3]? = some (.int .i64 (y.2 : Int)) := row_cell (eg (0 : Int).toNat 0 (by simp) rfl) (q := 3) (by simp [cPl_len])
        replace H := H.split
        have hb4 : l.length ≤ 4096 := by omega
        have hb5 : xs.length ≤ 7000000 := by omega
        have hS : [Value.int .u64 ver.toNat, .int .u32 (IntKind.u32.wrap (y.2 : Int)), .int .u32 ((b : Int) + (xs.length : Int)), .int .u32 (l.length : Int)] = cSlot ⟨ver, UInt32.ofNat y.2, UInt32.ofNat (b + xs.length), UInt32.ofNat l.length⟩ := by
          unfold cSlot
          rw [u32_1]
          congr 3
          · congr 1; simp; omega
          · congr 2; simp; omega
        have lS := cSlot_len ⟨ver, UInt32.ofNat y.2, UInt32.ofNat (b + xs.length), UInt32.ofNat l.length⟩
        repeat' (first | ((first | refine WL.p rfl ?_ | refine WL.u ?_ | refine WL.g rfl rfl ?_ | refine WL.gu rfl ?_); first | refine pvQ ?_ | (refine opk 3 rfl ?_; (refine ost_cmp rfl rfl rfl rfl (fun hc => ?_) (fun hc => ?_) <;> (simp only [cmpP] at hc; try exact prIQ))) | (refine opk 4 rfl ?_; (refine ost_cmp rfl rfl rfl rfl (fun hc => ?_) (fun hc => ?_) <;> (simp only [cmpP] at hc; try exact prIQ))) | (refine opk 8 rfl ?_; (refine ost_storeW H rfl rfl rfl rfl lQ ixQ lQ okQ ?_; clear H; intro wk H; simp only [List.set_cons_zero, List.set_cons_succ, Nat.reduceAdd] at H)) | (refine opk 9 rfl ?_; first | (refine ost_boxq H rfl ?_; clear H; intro bk wk H) | (refine ost_allocA H rfl ?_; clear H; intro bk wk H))) | refine Wc.seq ?_ | refine then_n ?_ | refine WL.nil ?_ | refine Wc.region ?_ | refine Wc.block ?_ | refine then_r ?_ | refine then_e ?_ | refine inb_e rfl ?_ | refine inb_o rfl ?_ | refine inb_n ?_ | refine inb_r ?_ | refine Wc.skip ?_ | refine Wc.exit ?_ | refine Wc.ret ?_ | refine Wc.cond_true rfl ?_ | refine Wc.cond_false rfl ?_ | (refine Wc.drawn (id := 9) 23 (by kernel_rfl) ?_) | refine WL.skp rfl rfl ?_ | refine WL.sku rfl ?_ | (refine rgs_nil ?_; intro vs wk hE; replace H := H.ext hE; clear hE) | refine RGs.skp (fun _ => rfl) rfl ?_ | (refine RGs.bq (fun _ => rfl) rfl (by intro vs w hE hP; have H := H.ext hE; first | exact dbQ | fail) (fun hc => ?_) (fun hc => ?_) <;> ((try simp only [cmpP, decide_eq_true_eq, decide_eq_false_iff_not, dcd_iff, dcd_no] at hc); try exact prDQ)) | refine RGs.pq (fun _ => rfl) rfl (by intro vs w hE hP; have H := H.ext hE; first | exact dvQ | fail) ?_)
        rw [hS] at H
        exact fn_ret3 (v1 := .slice _ _ _) (v3 := .int _ _) rfl rfl (rv_cellA rfl rfl H.bI lQ) rfl ⟨h0, _, (H.forget hle7 fun _ _ _ => rfl).picks (L' := [_]) [1] rfl (by decide), rfl, _, _, rfl, rfl⟩
end Go.Tg

set_option linter.unusedVariables false
set_option linter.unusedSimpArgs false
set_option maxRecDepth 100000
set_option maxHeartbeats 4000000
namespace Go.Tg
open Go Go.Proofs
theorem leafPs_eq (l : List ItemT) : leafPs l = (List.range (max 1 (chN l.length))).map fun k => leafP (partK l k) := by
  unfold leafPs
  split
  · rename_i h; subst h; rfl
  · rename_i h
    have := List.length_pos_iff.2 h
    rw [show max 1 (chN l.length) = chN l.length by unfold chN; omega]
theorem partK_get {α : Type} (l : List α) (k q : Nat) (h : q < (partK l k).length) : ∃ h2 : 8 * k + q < l.length, l[8 * k + q] = (partK l k)[q] := by
  have h1 := partK_len l k
  have h2 : 8 * k + q < l.length := by unfold chL at h1; omega
  refine ⟨h2, ?_⟩
  have : (partK l k)[q]? = l[8 * k + q]? := by
    unfold partK
    rw [List.getElem?_take, if_pos (by rw [h1] at h; unfold chL at h; omega), List.getElem?_drop]
  rw [List.getElem?_eq_getElem h, List.getElem?_eq_getElem h2] at this
  exact (Option.some.inj this).symm
theorem range_map_succ {α : Type} (f : Nat → α) (k : Nat) : (List.range (k + 1)).map f = (List.range k).map f ++ [f k] := by
  rw [List.range_succ, List.map_append]; rfl
set_option maxHeartbeats 8000000 in
theorem r15_leaves (h0 : FH) (w : World) (hs : Sat h0 w) (base : Nat) (al : Option Addr) (cl : Nat) (l : List ItemT) (hb : base ≤ 1100000000) (hl : l.length ≤ 65536) (hN : Sl h0 5 al cl (l.map cItem)) :
    Spec Tryd.prog 25 #[.slice al l.length cl, .int .i64 base] w [] h0 (fun v h' L' => FLe h0 h' ∧ ∃ a c ao co, v = .tuple #[.slice a (bytesP (leafPs l)).length c, .slice ao (placesP base (leafPs l)).length co] ∧ L' = [own8 (.slice a (bytesP (leafPs l)).length c) 5 (bytesP (leafPs l)), ownR (.slice ao (placesP base (leafPs l)).length co) 91 4 ((placesP base (leafPs l)).map cPl)]) := by
  have H := St.start hs
  have q1 := hN.lenM
  unfold Spec
  refine calls_of Tryd.func25 rfl Tryd.ntmps25 (by simp) ?_
  repeat' (first | ((first | refine WL.p rfl ?_ | refine WL.u ?_ | refine WL.g rfl rfl ?_ | refine WL.gu rfl ?_); first | refine pvQ ?_ | (refine opk 3 rfl ?_; (refine ost_cmp rfl rfl rfl rfl (fun hc => ?_) (fun hc => ?_) <;> (simp only [cmpP] at hc; try exact prIQ))) | (refine opk 4 rfl ?_; (refine ost_cmp rfl rfl rfl rfl (fun hc => ?_) (fun hc => ?_) <;> (simp only [cmpP] at hc; try exact prIQ))) | (refine opk 8 rfl ?_; first | (refine ost_store1 H rfl rfl vlQ gvQ ixQ (by first | decide | (simp; omega) | (simp; done) | omega) ?_; clear H; intro wk H; simp only [List.set_cons_zero, List.set_cons_succ, Nat.reduceAdd] at H) | (refine ost_storeW H rfl rfl rfl rfl lQ ixQ lQ okQ ?_; clear H; intro wk H; simp only [List.set_cons_zero, List.set_cons_succ, Nat.reduceAdd] at H)) | (refine opk 9 rfl ?_; first | (refine ost_allocA H rfl ?_; clear H; intro bk wk H) | (refine ost_build1 H rfl rfl rfl evQ lsQ rfl ?_; clear H; intro bk wk H))) | refine Wc.seq ?_ | refine then_n ?_ | refine WL.nil ?_ | refine Wc.region ?_ | refine Wc.block ?_ | refine then_r ?_ | refine then_e ?_ | refine inb_e rfl ?_ | refine inb_o rfl ?_ | refine inb_n ?_ | refine inb_r ?_ | refine Wc.skip ?_ | refine Wc.exit ?_ | refine Wc.ret ?_ | refine Wc.cond_true rfl ?_ | refine Wc.cond_false rfl ?_ | refine WL.skp rfl rfl ?_ | refine WL.sku rfl ?_)
  obtain ⟨N, hN9⟩ : ∃ N, N = max 1 (chN l.length) := ⟨_, rfl⟩
  have hNl : l.length ≤ 8 * N ∧ 1 ≤ N ∧ N ≤ 10000 := by unfold chN at hN9; omega
  have hNc : ∀ k, k ≤ N → ((k = 0 ∨ 8 * k < l.length) ↔ k < N) := fun k hk => by unfold chN at hN9; omega
  have hPs := leafPs_eq l
  rw [← hN9] at hPs
  obtain ⟨pg, hpg⟩ : ∃ pg : Nat → PageT, pg = fun k => leafP (partK l k) := ⟨_, rfl⟩
  rw [← hpg] at hPs
  replace H : St w [] h0 h0 [own8 (.slice none (bytesP ((List.range 0).map pg)).length 0) 5 (bytesP ((List.range 0).map pg)), ownR (.slice none ((placesP base ((List.range 0).map pg)).map cPl).length 0) 91 4 ((placesP base ((List.range 0).map pg)).map cPl)] w := (H.nilOwn 91 4).nilOwn 5 1
  refine Wc.loopE (fun s0 m s w' => ∃ (k : Nat) (a : Option Addr) (c : Nat) (ao : Option Addr) (co : Nat) (h1 : FH), m = N - k ∧ k ≤ N ∧ FLe h0 h1 ∧ Agree [6, 7, 8, 9, 10, 11, 12, 13, 14, 15, 16, 17, 18, 19, 20, 21, 22, 23, 24, 25, 26, 27, 28, 29, 30, 31, 32, 33, 34, 35, 36, 37, 38, 39, 40, 41, 42, 43, 44, 45, 46, 47, 48, 49, 50, 51, 52, 53, 54, 55, 56, 57, 58, 59, 60, 61, 62, 63, 64, 65, 66, 67, 68, 69, 70, 71, 72, 73, 74, 75, 76, 77, 78, 79, 80, 81, 82, 83] s s0 ∧ s 6 = .slice a (bytesP ((List.range k).map pg)).length c ∧ s 7 = .slice ao ((placesP base ((List.range k).map pg)).map cPl).length co ∧ s 8 = .int .i64 ((8 * k : Nat) : Int) ∧
    St w [] h0 h1 [own8 (.slice a (bytesP ((List.range k).map pg)).length c) 5 (bytesP ((List.range k).map pg)), ownR (.slice ao ((placesP base ((List.range k).map pg)).map cPl).length co) 91 4 ((placesP base ((List.range k).map pg)).map cPl)] w') N ⟨0, _, _, _, _, h0, rfl, by omega, FLe.refl _, Agree.refl _ _, rfl, rfl, rfl, H⟩ ?_
  clear H
  rintro m s w' ⟨k, a, c, ao, co, h1, rfl, hk, hle1, hA, e6, e7, e8, H⟩
  obtain ⟨j, rfl⟩ := hA.env3 e6 e7 e8
  clear hA e6 e7 e8
  have hBL := bytesP_len ((List.range k).map pg)
  rw [List.length_map, List.length_range] at hBL
  have hPL := placesP_len base ((List.range k).map pg)
  rw [List.length_map, List.length_range] at hPL
  by_cases hlt : k < N
  · have hor := (hNc k hk).2 hlt
    have hsn := placesP_snoc base ((List.range k).map pg) (pg k)
    have hsb := bytesP_snoc ((List.range k).map pg) (pg k)
    rw [← range_map_succ] at hsn hsb
    have hpk : pg k = leafP (partK l k) := by rw [hpg]
    rw [hpk] at hsn hsb
    have hpl := partK_len l k
    have hgt := partK_get l k
    have hch : (partK l k).length ≤ 8 ∧ (∀ q, q ≤ (partK l k).length → ((8 * k + q < l.length ∧ q < 8) ↔ q < (partK l k).length)) := by
      rw [hpl]; unfold chL; exact ⟨by omega, fun q hq => by omega⟩
    generalize hRR : placesP base ((List.range k).map pg) = RR at H hPL hsn ⊢
    generalize hBB : bytesP ((List.range k).map pg) = BB at H hBL hsn hsb ⊢
    clear hRR hBB hpl
    generalize partK l k = its at *
    have hRl : (RR.map cPl).length = RR.length := List.length_map ..
    have hwk : (8 * k = 0 ∨ 8 * k < l.length) := by omega
    repeat' (first | ((first | refine WL.p rfl ?_ | refine WL.u ?_ | refine WL.g rfl rfl ?_ | refine WL.gu rfl ?_); first | (refine opk 9 rfl ?_; (refine ost_buildS rfl (evP_cons (rfl : _ = Value.bool _) evP_nil) rfl (rfl : _ = [_, _, _, _]) ?_)) | refine pvQ ?_ | (refine opk 3 rfl ?_; (refine ost_cmp rfl rfl rfl rfl (fun hc => ?_) (fun hc => ?_) <;> (simp only [cmpP] at hc; try exact prIQ))) | (refine opk 4 rfl ?_; (refine ost_cmp rfl rfl rfl rfl (fun hc => ?_) (fun hc => ?_) <;> (simp only [cmpP] at hc; try exact prIQ))) | (refine opk 8 rfl ?_; first | (refine ost_store1 H rfl rfl vlQ gvQ ixQ (by first | decide | (simp; omega) | (simp; done) | omega) ?_; clear H; intro wk H; simp only [List.set_cons_zero, List.set_cons_succ, Nat.reduceAdd] at H) | (refine ost_storeW H rfl rfl rfl rfl lQ ixQ lQ okQ ?_; clear H; intro wk H; simp only [List.set_cons_zero, List.set_cons_succ, Nat.reduceAdd] at H)) | (refine opk 9 rfl ?_; first | (refine ost_allocA H rfl ?_; clear H; intro bk wk H) | (refine ost_build1 H rfl rfl rfl evQ lsQ rfl ?_; clear H; intro bk wk H))) | refine Wc.seq ?_ | refine then_n ?_ | refine WL.nil ?_ | refine Wc.region ?_ | refine Wc.block ?_ | refine then_r ?_ | refine then_e ?_ | refine inb_e rfl ?_ | refine inb_o rfl ?_ | refine inb_n ?_ | refine inb_r ?_ | refine Wc.skip ?_ | refine Wc.exit ?_ | refine Wc.ret ?_ | refine Wc.cond_true rfl ?_ | refine Wc.cond_false rfl ?_ | refine WL.skp rfl rfl ?_ | refine WL.sku rfl ?_)
    all_goals (
      clear hc
      obtain ⟨bp, ebp⟩ := H.nameB idx0
      subst ebp
      replace H : St w [] h0 h1 [ownR (.slice none ((its.take 0).map fun i => cKey i.key).length 0) 80 3 ((its.take 0).map fun i => cKey i.key), ownR (.slice none ((its.take 0).map fun i => cLoc i.loc).length 0) 81 2 ((its.take 0).map fun i => cLoc i.loc), .blk bp (.cells [Value.bool true, .slice none 0 0, .slice none 0 0, .slice none 0 0].toArray 134 (0, 0)),
        own8 (.slice a BB.length c) 5 BB, ownR (.slice ao (RR.map cPl).length co) 91 4 (RR.map cPl)] _ := (H.nilOwn 81 2).nilOwn 80 3
      refine Wc.loopE (fun s0 m s w' => ∃ (q : Nat) (ak : Option Addr) (ck : Nat) (aq : Option Addr) (cq : Nat), m = its.length - q ∧ q ≤ its.length ∧ Agree [10, 11, 12, 28, 29, 30, 31, 32, 33, 34, 35, 36, 37, 38, 39, 40, 41, 42, 43, 44, 45, 46, 47, 48, 49, 50, 51, 52, 53, 54, 55] s s0 ∧ s 10 = .slice ak ((its.take q).map fun i => cKey i.key).length ck ∧ s 11 = .slice aq ((its.take q).map fun i => cLoc i.loc).length cq ∧ s 12 = .int .i64 ((8 * k + q : Nat) : Int) ∧
        St w [] h0 h1 [ownR (.slice ak ((its.take q).map fun i => cKey i.key).length ck) 80 3 ((its.take q).map fun i => cKey i.key), ownR (.slice aq ((its.take q).map fun i => cLoc i.loc).length cq) 81 2 ((its.take q).map fun i => cLoc i.loc), .blk bp (.cells [Value.bool true, .slice none 0 0, .slice none 0 0, .slice none 0 0].toArray 134 (0, 0)),
          own8 (.slice a BB.length c) 5 BB, ownR (.slice ao (RR.map cPl).length co) 91 4 (RR.map cPl)] w') its.length ⟨0, _, _, _, _, rfl, by omega, Agree.refl _ _, rfl, rfl, rfl, H⟩ ?_
      clear H
      rintro m s w' ⟨q, ak, ck, aq, cq, rfl, hq, hA, e1, e2, e3, H⟩
      obtain ⟨j, rfl⟩ := hA.env3 e1 e2 e3
      clear hA e1 e2 e3
      have hKl : ((its.take q).map fun i => cKey i.key).length = q := by simp; omega
      have hQl : ((its.take q).map fun i => cLoc i.loc).length = q := by simp; omega
      have hcq := hch.2 q hq
      by_cases hlq : q < its.length
      · obtain ⟨h2, hy⟩ := hgt q hlq
        obtain ⟨b, off, L9, T, fr, e2, eb, eg⟩ := (hN.mono hle1).getM (by decide) (Nat.lt_of_le_of_lt (Nat.zero_le _) h2)
        have hcq2 := hcq.2 hlq
        have g9 := eg ((8 * k + q : Nat) : Int).toNat (8 * k + q) h2 (by omega)
        rw [hy] at g9
        have hs1 := takeM_succ (fun i : ItemT => cKey i.key) its hlq
        have hs2 := takeM_succ (fun i : ItemT => cLoc i.loc) its hlq
        clear eg hy
        generalize its[q] = y at g9 hs1 hs2
        have g1 : (L9.drop (off + ((8 * k + q : Nat) : Int).toNat * 5 + 0)).take 3 = cKey y.key := row_part g9 (q := 0) (n := 3) (by omega)
        have g2 : (L9.drop (off + ((8 * k + q : Nat) : Int).toNat * 5 + 3)).take 2 = cLoc y.loc := row_part g9 (q := 3) (n := 2) (by omega)
        have l1 := cKey_len y.key
        have l2 := cLoc_len y.loc
        have o1 := allOne_of (cKey_one y.key)
        have o2 := allOne_of (cLoc_one y.loc)
        generalize ((its.take q).map fun i => cKey i.key) = KS at H hKl hs1 ⊢
        generalize ((its.take q).map fun i => cLoc i.loc) = QS at H hQl hs2 ⊢
        subst e2
        repeat' (first | ((first | refine WL.p rfl ?_ | refine WL.u ?_ | refine WL.g rfl rfl ?_ | refine WL.gu rfl ?_); first | (refine opk 1 rfl ?_; first | (refine ost_appR (rows := KS) (row := cKey y.key) H rfl rfl rfl (by (exact ixQ)) (by (exact ixQ)) (by rfl) (by first | simp; done | exact Nat.succ_pos _) rfl (allOne_of rfl) rfl (by omega) ?_; clear H; intro aa ca wk H; simp only [List.set_cons_zero, List.set_cons_succ] at H) | (refine ost_appR (rows := QS) (row := cLoc y.loc) H rfl rfl rfl (by (exact ixQ)) (by (exact ixQ)) (by rfl) (by first | simp; done | exact Nat.succ_pos _) rfl (allOne_of rfl) rfl (by omega) ?_; clear H; intro aa ca wk H; simp only [List.set_cons_zero, List.set_cons_succ] at H)) | (refine opk 9 rfl ?_; first | (refine ost_buildR (rows := [cKey y.key]) H rfl (by decide) rfl (by rfl) (evP1 vxQ) (.cons rfl .nil) rfl (fun r hr => by rw [List.mem_singleton.1 hr]; rfl) ?_; clear H; intro bk wk H) | (refine ost_buildR (rows := [cLoc y.loc]) H rfl (by decide) rfl (by rfl) (evP1 vxQ) (.cons rfl .nil) rfl (fun r hr => by rw [List.mem_singleton.1 hr]; rfl) ?_; clear H; intro bk wk H)) | refine pvQ ?_ | (refine opk 3 rfl ?_; (refine ost_cmp rfl rfl rfl rfl (fun hc => ?_) (fun hc => ?_) <;> (simp only [cmpP] at hc; try exact prIQ))) | (refine opk 4 rfl ?_; (refine ost_cmp rfl rfl rfl rfl (fun hc => ?_) (fun hc => ?_) <;> (simp only [cmpP] at hc; try exact prIQ))) | (refine opk 8 rfl ?_; first | (refine ost_store1 H rfl rfl vlQ gvQ ixQ (by first | decide | (simp; omega) | (simp; done) | omega) ?_; clear H; intro wk H; simp only [List.set_cons_zero, List.set_cons_succ, Nat.reduceAdd] at H) | (refine ost_storeW H rfl rfl rfl rfl lQ ixQ lQ okQ ?_; clear H; intro wk H; simp only [List.set_cons_zero, List.set_cons_succ, Nat.reduceAdd] at H)) | (refine opk 9 rfl ?_; first | (refine ost_allocA H rfl ?_; clear H; intro bk wk H) | (refine ost_build1 H rfl rfl rfl evQ lsQ rfl ?_; clear H; intro bk wk H))) | refine Wc.seq ?_ | refine then_n ?_ | refine WL.nil ?_ | refine Wc.region ?_ | refine Wc.block ?_ | refine then_r ?_ | refine then_e ?_ | refine inb_e rfl ?_ | refine inb_o rfl ?_ | refine inb_n ?_ | refine inb_r ?_ | refine Wc.skip ?_ | refine Wc.exit ?_ | refine Wc.ret ?_ | refine Wc.cond_true rfl ?_ | refine Wc.cond_false rfl ?_ | refine WL.skp rfl rfl ?_ | refine WL.sku rfl ?_)
        rw [← hs1, ← hs2] at H
        exact ⟨its.length - (q + 1), by omega, q + 1, _, _, _, _, rfl, by omega, by (repeat' (first | exact Agree.refl _ _ | exact Agree.havoc | refine Agree.upd rfl ?_ | refine Agree.hav2 rfl ?_)), by rw [hs1]; rfl, by rw [hs2]; rfl, by show Value.int _ _ = _; congr 1, H.picks [2, 3, 4, 5, 6] rfl (by decide)⟩
      · obtain rfl : q = its.length := by omega
        have hcq2 := fun h => hlq (hcq.1 h)
        have hm1 : (its.map fun i => cKey i.key) = (its.map (·.key)).map cKey := by rw [List.map_map]; rfl
        have hm2 : (its.map fun i => cLoc i.loc) = (its.map (·.loc)).map cLoc := by rw [List.map_map]; rfl
        rw [List.take_length, hm1, hm2] at H
        rw [List.take_length, hm1, hm2]
        clear hKl hQl hgt
        obtain ⟨ak2, ck2, h7, e7, hle7, hK7, H7⟩ := H.freezeR (rows_len3 (its.map (·.key)))
        clear H
        cases e7
        obtain ⟨aq2, cq2, h8, e8, hle8, hL8, H⟩ := H7.freezeR (rows_len2 (its.map (·.loc)))
        clear H7
        cases e8
        have hkL : ((its.map (·.key)).map cKey).length = its.length := by simp
        have hqL : ((its.map (·.loc)).map cLoc).length = its.length := by simp
        rw [hkL, hqL]
        have hle28 := hle7.trans hle8
        have hK8 := hK7.mono hle8
        have hP : PgR h8 (leafP its) ⟨ak, ck, aq, cq, none, 0⟩ := ⟨hK8, hL8, Sl.nil _ _⟩
        have hE := fun h w => r13_Encode (leafP its) ⟨ak, ck, aq, cq, none, 0⟩ h w
        have hpv : pgV (leafP its) ⟨ak, ck, aq, cq, none, 0⟩ = [Value.bool true, .slice ak its.length ck, .slice aq its.length cq, .slice none 0 0] := by simp [pgV, leafP]
        rw [hpv] at hE
        have hol := outP_len (leafP its)
        generalize outP (leafP its) = O at hE hol hsb
        have hk0 : its = [] ∨ ∃ x t, its = x :: t := by cases its <;> simp
        rcases hk0 with hk | ⟨x, t, hk⟩
        · have hkl : its.length = 0 := by rw [hk]; rfl
          have hkey : key0 (leafP its) = zeroK := by unfold key0 leafP; rw [hk]; rfl
          have oy : ∀ v ∈ cPl (zeroK, base + BB.length), v.oneCell' = true := allOne_of (cPl_one _)
          repeat' (first | ((first | refine WL.p rfl ?_ | refine WL.u ?_ | refine WL.g rfl rfl ?_ | refine WL.gu rfl ?_); first | (refine opk 1 rfl ?_; first | (refine ost_appR (rows := RR.map cPl) (row := cPl (zeroK, base + BB.length)) H rfl rfl rfl (by (exact ixQ)) (by (exact ixQ)) (by rfl) (by first | simp; done | exact Nat.succ_pos _) rfl (allOne_of rfl) rfl (by omega) ?_; clear H; intro aa ca wk H; simp only [List.set_cons_zero, List.set_cons_succ] at H) | (refine ost_C H rfl (hE _ _ (sat_full _) (hP.full H)) rfl ?_; clear H; rintro vk wk hfk Lk ⟨a9, c9, rfl, -, rfl⟩ H; simp only [List.cons_append, List.nil_append] at H) | (refine ost_app8 (xs := BB) H rfl rfl rfl (by (exact ixQ)) (H.own8rd (i := 0) rfl) (by (try simp only [List.length_nil, List.length_append, List.length_cons, List.length_singleton]); omega) ?_; clear H; intro aa ca wk H; simp only [List.set_cons_zero, List.set_cons_succ, List.nil_append] at H)) | (refine opk 9 rfl ?_; (refine ost_buildR (rows := [cPl (zeroK, base + BB.length)]) H rfl (by decide) rfl (by rfl) (evP1 vxQ) (.cons rfl .nil) rfl (fun r hr => by rw [List.mem_singleton.1 hr]; rfl) ?_; clear H; intro bk wk H)) | refine pvQ ?_ | (refine opk 3 rfl ?_; (refine ost_cmp rfl rfl rfl rfl (fun hc => ?_) (fun hc => ?_) <;> (simp only [cmpP] at hc; try exact prIQ))) | (refine opk 4 rfl ?_; (refine ost_cmp rfl rfl rfl rfl (fun hc => ?_) (fun hc => ?_) <;> (simp only [cmpP] at hc; try exact prIQ))) | (refine opk 8 rfl ?_; first | (refine ost_store1 H rfl rfl vlQ gvQ ixQ (by first | decide | (simp; omega) | (simp; done) | omega) ?_; clear H; intro wk H; simp only [List.set_cons_zero, List.set_cons_succ, Nat.reduceAdd] at H) | (refine ost_storeW H rfl rfl rfl rfl lQ ixQ lQ okQ ?_; clear H; intro wk H; simp only [List.set_cons_zero, List.set_cons_succ, Nat.reduceAdd] at H)) | (refine opk 9 rfl ?_; first | (refine ost_allocA H rfl ?_; clear H; intro bk wk H) | (refine ost_build1 H rfl rfl rfl evQ lsQ rfl ?_; clear H; intro bk wk H))) | refine Wc.seq ?_ | refine then_n ?_ | refine WL.nil ?_ | refine Wc.region ?_ | refine Wc.block ?_ | refine then_r ?_ | refine then_e ?_ | refine inb_e rfl ?_ | refine inb_o rfl ?_ | refine inb_n ?_ | refine inb_r ?_ | refine Wc.skip ?_ | refine Wc.exit ?_ | refine Wc.ret ?_ | refine Wc.cond_true rfl ?_ | refine Wc.cond_false rfl ?_ | refine WL.skp rfl rfl ?_ | refine WL.sku rfl ?_)
          all_goals (
            have hRn : RR.map cPl ++ [cPl (zeroK, base + BB.length)] = (placesP base ((List.range (k + 1)).map pg)).map cPl := by rw [hsn, hkey, List.map_append]; rfl
            rw [hRn, ← hsb] at H
            exact ⟨N - (k + 1), by omega, k + 1, _, _, _, _, h8, rfl, by omega, hle1.trans hle28, by (repeat' (first | exact Agree.refl _ _ | exact Agree.havoc | refine Agree.upd rfl ?_ | refine Agree.hav2 rfl ?_)), by rw [hsb]; rfl, by rw [← hRn]; rfl, by show Value.int _ _ = _; congr 1, H.picks [4, 5] rfl (by decide)⟩)
        · have hkl : its.length = t.length + 1 := by rw [hk]; rfl
          have hkey : key0 (leafP its) = x.key := by unfold key0 leafP; rw [hk]; rfl
          obtain ⟨b, off, L9, T, fr, e1, eb, eg⟩ := hK8.getM (by decide) (by rw [List.length_map]; omega)
          have g2 : (L9.drop (off + (0 : Int).toNat * 3)).take 3 = cKey x.key := by
            have := eg (0 : Int).toNat 0 (by rw [List.length_map]; omega) rfl
            rw [this]; congr 1; simp [hk]
          clear eg
          have lx := cKey_len x.key
          have ox := allOne_of (cKey_one x.key)
          have oy : ∀ v ∈ cPl (x.key, base + BB.length), v.oneCell' = true := allOne_of (cPl_one _)
          have hst : List.take (0 + 0) [Value.int .u16 0, .int .u8 0, .int .u32 0, .int .i64 ((base : Int) + (BB.length : Int))] ++ cKey x.key ++ List.drop (0 + 0 + (cKey x.key).length) [Value.int .u16 0, .int .u8 0, .int .u32 0, .int .i64 ((base : Int) + (BB.length : Int))] = cPl (x.key, base + BB.length) := rfl
          have lst := cPl_len (x.key, base + BB.length)
          subst e1
          repeat' (first | ((first | refine WL.p rfl ?_ | refine WL.u ?_ | refine WL.g rfl rfl ?_ | refine WL.gu rfl ?_); first | (refine opk 1 rfl ?_; first | (refine ost_appR (rows := RR.map cPl) (row := cPl (x.key, base + BB.length)) H rfl rfl rfl (by (exact ixQ)) (by (exact ixQ)) (by rfl) (by first | simp; done | exact Nat.succ_pos _) rfl (allOne_of rfl) rfl (by omega) ?_; clear H; intro aa ca wk H; simp only [List.set_cons_zero, List.set_cons_succ] at H) | (refine ost_C H rfl (hE _ _ (sat_full _) (hP.full H)) rfl ?_; clear H; rintro vk wk hfk Lk ⟨a9, c9, rfl, -, rfl⟩ H; simp only [List.cons_append, List.nil_append] at H) | (refine ost_app8 (xs := BB) H rfl rfl rfl (by (exact ixQ)) (H.own8rd (i := 0) rfl) (by (try simp only [List.length_nil, List.length_append, List.length_cons, List.length_singleton]); omega) ?_; clear H; intro aa ca wk H; simp only [List.set_cons_zero, List.set_cons_succ, List.nil_append] at H)) | (refine opk 8 rfl ?_; (refine ost_storeA (i := 0) (vs := cKey x.key) H rfl rfl rfl ox lx (by rfl) (by simp [lx]) ?_; clear H; intro wk H; simp only [List.set_cons_zero, List.set_cons_succ] at H; rw [hst] at H)) | (refine opk 9 rfl ?_; (refine ost_buildR (rows := [cPl (x.key, base + BB.length)]) H rfl (by decide) rfl (by rfl) (evP1 vxQ) (.cons rfl .nil) rfl (fun r hr => by rw [List.mem_singleton.1 hr]; rfl) ?_; clear H; intro bk wk H)) | refine pvQ ?_ | (refine opk 3 rfl ?_; (refine ost_cmp rfl rfl rfl rfl (fun hc => ?_) (fun hc => ?_) <;> (simp only [cmpP] at hc; try exact prIQ))) | (refine opk 4 rfl ?_; (refine ost_cmp rfl rfl rfl rfl (fun hc => ?_) (fun hc => ?_) <;> (simp only [cmpP] at hc; try exact prIQ))) | (refine opk 8 rfl ?_; first | (refine ost_store1 H rfl rfl vlQ gvQ ixQ (by first | decide | (simp; omega) | (simp; done) | omega) ?_; clear H; intro wk H; simp only [List.set_cons_zero, List.set_cons_succ, Nat.reduceAdd] at H) | (refine ost_storeW H rfl rfl rfl rfl lQ ixQ lQ okQ ?_; clear H; intro wk H; simp only [List.set_cons_zero, List.set_cons_succ, Nat.reduceAdd] at H)) | (refine opk 9 rfl ?_; first | (refine ost_allocA H rfl ?_; clear H; intro bk wk H) | (refine ost_build1 H rfl rfl rfl evQ lsQ rfl ?_; clear H; intro bk wk H))) | refine Wc.seq ?_ | refine then_n ?_ | refine WL.nil ?_ | refine Wc.region ?_ | refine Wc.block ?_ | refine then_r ?_ | refine then_e ?_ | refine inb_e rfl ?_ | refine inb_o rfl ?_ | refine inb_n ?_ | refine inb_r ?_ | refine Wc.skip ?_ | refine Wc.exit ?_ | refine Wc.ret ?_ | refine Wc.cond_true rfl ?_ | refine Wc.cond_false rfl ?_ | refine WL.skp rfl rfl ?_ | refine WL.sku rfl ?_)
          all_goals (
            have hRn : RR.map cPl ++ [cPl (x.key, base + BB.length)] = (placesP base ((List.range (k + 1)).map pg)).map cPl := by rw [hsn, hkey, List.map_append]; rfl
            rw [hRn, ← hsb] at H
            exact ⟨N - (k + 1), by omega, k + 1, _, _, _, _, h8, rfl, by omega, hle1.trans hle28, by (repeat' (first | exact Agree.refl _ _ | exact Agree.havoc | refine Agree.upd rfl ?_ | refine Agree.hav2 rfl ?_)), by rw [hsb]; rfl, by rw [← hRn]; rfl, by show Value.int _ _ = _; congr 1, H.picks [4, 5] rfl (by decide)⟩))
  · have hor : ¬ (k = 0 ∨ 8 * k < l.length) := fun h => hlt ((hNc k hk).1 h)
    obtain rfl : k = N := by omega
    rw [hPs]
    generalize (List.range k).map pg = PS at H hPL hBL ⊢
    have hz : ((placesP base PS).map cPl).length = (placesP base PS).length := List.length_map ..
    rw [hz] at H ⊢
    repeat' (first | ((first | refine WL.p rfl ?_ | refine WL.u ?_ | refine WL.g rfl rfl ?_ | refine WL.gu rfl ?_); first | refine pvQ ?_ | (refine opk 3 rfl ?_; (refine ost_cmp rfl rfl rfl rfl (fun hc => ?_) (fun hc => ?_) <;> (simp only [cmpP] at hc; try exact prIQ))) | (refine opk 4 rfl ?_; (refine ost_cmp rfl rfl rfl rfl (fun hc => ?_) (fun hc => ?_) <;> (simp only [cmpP] at hc; try exact prIQ))) | (refine opk 8 rfl ?_; first | (refine ost_store1 H rfl rfl vlQ gvQ ixQ (by first | decide | (simp; omega) | (simp; done) | omega) ?_; clear H; intro wk H; simp only [List.set_cons_zero, List.set_cons_succ, Nat.reduceAdd] at H) | (refine ost_storeW H rfl rfl rfl rfl lQ ixQ lQ okQ ?_; clear H; intro wk H; simp only [List.set_cons_zero, List.set_cons_succ, Nat.reduceAdd] at H)) | (refine opk 9 rfl ?_; first | (refine ost_allocA H rfl ?_; clear H; intro bk wk H) | (refine ost_build1 H rfl rfl rfl evQ lsQ rfl ?_; clear H; intro bk wk H))) | refine Wc.seq ?_ | refine then_n ?_ | refine WL.nil ?_ | refine Wc.region ?_ | refine Wc.block ?_ | refine then_r ?_ | refine then_e ?_ | refine inb_e rfl ?_ | refine inb_o rfl ?_ | refine inb_n ?_ | refine inb_r ?_ | refine Wc.skip ?_ | refine Wc.exit ?_ | refine Wc.ret ?_ | refine Wc.cond_true rfl ?_ | refine Wc.cond_false rfl ?_ | refine WL.skp rfl rfl ?_ | refine WL.sku rfl ?_)
    all_goals first | (exfalso; omega) | exact fn_ret2 (v1 := .slice _ _ _) (v2 := .slice _ _ _) rfl rfl rfl ⟨_, _, H, hle1, _, _, _, _, rfl, rfl⟩
end Go.Tg

set_option linter.unusedVariables false
set_option linter.unusedSimpArgs false
set_option maxRecDepth 100000
set_option maxHeartbeats 4000000
namespace Go.Tg
open Go Go.Proofs
set_option maxHeartbeats 8000000 in
theorem r15_above (h0 : FH) (w : World) (hs : Sat h0 w) (base : Nat) (al : Option Addr) (cl : Nat) (l : List PlT) (hb : base ≤ 1100000000) (hl : l.length ≤ 65536) (hN : Sl h0 4 al cl (l.map cPl)) :
    Spec Tryd.prog 26 #[.slice al l.length cl, .int .i64 base] w [] h0 (fun v h' L' => FLe h0 h' ∧ ∃ a c ao co, v = .tuple #[.slice a (bytesP (nodePs l)).length c, .slice ao (placesP base (nodePs l)).length co] ∧ L' = [own8 (.slice a (bytesP (nodePs l)).length c) 5 (bytesP (nodePs l)), ownR (.slice ao (placesP base (nodePs l)).length co) 91 4 ((placesP base (nodePs l)).map cPl)]) := by
  have H := St.start hs
  have q1 := hN.lenM
  unfold Spec
  refine calls_of Tryd.func26 rfl Tryd.ntmps26 (by simp) ?_
  repeat' (first | ((first | refine WL.p rfl ?_ | refine WL.u ?_ | refine WL.g rfl rfl ?_ | refine WL.gu rfl ?_); first | refine pvQ ?_ | (refine opk 3 rfl ?_; (refine ost_cmp rfl rfl rfl rfl (fun hc => ?_) (fun hc => ?_) <;> (simp only [cmpP] at hc; try exact prIQ))) | (refine opk 4 rfl ?_; (refine ost_cmp rfl rfl rfl rfl (fun hc => ?_) (fun hc => ?_) <;> (simp only [cmpP] at hc; try exact prIQ))) | (refine opk 9 rfl ?_; (refine ost_build1 H rfl rfl rfl evQ lsQ rfl ?_; clear H; intro bk wk H))) | refine Wc.seq ?_ | refine then_n ?_ | refine WL.nil ?_ | refine Wc.region ?_ | refine Wc.block ?_ | refine then_r ?_ | refine then_e ?_ | refine inb_e rfl ?_ | refine inb_o rfl ?_ | refine inb_n ?_ | refine inb_r ?_ | refine Wc.skip ?_ | refine Wc.exit ?_ | refine Wc.ret ?_ | refine Wc.cond_true rfl ?_ | refine Wc.cond_false rfl ?_ | refine WL.skp rfl rfl ?_ | refine WL.sku rfl ?_)
  obtain ⟨N, hN9⟩ : ∃ N, N = chN l.length := ⟨_, rfl⟩
  have hNl : l.length ≤ 8 * N ∧ N ≤ 10000 := by unfold chN at hN9; omega
  have hNc : ∀ k, k ≤ N → (8 * k < l.length ↔ k < N) := fun k hk => by unfold chN at hN9; omega
  have hPs : nodePs l = (List.range (chN l.length)).map fun k => nodeP (partK l k) := rfl
  rw [← hN9] at hPs
  obtain ⟨pg, hpg⟩ : ∃ pg : Nat → PageT, pg = fun k => nodeP (partK l k) := ⟨_, rfl⟩
  rw [← hpg] at hPs
  replace H : St w [] h0 h0 [own8 (.slice none (bytesP ((List.range 0).map pg)).length 0) 5 (bytesP ((List.range 0).map pg)), ownR (.slice none ((placesP base ((List.range 0).map pg)).map cPl).length 0) 91 4 ((placesP base ((List.range 0).map pg)).map cPl)] w := (H.nilOwn 91 4).nilOwn 5 1
  refine Wc.loopE (fun s0 m s w' => ∃ (k : Nat) (a : Option Addr) (c : Nat) (ao : Option Addr) (co : Nat) (h1 : FH), m = N - k ∧ k ≤ N ∧ FLe h0 h1 ∧ Agree [6, 7, 8, 9, 10, 11, 12, 13, 14, 15, 16, 17, 18, 19, 20, 21, 22, 23, 24, 25, 26, 27, 28, 29, 30, 31, 32, 33, 34, 35, 36, 37, 38, 39, 40, 41, 42, 43, 44, 45, 46, 47, 48, 49, 50, 51, 52, 53, 54, 55, 56, 57, 58, 59, 60, 61, 62, 63, 64, 65, 66, 67, 68, 69, 70] s s0 ∧ s 6 = .slice a (bytesP ((List.range k).map pg)).length c ∧ s 7 = .slice ao ((placesP base ((List.range k).map pg)).map cPl).length co ∧ s 8 = .int .i64 ((8 * k : Nat) : Int) ∧
    St w [] h0 h1 [own8 (.slice a (bytesP ((List.range k).map pg)).length c) 5 (bytesP ((List.range k).map pg)), ownR (.slice ao ((placesP base ((List.range k).map pg)).map cPl).length co) 91 4 ((placesP base ((List.range k).map pg)).map cPl)] w') N ⟨0, _, _, _, _, h0, rfl, by omega, FLe.refl _, Agree.refl _ _, rfl, rfl, rfl, H⟩ ?_
  clear H
  rintro m s w' ⟨k, a, c, ao, co, h1, rfl, hk, hle1, hA, e6, e7, e8, H⟩
  obtain ⟨j, rfl⟩ := hA.env3 e6 e7 e8
  clear hA e6 e7 e8
  have hBL := bytesP_len ((List.range k).map pg)
  rw [List.length_map, List.length_range] at hBL
  have hPL := placesP_len base ((List.range k).map pg)
  rw [List.length_map, List.length_range] at hPL
  by_cases hlt : k < N
  · have hor := (hNc k hk).2 hlt
    have hsn := placesP_snoc base ((List.range k).map pg) (pg k)
    have hsb := bytesP_snoc ((List.range k).map pg) (pg k)
    rw [← range_map_succ] at hsn hsb
    have hpk : pg k = nodeP (partK l k) := by rw [hpg]
    rw [hpk] at hsn hsb
    have hpl := partK_len l k
    have hgt := partK_get l k
    have hch : (partK l k).length ≤ 8 ∧ (∀ q, q ≤ (partK l k).length → ((8 * k + q < l.length ∧ q < 8) ↔ q < (partK l k).length)) := by
      rw [hpl]; unfold chL; exact ⟨by omega, fun q hq => by omega⟩
    generalize hRR : placesP base ((List.range k).map pg) = RR at H hPL hsn ⊢
    generalize hBB : bytesP ((List.range k).map pg) = BB at H hBL hsn hsb ⊢
    clear hRR hBB hpl
    generalize partK l k = its at *
    have hRl : (RR.map cPl).length = RR.length := List.length_map ..
    have hwk : 8 * k < l.length := by omega
    repeat' (first | ((first | refine WL.p rfl ?_ | refine WL.u ?_ | refine WL.g rfl rfl ?_ | refine WL.gu rfl ?_); first | refine pvQ ?_ | (refine opk 3 rfl ?_; (refine ost_cmp rfl rfl rfl rfl (fun hc => ?_) (fun hc => ?_) <;> (simp only [cmpP] at hc; try exact prIQ))) | (refine opk 4 rfl ?_; (refine ost_cmp rfl rfl rfl rfl (fun hc => ?_) (fun hc => ?_) <;> (simp only [cmpP] at hc; try exact prIQ))) | (refine opk 9 rfl ?_; (refine ost_build1 H rfl rfl rfl evQ lsQ rfl ?_; clear H; intro bk wk H))) | refine Wc.seq ?_ | refine then_n ?_ | refine WL.nil ?_ | refine Wc.region ?_ | refine Wc.block ?_ | refine then_r ?_ | refine then_e ?_ | refine inb_e rfl ?_ | refine inb_o rfl ?_ | refine inb_n ?_ | refine inb_r ?_ | refine Wc.skip ?_ | refine Wc.exit ?_ | refine Wc.ret ?_ | refine Wc.cond_true rfl ?_ | refine Wc.cond_false rfl ?_ | refine WL.skp rfl rfl ?_ | refine WL.sku rfl ?_)
    all_goals (
      clear hc
      replace H : St w [] h0 h1 [ownR (.slice none ((its.take 0).map fun i => cKey i.1).length 0) 80 3 ((its.take 0).map fun i => cKey i.1), ownR (.slice none ((its.take 0).map fun i => cKid (UInt32.ofNat i.2)).length 0) 26 1 ((its.take 0).map fun i => cKid (UInt32.ofNat i.2)),
        own8 (.slice a BB.length c) 5 BB, ownR (.slice ao (RR.map cPl).length co) 91 4 (RR.map cPl)] _ := (H.nilOwn 26 1).nilOwn 80 3
      refine Wc.loopE (fun s0 m s w' => ∃ (q : Nat) (ak : Option Addr) (ck : Nat) (aq : Option Addr) (cq : Nat), m = its.length - q ∧ q ≤ its.length ∧ Agree [9, 10, 11, 21, 22, 23, 24, 25, 26, 27, 28, 29, 30, 31, 32, 33, 34, 35, 36, 37, 38, 39, 40, 41, 42, 43, 44, 45, 46, 47, 48, 49] s s0 ∧ s 9 = .slice ak ((its.take q).map fun i => cKey i.1).length ck ∧ s 10 = .slice aq ((its.take q).map fun i => cKid (UInt32.ofNat i.2)).length cq ∧ s 11 = .int .i64 ((8 * k + q : Nat) : Int) ∧
        St w [] h0 h1 [ownR (.slice ak ((its.take q).map fun i => cKey i.1).length ck) 80 3 ((its.take q).map fun i => cKey i.1), ownR (.slice aq ((its.take q).map fun i => cKid (UInt32.ofNat i.2)).length cq) 26 1 ((its.take q).map fun i => cKid (UInt32.ofNat i.2)),
          own8 (.slice a BB.length c) 5 BB, ownR (.slice ao (RR.map cPl).length co) 91 4 (RR.map cPl)] w') its.length ⟨0, _, _, _, _, rfl, by omega, Agree.refl _ _, rfl, rfl, rfl, H⟩ ?_
      clear H
      rintro m s w' ⟨q, ak, ck, aq, cq, rfl, hq, hA, e1, e2, e3, H⟩
      obtain ⟨j, rfl⟩ := hA.env3 e1 e2 e3
      clear hA e1 e2 e3
      have hKl : ((its.take q).map fun i => cKey i.1).length = q := by simp; omega
      have hQl : ((its.take q).map fun i => cKid (UInt32.ofNat i.2)).length = q := by simp; omega
      have hcq := hch.2 q hq
      by_cases hlq : q < its.length
      · obtain ⟨h2, hy⟩ := hgt q hlq
        obtain ⟨b, off, L9, T, fr, e2, eb, eg⟩ := (hN.mono hle1).getM (by decide) (Nat.lt_of_le_of_lt (Nat.zero_le _) h2)
        have hcq2 := hcq.2 hlq
        have g9 := eg ((8 * k + q : Nat) : Int).toNat (8 * k + q) h2 (by omega)
        rw [hy] at g9
        have hs1 := takeM_succ (fun i : PlT => cKey i.1) its hlq
        have hs2 := takeM_succ (fun i : PlT => cKid (UInt32.ofNat i.2)) its hlq
        clear eg hy
        generalize its[q] = y at g9 hs1 hs2
        have g1 : (L9.drop (off + ((8 * k + q : Nat) : Int).toNat * 4 + 0)).take 3 = cKey y.1 := row_part g9 (q := 0) (n := 3) (by omega)
        have g2 : L9[off + ((8 * k + q : Nat) : Int).toNat * 4 + 3]? = some (.int .i64 (y.2 : Int)) := row_cell g9 (q := 3) (by simp [cPl_len])
        have hku : cKid (UInt32.ofNat y.2) = [Value.int .u32 (IntKind.u32.wrap (y.2 : Int))] := by unfold cKid; rw [u32_1]
        rw [hku] at hs2
        have l1 := cKey_len y.1
        have o1 := allOne_of (cKey_one y.1)
        generalize ((its.take q).map fun i => cKey i.1) = KS at H hKl hs1 ⊢
        generalize ((its.take q).map fun i => cKid (UInt32.ofNat i.2)) = QS at H hQl hs2 ⊢
        subst e2
        repeat' (first | ((first | refine WL.p rfl ?_ | refine WL.u ?_ | refine WL.g rfl rfl ?_ | refine WL.gu rfl ?_); first | (refine opk 1 rfl ?_; first | (refine ost_appR (rows := KS) (row := cKey y.1) H rfl rfl rfl (by (exact ixQ)) (by (exact ixQ)) (by rfl) (by first | simp; done | exact Nat.succ_pos _) rfl (allOne_of rfl) rfl (by omega) ?_; clear H; intro aa ca wk H; simp only [List.set_cons_zero, List.set_cons_succ] at H) | (refine ost_appR (rows := QS) (row := [Value.int .u32 (IntKind.u32.wrap (y.2 : Int))]) H rfl rfl rfl (by (exact ixQ)) (by (exact ixQ)) (by rfl) (by first | simp; done | exact Nat.succ_pos _) rfl (allOne_of rfl) rfl (by omega) ?_; clear H; intro aa ca wk H; simp only [List.set_cons_zero, List.set_cons_succ] at H)) | (refine opk 9 rfl ?_; first | (refine ost_buildR (rows := [cKey y.1]) H rfl (by decide) rfl (by rfl) (evP1 vxQ) (.cons rfl .nil) rfl (fun r hr => by rw [List.mem_singleton.1 hr]; rfl) ?_; clear H; intro bk wk H) | (refine ost_buildR (rows := [[Value.int .u32 (IntKind.u32.wrap (y.2 : Int))]]) H rfl (by decide) rfl (by rfl) (evP1 vxQ) (.cons rfl .nil) rfl (fun r hr => by rw [List.mem_singleton.1 hr]; rfl) ?_; clear H; intro bk wk H)) | refine pvQ ?_ | (refine opk 3 rfl ?_; (refine ost_cmp rfl rfl rfl rfl (fun hc => ?_) (fun hc => ?_) <;> (simp only [cmpP] at hc; try exact prIQ))) | (refine opk 4 rfl ?_; (refine ost_cmp rfl rfl rfl rfl (fun hc => ?_) (fun hc => ?_) <;> (simp only [cmpP] at hc; try exact prIQ))) | (refine opk 9 rfl ?_; (refine ost_build1 H rfl rfl rfl evQ lsQ rfl ?_; clear H; intro bk wk H))) | refine Wc.seq ?_ | refine then_n ?_ | refine WL.nil ?_ | refine Wc.region ?_ | refine Wc.block ?_ | refine then_r ?_ | refine then_e ?_ | refine inb_e rfl ?_ | refine inb_o rfl ?_ | refine inb_n ?_ | refine inb_r ?_ | refine Wc.skip ?_ | refine Wc.exit ?_ | refine Wc.ret ?_ | refine Wc.cond_true rfl ?_ | refine Wc.cond_false rfl ?_ | refine WL.skp rfl rfl ?_ | refine WL.sku rfl ?_)
        rw [← hs1, ← hs2] at H
        exact ⟨its.length - (q + 1), by omega, q + 1, _, _, _, _, rfl, by omega, by (repeat' (first | exact Agree.refl _ _ | exact Agree.havoc | refine Agree.upd rfl ?_ | refine Agree.hav2 rfl ?_)), by rw [hs1]; rfl, by rw [hs2]; rfl, by show Value.int _ _ = _; congr 1, H.picks [2, 3, 4, 5] rfl (by decide)⟩
      · obtain rfl : q = its.length := by omega
        have hcq2 := fun h => hlq (hcq.1 h)
        have hm1 : (its.map fun i => cKey i.1) = (its.map (·.1)).map cKey := by rw [List.map_map]; rfl
        have hm2 : (its.map fun i => cKid (UInt32.ofNat i.2)) = (its.map fun x => UInt32.ofNat x.2).map cKid := by rw [List.map_map]; rfl
        rw [List.take_length, hm1, hm2] at H
        rw [List.take_length, hm1, hm2]
        clear hKl hQl hgt
        obtain ⟨ak2, ck2, h7, e7, hle7, hK7, H7⟩ := H.freezeR (rows_len3 (its.map (·.1)))
        clear H
        cases e7
        obtain ⟨aq2, cq2, h8, e8, hle8, hL8, H⟩ := H7.freezeR (rows_len1 (its.map fun x => UInt32.ofNat x.2))
        clear H7
        cases e8
        have hkL : ((its.map (·.1)).map cKey).length = its.length := by simp
        have hqL : ((its.map fun x => UInt32.ofNat x.2).map cKid).length = its.length := by simp
        rw [hkL, hqL]
        have hle28 := hle7.trans hle8
        have hK8 := hK7.mono hle8
        have hP : PgR h8 (nodeP its) ⟨ak, ck, none, 0, aq, cq⟩ := ⟨hK8, Sl.nil _ _, hL8⟩
        have hE := fun h w => r13_Encode (nodeP its) ⟨ak, ck, none, 0, aq, cq⟩ h w
        have hpv : pgV (nodeP its) ⟨ak, ck, none, 0, aq, cq⟩ = [Value.bool false, .slice ak its.length ck, .slice none 0 0, .slice aq its.length cq] := by simp [pgV, nodeP]
        rw [hpv] at hE
        have hol := outP_len (nodeP its)
        generalize outP (nodeP its) = O at hE hol hsb
        obtain ⟨x, t, hk⟩ : ∃ x t, its = x :: t := by
          cases its with
          | nil => simp only [List.length_nil] at hch; have := (hch.2 0 (by omega)).1 ⟨by omega, by omega⟩; omega
          | cons x t => exact ⟨x, t, rfl⟩
        have hkl : its.length = t.length + 1 := by rw [hk]; rfl
        have hkey : key0 (nodeP its) = x.1 := by unfold key0 nodeP; rw [hk]; rfl
        obtain ⟨b, off, L9, T, fr, e1, eb, eg⟩ := hK8.getM (by decide) (by rw [List.length_map]; omega)
        have g2 : (L9.drop (off + (0 : Int).toNat * 3)).take 3 = cKey x.1 := by
          have := eg (0 : Int).toNat 0 (by rw [List.length_map]; omega) rfl
          rw [this]; congr 1; simp [hk]
        clear eg
        have lx := cKey_len x.1
        have ox := allOne_of (cKey_one x.1)
        have oy : ∀ v ∈ cPl (x.1, base + BB.length), v.oneCell' = true := allOne_of (cPl_one _)
        subst e1
        repeat' (first | ((first | refine WL.p rfl ?_ | refine WL.u ?_ | refine WL.g rfl rfl ?_ | refine WL.gu rfl ?_); first | (refine opk 1 rfl ?_; first | (refine ost_appR (rows := RR.map cPl) (row := cPl (x.1, base + BB.length)) H rfl rfl rfl (by (exact ixQ)) (by (exact ixQ)) (by rfl) (by first | simp; done | exact Nat.succ_pos _) rfl (allOne_of rfl) rfl (by omega) ?_; clear H; intro aa ca wk H; simp only [List.set_cons_zero, List.set_cons_succ] at H) | (refine ost_C H rfl (hE _ _ (sat_full _) (hP.full H)) rfl ?_; clear H; rintro vk wk hfk Lk ⟨a9, c9, rfl, -, rfl⟩ H; simp only [List.cons_append, List.nil_append] at H) | (refine ost_app8 (xs := BB) H rfl rfl rfl (by (exact ixQ)) (H.own8rd (i := 0) rfl) (by (try simp only [List.length_nil, List.length_append, List.length_cons, List.length_singleton]); omega) ?_; clear H; intro aa ca wk H; simp only [List.set_cons_zero, List.set_cons_succ, List.nil_append] at H)) | (refine opk 9 rfl ?_; first | (refine ost_buildS (l := cPl (x.1, base + BB.length)) rfl (evP_cons (rfl : _ = Value.agg _) (evP_cons (rfl : _ = Value.int _ _) evP_nil)) (by kernel_rfl) (by kernel_rfl) ?_) | (refine ost_buildS rfl (evP_cons (rfl : _ = Value.slice _ _ _) (evP_cons (rfl : _ = Value.slice _ _ _) evP_nil)) rfl (rfl : _ = [_, _, _, _]) ?_) | (refine ost_buildR (rows := [cPl (x.1, base + BB.length)]) H rfl (by decide) rfl (by rfl) (evP1 vxQ) (.cons rfl .nil) rfl (fun r hr => by rw [List.mem_singleton.1 hr]; rfl) ?_; clear H; intro bk wk H)) | refine pvQ ?_ | (refine opk 3 rfl ?_; (refine ost_cmp rfl rfl rfl rfl (fun hc => ?_) (fun hc => ?_) <;> (simp only [cmpP] at hc; try exact prIQ))) | (refine opk 4 rfl ?_; (refine ost_cmp rfl rfl rfl rfl (fun hc => ?_) (fun hc => ?_) <;> (simp only [cmpP] at hc; try exact prIQ))) | (refine opk 9 rfl ?_; (refine ost_build1 H rfl rfl rfl evQ lsQ rfl ?_; clear H; intro bk wk H))) | refine Wc.seq ?_ | refine then_n ?_ | refine WL.nil ?_ | refine Wc.region ?_ | refine Wc.block ?_ | refine then_r ?_ | refine then_e ?_ | refine inb_e rfl ?_ | refine inb_o rfl ?_ | refine inb_n ?_ | refine inb_r ?_ | refine Wc.skip ?_ | refine Wc.exit ?_ | refine Wc.ret ?_ | refine Wc.cond_true rfl ?_ | refine Wc.cond_false rfl ?_ | refine WL.skp rfl rfl ?_ | refine WL.sku rfl ?_)
        all_goals (
          have hRn : RR.map cPl ++ [cPl (x.1, base + BB.length)] = (placesP base ((List.range (k + 1)).map pg)).map cPl := by rw [hsn, hkey, List.map_append]; rfl
          rw [hRn, ← hsb] at H
          exact ⟨N - (k + 1), by omega, k + 1, _, _, _, _, h8, rfl, by omega, hle1.trans hle28, by (repeat' (first | exact Agree.refl _ _ | exact Agree.havoc | refine Agree.upd rfl ?_ | refine Agree.hav2 rfl ?_)), by rw [hsb]; rfl, by rw [← hRn]; rfl, by show Value.int _ _ = _; congr 1, H.picks [2, 3] rfl (by decide)⟩))
  · have hor : ¬ 8 * k < l.length := fun h => hlt ((hNc k hk).1 h)
    obtain rfl : k = N := by omega
    rw [hPs]
    generalize (List.range k).map pg = PS at H hPL hBL ⊢
    have hz : ((placesP base PS).map cPl).length = (placesP base PS).length := List.length_map ..
    rw [hz] at H ⊢
    repeat' (first | ((first | refine WL.p rfl ?_ | refine WL.u ?_ | refine WL.g rfl rfl ?_ | refine WL.gu rfl ?_); first | refine pvQ ?_ | (refine opk 3 rfl ?_; (refine ost_cmp rfl rfl rfl rfl (fun hc => ?_) (fun hc => ?_) <;> (simp only [cmpP] at hc; try exact prIQ))) | (refine opk 4 rfl ?_; (refine ost_cmp rfl rfl rfl rfl (fun hc => ?_) (fun hc => ?_) <;> (simp only [cmpP] at hc; try exact prIQ))) | (refine opk 9 rfl ?_; (refine ost_build1 H rfl rfl rfl evQ lsQ rfl ?_; clear H; intro bk wk H))) | refine Wc.seq ?_ | refine then_n ?_ | refine WL.nil ?_ | refine Wc.region ?_ | refine Wc.block ?_ | refine then_r ?_ | refine then_e ?_ | refine inb_e rfl ?_ | refine inb_o rfl ?_ | refine inb_n ?_ | refine inb_r ?_ | refine Wc.skip ?_ | refine Wc.exit ?_ | refine Wc.ret ?_ | refine Wc.cond_true rfl ?_ | refine Wc.cond_false rfl ?_ | refine WL.skp rfl rfl ?_ | refine WL.sku rfl ?_)
    all_goals first | (exfalso; omega) | exact fn_ret2 (v1 := .slice _ _ _) (v2 := .slice _ _ _) rfl rfl rfl ⟨_, _, H, hle1, _, _, _, _, rfl, rfl⟩
end Go.Tg

