/- Contracts of Go functions that the laws reach: what each call answers and leaves in memory, for all arguments within the bounds that each theorem names. -/
import Derived.Test.YtbfilhaigbebpaaInst
import Derived.Test.YtbfilhaigbebpaaAuto
import Derived.Test.YtbfilhaigbebpaaYI
import Derived.Test.YtbfilhaigbebpaaChs
import Derived.Test.YtbfilhaigbebpaaRng
set_option linter.unusedVariables false
set_option linter.unusedSimpArgs false
set_option maxRecDepth 100000
set_option maxHeartbeats 4000000
namespace Go.Tg
open Go Go.Proofs
def cIt (x : ItemT) : Value := .agg (cItem x).toArray
def Rnds (P : Program) (l : Nat) (h : FH) (xs : List ItemT) (J X : List ItemT → HA → Prop) : Prop :=
  ∀ pre x A g W, FLe h g → pre ++ [x] <+: xs → J pre A → St W A.fp g g [A] W →
    YSp P l [cIt x].toArray W A.fp g fun v _ L' => ∃ A', L' = [A'] ∧ ((v = .bool true ∧ J (pre ++ [x]) A') ∨ (v = .bool false ∧ X (pre ++ [x]) A'))
theorem pre_at {α : Type} {a b c xs : List α} (h : a ++ b ++ c = xs) {j : Nat} (hj : j < b.length) : a ++ b.take j ++ [b[j]] <+: xs := by
  have e : b = b.take j ++ b[j] :: b.drop (j + 1) := by rw [← List.drop_eq_getElem_cons hj, List.take_append_drop]
  refine ⟨b.drop (j + 1) ++ c, ?_⟩
  rw [← h]
  conv => rhs; rw [e]
  simp only [List.append_assoc, List.cons_append, List.nil_append]
theorem tr_items (tb mb rb : Nat) (T : TrM) (h : FH) (hT : TrF h tb mb rb T) (l : Nat) (J X : List ItemT → HA → Prop) (xs : List ItemT) (hY : Rnds Try.prog l h xs J X) :
    ∀ (d : Nat) (s : Sh d) (pre0 post0 : List ItemT) (g : FH) (A : HA) (W : World), Sh.Ok d s → Rep h T d s → pre0 ++ Sh.its d s ++ post0 = xs → FLe h g → St W A.fp g g [A] W → J pre0 A →
    Spec Try.prog 61 #[pT tb, .int .u32 ((Sh.num d s).toNat : Nat), .func (.yield l) #[] #[]] W A.fp g (fun v _ L' => ∃ A', L' = [A'] ∧ ((v = .bool true ∧ J (pre0 ++ Sh.its d s) A') ∨ (v = .bool false ∧ ∃ pre, pre <+: xs ∧ X pre A'))) := by
  intro d
  induction d with
  | zero =>
    intro s pre0 post0 g A W hok hrep hxs hle HO hJ
    obtain ⟨n, its⟩ := s
    have hok : its.length ≤ 8 := hok
    obtain ⟨A1, hlk, hPg⟩ := hrep.top
    have hgm : ∀ z, getM z T.pages n = .agg (pgV (lfP its) A1).toArray := fun z => getM_look z hlk
    have t1 := hle _ _ hT.t
    have t2 := hle _ _ hT.m
    replace hPg := hPg.mono hle
    have hPg : PgR g (lfP its) A1 := hPg
    have lp := pgV_len (lfP its) A1
    have hxs : pre0 ++ its ++ post0 = xs := hxs
    show Spec _ _ _ _ _ _ (fun v _ L' => ∃ A', L' = [A'] ∧ ((v = .bool true ∧ J (pre0 ++ its) A') ∨ _))
    have H := HO
    generalize hF9 : A.fp = F9 at H ⊢
    have hkl : (lfP its).keys.length = its.length := List.length_map ..
    have hll : (lfP its).locs.length = its.length := List.length_map ..
    unfold Spec
    refine calls_of Try.func61 rfl Try.ntmps61 (by simp) ?_
    repeat' (first | ((first | refine WL.p rfl ?_ | refine WL.u ?_ | refine WL.g rfl rfl ?_ | refine WL.gu rfl ?_); first | (refine opk 13 rfl ?_; (refine ost_lookup0 (k := n) rfl rfl rfl (H.sat _ _ t2) ?_; rw [hgm])) | refine pvQ ?_ | (refine opk 3 rfl ?_; (refine ost_cmp rfl rfl rfl rfl (fun hc => ?_) (fun hc => ?_) <;> (simp only [cmpP] at hc; try exact prIQ))) | (refine opk 4 rfl ?_; (refine ost_cmp rfl rfl rfl rfl (fun hc => ?_) (fun hc => ?_) <;> (simp only [cmpP] at hc; try exact prIQ))) | (refine opk 8 rfl ?_; (refine ost_storeW H rfl rfl rfl rfl lQ ixQ lQ okQ ?_; clear H; intro wk H; simp only [List.set_cons_zero, List.set_cons_succ, Nat.reduceAdd] at H)) | (refine opk 9 rfl ?_; (refine ost_allocA H rfl ?_; clear H; intro bk wk H))) | refine Wc.seq ?_ | refine then_n ?_ | refine WL.nil ?_ | refine Wc.region ?_ | refine Wc.block ?_ | refine then_r ?_ | refine then_e ?_ | refine inb_e rfl ?_ | refine inb_o rfl ?_ | refine inb_n ?_ | refine inb_r ?_ | refine Wc.skip ?_ | refine Wc.exit ?_ | refine Wc.ret ?_ | refine Wc.cond_true rfl ?_ | refine Wc.cond_false rfl ?_ | (refine Wc.drawn (id := 5) 26 (by kernel_rfl) ?_) | refine WL.skp rfl rfl ?_ | refine WL.sku rfl ?_ | (refine rgs_nil ?_; intro vs wk hE; replace H := H.ext hE; clear hE) | refine RGs.skp (fun _ => rfl) rfl ?_ | (refine RGs.bq (fun _ => rfl) rfl (by intro vs w hE hP; have H := H.ext hE; first | exact dbQ | fail) (fun hc => ?_) (fun hc => ?_) <;> ((try simp only [cmpP, decide_eq_true_eq, decide_eq_false_iff_not, dcd_iff, dcd_no] at hc); try exact prDQ)) | refine RGs.pq (fun _ => rfl) rfl (by intro vs w hE hP; have H := H.ext hE; first | exact dvQ | fail) ?_)
    rw [hkl]
    obtain ⟨b7, e7⟩ := H.nameB idx0
    subst e7
    obtain ⟨g1, hle1, hb7, H7⟩ := H.freezeB
    clear H; have H := H7; clear H7 hlk hgm hF9
    replace hPg := hPg.mono hle1
    have hle2 := hle.trans hle1
    refine Wc.loopE (fun s0 m st w' => ∃ (j : Nat) (A2 : HA), m = its.length - j ∧ j ≤ its.length ∧ Agree [6, 8, 9, 19, 20, 21, 22, 23, 24, 25, 26, 27, 28, 29, 30, 31, 32, 33, 34, 35, 36, 37, 38, 39, 40, 41, 42, 43, 44, 45, 46, 47, 48, 49, 50, 51, 52, 53, 54] st s0 ∧ st 19 = .int .i64 j ∧ J (pre0 ++ its.take j) A2 ∧ St W F9 g g1 [A2] w') its.length ⟨0, A, rfl, by omega, Agree.refl _ _, rfl, by rw [List.take_zero, List.append_nil]; exact hJ, H⟩ ?_
    clear H hJ
    rintro m st w' ⟨j, A2, rfl, hj, hA, e1, hJ, H⟩
    obtain ⟨j9, rfl⟩ := hA.env1 e1
    clear hA e1
    by_cases hlt : j < its.length
    · have hsucc : its.take (j + 1) = its.take j ++ [its[j]] := by rw [List.take_add_one, List.getElem?_eq_getElem hlt]; rfl
      have hpre := pre_at hxs hlt
      have hass : pre0 ++ its.take j ++ [its[j]] = pre0 ++ its.take (j + 1) := by rw [hsucc, List.append_assoc]
      have hYj := fun W H => hY (pre0 ++ its.take j) its[j] A2 g1 W hle2 hpre hJ H
      obtain ⟨b, off, L9, T9, fr, e2, eb, eg⟩ := hPg.k.getM (by decide) (show 0 < (lfP its).keys.length by omega)
      have q1 := eg (j : Int).toNat j (by omega) (by omega)
      have hkn : (lfP its).keys[j]'(by omega) = its[j].key := List.getElem_map ..
      rw [hkn] at q1
      clear eg hkn
      obtain ⟨b', off', L9', T9', fr', e2', eb', eg⟩ := hPg.l.getM (by decide) (show 0 < (lfP its).locs.length by omega)
      have q2 := eg (j : Int).toNat j (by omega) (by omega)
      have hkn : (lfP its).locs[j]'(by omega) = its[j].loc := List.getElem_map ..
      rw [hkn] at q2
      clear eg hkn
      rw [hass] at hYj hpre
      clear hsucc hass
      generalize its[j] = x at *
      have lk := cKey_len x.key
      have ll := cLoc_len x.loc
      have ok := allOne_of (cKey_one x.key)
      have hlf : (lfP its).leaf = true := rfl
      obtain ⟨ak, ck, al, cl, ad, cd⟩ := A1
      dsimp only at e2 e2'
      subst e2 e2'
      repeat' (first | ((first | refine WL.p rfl ?_ | refine WL.u ?_ | refine WL.g rfl rfl ?_ | refine WL.gu rfl ?_); first | refine pvQ ?_ | (refine opk 3 rfl ?_; (refine ost_cmp rfl rfl rfl rfl (fun hc => ?_) (fun hc => ?_) <;> (simp only [cmpP] at hc; try exact prIQ))) | (refine opk 4 rfl ?_; (refine ost_cmp rfl rfl rfl rfl (fun hc => ?_) (fun hc => ?_) <;> (simp only [cmpP] at hc; try exact prIQ))) | (refine opk 8 rfl ?_; (refine ost_storeW H rfl rfl rfl rfl lQ ixQ lQ okQ ?_; clear H; intro wk H; simp only [List.set_cons_zero, List.set_cons_succ, Nat.reduceAdd] at H)) | (refine opk 9 rfl ?_; (refine ost_allocA H rfl ?_; clear H; intro bk wk H))) | refine Wc.seq ?_ | refine then_n ?_ | refine WL.nil ?_ | refine Wc.region ?_ | refine Wc.block ?_ | refine then_r ?_ | refine then_e ?_ | refine inb_e rfl ?_ | refine inb_o rfl ?_ | refine inb_n ?_ | refine inb_r ?_ | refine Wc.skip ?_ | refine Wc.exit ?_ | refine Wc.ret ?_ | refine Wc.cond_true rfl ?_ | refine Wc.cond_false rfl ?_ | refine WL.skp rfl rfl ?_ | refine WL.sku rfl ?_)
      obtain ⟨b9, e9⟩ := H.nameB idx0
      subst e9
      refine Wc.drawC (id := 5) 26 [⟨11, 999, [A2], fun v L' => ∃ A', L' = [A'] ∧ ((v = .bool true ∧ J (pre0 ++ its.take (j + 1)) A') ∨ (v = .bool false ∧ X (pre0 ++ its.take (j + 1)) A')), fun _ _ => True⟩] [.blk b9 _] [(11, 999)] H (by kernel_rfl) rfl (by kernel_rfl) (by exact List.Perm.refl _) ?_
      iterate 11 refine RGc.pg (fun _ => rfl) rfl rfl (by intro vs w T hP H; simp only [List.cons_append, List.nil_append] at H; exact dvQ) ?_
      refine RGc.mg (fun _ => rfl) rfl (by
        intro vs w T hP H
        simp only [List.cons_append, List.nil_append] at H
        refine ost_Y H rfl rfl rfl idx0 (fun HO => hYj _ HO) ?_
        rintro v w' h' L' ⟨A', rfl, hR⟩ hle9 H2
        exact ⟨[A'], ⟨A', rfl, hR⟩, H2.forget hle9 H.gr⟩) ?_
      refine RGc.w (0 + 1 + 1 + 1 + 1 + 1 + 1 + 1 + 1 + 1 + 1 + 1) [] (by kernel_rfl) rfl rfl rfl (fun vs T hP => by obtain ⟨L', ⟨A', -, h9⟩, -⟩ := hP 11 _ ⟨[], by kernel_rfl⟩ rfl; rcases h9 with ⟨h9, -⟩ | ⟨h9, -⟩; exact .inl h9; exact .inr h9) (by intro vs w T e hP H; simp only [List.cons_append, List.nil_append] at H; dsimp only; rw [e]; first | exact Stp.run rfl dvQ | exact Stp.skp rfl ⟨Fr.refl _ _, rfl⟩) (by intro vs w T e hP H; simp only [List.cons_append, List.nil_append] at H; dsimp only; rw [e]; first | exact Stp.run rfl dvQ | exact Stp.skp rfl ⟨Fr.refl _ _, rfl⟩) ?_
      refine RGc.w (0 + 1 + 1 + 1 + 1 + 1 + 1 + 1 + 1 + 1 + 1 + 1) [12] (by kernel_rfl) rfl rfl rfl (fun vs T hP => by obtain ⟨L', ⟨A', -, h9⟩, -⟩ := hP 11 _ ⟨[12], by kernel_rfl⟩ rfl; rcases h9 with ⟨h9, -⟩ | ⟨h9, -⟩; exact .inl h9; exact .inr h9) (by intro vs w T e hP H; simp only [List.cons_append, List.nil_append] at H; dsimp only; rw [e]; first | exact Stp.run rfl dvQ | exact Stp.skp rfl ⟨Fr.refl _ _, rfl⟩) (by intro vs w T e hP H; simp only [List.cons_append, List.nil_append] at H; dsimp only; rw [e]; first | exact Stp.run rfl dvQ | exact Stp.skp rfl ⟨Fr.refl _ _, rfl⟩) ?_
      refine RGc.w (0 + 1 + 1 + 1 + 1 + 1 + 1 + 1 + 1 + 1 + 1 + 1) [] (by kernel_rfl) rfl rfl rfl (fun vs T hP => by obtain ⟨L', ⟨A', -, h9⟩, -⟩ := hP 11 _ ⟨[], by kernel_rfl⟩ rfl; rcases h9 with ⟨h9, -⟩ | ⟨h9, -⟩; exact .inl h9; exact .inr h9) (by intro vs w T e hP H; simp only [List.cons_append, List.nil_append] at H; dsimp only; rw [e]; first | exact Stp.run rfl dvQ | exact Stp.skp rfl ⟨Fr.refl _ _, rfl⟩) (by intro vs w T e hP H; simp only [List.cons_append, List.nil_append] at H; dsimp only; rw [e]; first | exact Stp.run rfl dvQ | exact Stp.skp rfl ⟨Fr.refl _ _, rfl⟩) ?_
      refine RGc.w (0 + 1 + 1 + 1 + 1 + 1 + 1 + 1 + 1 + 1 + 1 + 1) [14] (by kernel_rfl) rfl rfl rfl (fun vs T hP => by obtain ⟨L', ⟨A', -, h9⟩, -⟩ := hP 11 _ ⟨[14], by kernel_rfl⟩ rfl; rcases h9 with ⟨h9, -⟩ | ⟨h9, -⟩; exact .inl h9; exact .inr h9) (by intro vs w T e hP H; simp only [List.cons_append, List.nil_append] at H; dsimp only; rw [e]; first | exact Stp.run rfl dvQ | exact Stp.skp rfl ⟨Fr.refl _ _, rfl⟩) (by intro vs w T e hP H; simp only [List.cons_append, List.nil_append] at H; dsimp only; rw [e]; first | exact Stp.run rfl dvQ | exact Stp.skp rfl ⟨Fr.refl _ _, rfl⟩) ?_
      refine RGc.w (0 + 1 + 1 + 1 + 1 + 1 + 1 + 1 + 1 + 1 + 1 + 1) [14] (by kernel_rfl) rfl rfl rfl (fun vs T hP => by obtain ⟨L', ⟨A', -, h9⟩, -⟩ := hP 11 _ ⟨[14], by kernel_rfl⟩ rfl; rcases h9 with ⟨h9, -⟩ | ⟨h9, -⟩; exact .inl h9; exact .inr h9) (by intro vs w T e hP H; simp only [List.cons_append, List.nil_append] at H; dsimp only; rw [e]; first | exact Stp.run rfl dvQ | exact Stp.skp rfl ⟨Fr.refl _ _, rfl⟩) (by intro vs w T e hP H; simp only [List.cons_append, List.nil_append] at H; dsimp only; rw [e]; first | exact Stp.run rfl dvQ | exact Stp.skp rfl ⟨Fr.refl _ _, rfl⟩) ?_
      refine RGc.w (0 + 1 + 1 + 1 + 1 + 1 + 1 + 1 + 1 + 1 + 1 + 1) [14] (by kernel_rfl) rfl rfl rfl (fun vs T hP => by obtain ⟨L', ⟨A', -, h9⟩, -⟩ := hP 11 _ ⟨[14], by kernel_rfl⟩ rfl; rcases h9 with ⟨h9, -⟩ | ⟨h9, -⟩; exact .inl h9; exact .inr h9) (by intro vs w T e hP H; simp only [List.cons_append, List.nil_append] at H; dsimp only; rw [e]; first | exact Stp.run rfl dvQ | exact Stp.skp rfl ⟨Fr.refl _ _, rfl⟩) (by intro vs w T e hP H; simp only [List.cons_append, List.nil_append] at H; dsimp only; rw [e]; first | exact Stp.run rfl dvQ | exact Stp.skp rfl ⟨Fr.refl _ _, rfl⟩) ?_
      refine RGc.w (0 + 1 + 1 + 1 + 1 + 1 + 1 + 1 + 1 + 1 + 1 + 1) [14] (by kernel_rfl) rfl rfl rfl (fun vs T hP => by obtain ⟨L', ⟨A', -, h9⟩, -⟩ := hP 11 _ ⟨[14], by kernel_rfl⟩ rfl; rcases h9 with ⟨h9, -⟩ | ⟨h9, -⟩; exact .inl h9; exact .inr h9) (by intro vs w T e hP H; simp only [List.cons_append, List.nil_append] at H; dsimp only; rw [e]; first | exact Stp.run rfl dvQ | exact Stp.skp rfl ⟨Fr.refl _ _, rfl⟩) (by intro vs w T e hP H; simp only [List.cons_append, List.nil_append] at H; dsimp only; rw [e]; first | exact Stp.run rfl dvQ | exact Stp.skp rfl ⟨Fr.refl _ _, rfl⟩) ?_
      refine RGc.w (0 + 1 + 1 + 1 + 1 + 1 + 1 + 1 + 1 + 1 + 1 + 1) [18, 14] (by kernel_rfl) rfl rfl rfl (fun vs T hP => by obtain ⟨L', ⟨A', -, h9⟩, -⟩ := hP 11 _ ⟨[18, 14], by kernel_rfl⟩ rfl; rcases h9 with ⟨h9, -⟩ | ⟨h9, -⟩; exact .inl h9; exact .inr h9) (by intro vs w T e hP H; simp only [List.cons_append, List.nil_append] at H; dsimp only; rw [e]; first | exact Stp.run rfl dvQ | exact Stp.skp rfl ⟨Fr.refl _ _, rfl⟩) (by intro vs w T e hP H; simp only [List.cons_append, List.nil_append] at H; dsimp only; rw [e]; first | exact Stp.run rfl dvQ | exact Stp.skp rfl ⟨Fr.refl _ _, rfl⟩) ?_
      refine RGc.w (0 + 1 + 1 + 1 + 1 + 1 + 1 + 1 + 1 + 1 + 1 + 1) [18, 14] (by kernel_rfl) rfl rfl rfl (fun vs T hP => by obtain ⟨L', ⟨A', -, h9⟩, -⟩ := hP 11 _ ⟨[18, 14], by kernel_rfl⟩ rfl; rcases h9 with ⟨h9, -⟩ | ⟨h9, -⟩; exact .inl h9; exact .inr h9) (by intro vs w T e hP H; simp only [List.cons_append, List.nil_append] at H; dsimp only; rw [e]; first | exact Stp.run rfl dvQ | exact Stp.skp rfl ⟨Fr.refl _ _, rfl⟩) (by intro vs w T e hP H; simp only [List.cons_append, List.nil_append] at H; dsimp only; rw [e]; first | exact Stp.run rfl dvQ | exact Stp.skp rfl ⟨Fr.refl _ _, rfl⟩) ?_
      refine RGc.w (0 + 1 + 1 + 1 + 1 + 1 + 1 + 1 + 1 + 1 + 1 + 1) [18, 14] (by kernel_rfl) rfl rfl rfl (fun vs T hP => by obtain ⟨L', ⟨A', -, h9⟩, -⟩ := hP 11 _ ⟨[18, 14], by kernel_rfl⟩ rfl; rcases h9 with ⟨h9, -⟩ | ⟨h9, -⟩; exact .inl h9; exact .inr h9) (by intro vs w T e hP H; simp only [List.cons_append, List.nil_append] at H; dsimp only; rw [e]; first | exact Stp.run rfl dvQ | exact Stp.skp rfl ⟨Fr.refl _ _, rfl⟩) (by intro vs w T e hP H; simp only [List.cons_append, List.nil_append] at H; dsimp only; rw [e]; first | exact Stp.run rfl dvQ | exact Stp.skp rfl ⟨Fr.refl _ _, rfl⟩) ?_
      refine RGc.w (0 + 1 + 1 + 1 + 1 + 1 + 1 + 1 + 1 + 1 + 1 + 1) [18, 14] (by kernel_rfl) rfl rfl rfl (fun vs T hP => by obtain ⟨L', ⟨A', -, h9⟩, -⟩ := hP 11 _ ⟨[18, 14], by kernel_rfl⟩ rfl; rcases h9 with ⟨h9, -⟩ | ⟨h9, -⟩; exact .inl h9; exact .inr h9) (by intro vs w T e hP H; simp only [List.cons_append, List.nil_append] at H; dsimp only; rw [e]; first | exact Stp.run rfl dvQ | exact Stp.skp rfl ⟨Fr.refl _ _, rfl⟩) (by intro vs w T e hP H; simp only [List.cons_append, List.nil_append] at H; dsimp only; rw [e]; first | exact Stp.run rfl dvQ | exact Stp.skp rfl ⟨Fr.refl _ _, rfl⟩) ?_
      refine RGc.w (0 + 1 + 1 + 1 + 1 + 1 + 1 + 1 + 1 + 1 + 1 + 1) [18, 14] (by kernel_rfl) rfl rfl rfl (fun vs T hP => by obtain ⟨L', ⟨A', -, h9⟩, -⟩ := hP 11 _ ⟨[18, 14], by kernel_rfl⟩ rfl; rcases h9 with ⟨h9, -⟩ | ⟨h9, -⟩; exact .inl h9; exact .inr h9) (by intro vs w T e hP H; simp only [List.cons_append, List.nil_append] at H; dsimp only; rw [e]; first | exact Stp.run rfl dvQ | exact Stp.skp rfl ⟨Fr.refl _ _, rfl⟩) (by intro vs w T e hP H; simp only [List.cons_append, List.nil_append] at H; dsimp only; rw [e]; first | exact Stp.run rfl dvQ | exact Stp.skp rfl ⟨Fr.refl _ _, rfl⟩) ?_
      refine RGc.w (0 + 1 + 1 + 1 + 1 + 1 + 1 + 1 + 1 + 1 + 1 + 1) [18, 14] (by kernel_rfl) rfl rfl rfl (fun vs T hP => by obtain ⟨L', ⟨A', -, h9⟩, -⟩ := hP 11 _ ⟨[18, 14], by kernel_rfl⟩ rfl; rcases h9 with ⟨h9, -⟩ | ⟨h9, -⟩; exact .inl h9; exact .inr h9) (by intro vs w T e hP H; simp only [List.cons_append, List.nil_append] at H; dsimp only; rw [e]; first | exact Stp.run rfl dvQ | exact Stp.skp rfl ⟨Fr.refl _ _, rfl⟩) (by intro vs w T e hP H; simp only [List.cons_append, List.nil_append] at H; dsimp only; rw [e]; first | exact Stp.run rfl dvQ | exact Stp.skp rfl ⟨Fr.refl _ _, rfl⟩) ?_
      refine RGc.w (0 + 1 + 1 + 1 + 1 + 1 + 1 + 1 + 1 + 1 + 1 + 1) [18, 14] (by kernel_rfl) rfl rfl rfl (fun vs T hP => by obtain ⟨L', ⟨A', -, h9⟩, -⟩ := hP 11 _ ⟨[18, 14], by kernel_rfl⟩ rfl; rcases h9 with ⟨h9, -⟩ | ⟨h9, -⟩; exact .inl h9; exact .inr h9) (by intro vs w T e hP H; simp only [List.cons_append, List.nil_append] at H; dsimp only; rw [e]; first | exact Stp.run rfl dvQ | exact Stp.skp rfl ⟨Fr.refl _ _, rfl⟩) (by intro vs w T e hP H; simp only [List.cons_append, List.nil_append] at H; dsimp only; rw [e]; first | exact Stp.run rfl dvQ | exact Stp.skp rfl ⟨Fr.refl _ _, rfl⟩) ?_
      refine RGc.nil ?_
      intro vs wk outs HM hR
      obtain ⟨A', o11, hres⟩ := (hR _ (List.mem_singleton.2 rfl)).2 (by show 26 ≤ 999; decide)
      have o11' : outs 11 = [A'] := o11
      simp only [outsC, o11', List.cons_append, List.nil_append, List.append_nil] at HM
      replace H := HM
      clear HM hR o11 o11'
      rcases hres with ⟨e, hJ'⟩ | ⟨e, hX'⟩
      · have e' : vs (0 + 1 + 1 + 1 + 1 + 1 + 1 + 1 + 1 + 1 + 1 + 1) = .bool true := e
        dsimp only
        rw [e']
        repeat' (first | ((first | refine WL.p rfl ?_ | refine WL.u ?_ | refine WL.g rfl rfl ?_ | refine WL.gu rfl ?_); first | refine pvQ ?_ | (refine opk 3 rfl ?_; (refine ost_cmp rfl rfl rfl rfl (fun hc => ?_) (fun hc => ?_) <;> (simp only [cmpP] at hc; try exact prIQ))) | (refine opk 4 rfl ?_; (refine ost_cmp rfl rfl rfl rfl (fun hc => ?_) (fun hc => ?_) <;> (simp only [cmpP] at hc; try exact prIQ))) | (refine opk 8 rfl ?_; (refine ost_storeW H rfl rfl rfl rfl lQ ixQ lQ okQ ?_; clear H; intro wk H; simp only [List.set_cons_zero, List.set_cons_succ, Nat.reduceAdd] at H)) | (refine opk 9 rfl ?_; (refine ost_allocA H rfl ?_; clear H; intro bk wk H))) | refine Wc.seq ?_ | refine then_n ?_ | refine WL.nil ?_ | refine Wc.region ?_ | refine Wc.block ?_ | refine then_r ?_ | refine then_e ?_ | refine inb_e rfl ?_ | refine inb_o rfl ?_ | refine inb_n ?_ | refine inb_r ?_ | refine Wc.skip ?_ | refine Wc.exit ?_ | refine Wc.ret ?_ | refine Wc.cond_true rfl ?_ | refine Wc.cond_false rfl ?_ | (refine Wc.drawn (id := 5) 26 (by kernel_rfl) ?_) | refine WL.skp rfl rfl ?_ | refine WL.sku rfl ?_ | (refine rgs_nil ?_; intro vs wk hE; replace H := H.ext hE; clear hE) | refine RGs.skp (fun _ => rfl) rfl ?_ | (refine RGs.bq (fun _ => rfl) rfl (by intro vs w hE hP; have H := H.ext hE; first | exact dbQ | fail) (fun hc => ?_) (fun hc => ?_) <;> ((try simp only [cmpP, decide_eq_true_eq, decide_eq_false_iff_not, dcd_iff, dcd_no] at hc); try exact prDQ)) | refine RGs.pq (fun _ => rfl) rfl (by intro vs w hE hP; have H := H.ext hE; first | exact dvQ | fail) ?_)
        exact ⟨its.length - (j + 1), by omega, j + 1, A', rfl, by omega, by (repeat' (first | exact Agree.refl _ _ | exact Agree.havoc | refine Agree.upd rfl ?_ | refine Agree.hav2 rfl ?_)), rfl, hJ', H.picks (L' := [_]) [1] rfl (by decide)⟩
      · have e' : vs (0 + 1 + 1 + 1 + 1 + 1 + 1 + 1 + 1 + 1 + 1 + 1) = .bool false := e
        dsimp only
        rw [e']
        repeat' (first | ((first | refine WL.p rfl ?_ | refine WL.u ?_ | refine WL.g rfl rfl ?_ | refine WL.gu rfl ?_); first | refine pvQ ?_ | (refine opk 3 rfl ?_; (refine ost_cmp rfl rfl rfl rfl (fun hc => ?_) (fun hc => ?_) <;> (simp only [cmpP] at hc; try exact prIQ))) | (refine opk 4 rfl ?_; (refine ost_cmp rfl rfl rfl rfl (fun hc => ?_) (fun hc => ?_) <;> (simp only [cmpP] at hc; try exact prIQ))) | (refine opk 8 rfl ?_; (refine ost_storeW H rfl rfl rfl rfl lQ ixQ lQ okQ ?_; clear H; intro wk H; simp only [List.set_cons_zero, List.set_cons_succ, Nat.reduceAdd] at H)) | (refine opk 9 rfl ?_; (refine ost_allocA H rfl ?_; clear H; intro bk wk H))) | refine Wc.seq ?_ | refine then_n ?_ | refine WL.nil ?_ | refine Wc.region ?_ | refine Wc.block ?_ | refine then_r ?_ | refine then_e ?_ | refine inb_e rfl ?_ | refine inb_o rfl ?_ | refine inb_n ?_ | refine inb_r ?_ | refine Wc.skip ?_ | refine Wc.exit ?_ | refine Wc.ret ?_ | refine Wc.cond_true rfl ?_ | refine Wc.cond_false rfl ?_ | (refine Wc.drawn (id := 5) 26 (by kernel_rfl) ?_) | refine WL.skp rfl rfl ?_ | refine WL.sku rfl ?_ | (refine rgs_nil ?_; intro vs wk hE; replace H := H.ext hE; clear hE) | refine RGs.skp (fun _ => rfl) rfl ?_ | (refine RGs.bq (fun _ => rfl) rfl (by intro vs w hE hP; have H := H.ext hE; first | exact dbQ | fail) (fun hc => ?_) (fun hc => ?_) <;> ((try simp only [cmpP, decide_eq_true_eq, decide_eq_false_iff_not, dcd_iff, dcd_no] at hc); try exact prDQ)) | refine RGs.pq (fun _ => rfl) rfl (by intro vs w hE hP; have H := H.ext hE; first | exact dvQ | fail) ?_)
        exact fn_ret1 (v := .bool _) rfl rfl ⟨_, _, H.picks (L' := [_]) [1] rfl (by decide), A', rfl, .inr ⟨rfl, _, hpre, hX'⟩⟩
    · obtain rfl : j = its.length := by omega
      rw [List.take_length] at hJ
      repeat' (first | ((first | refine WL.p rfl ?_ | refine WL.u ?_ | refine WL.g rfl rfl ?_ | refine WL.gu rfl ?_); first | refine pvQ ?_ | (refine opk 3 rfl ?_; (refine ost_cmp rfl rfl rfl rfl (fun hc => ?_) (fun hc => ?_) <;> (simp only [cmpP] at hc; try exact prIQ))) | (refine opk 4 rfl ?_; (refine ost_cmp rfl rfl rfl rfl (fun hc => ?_) (fun hc => ?_) <;> (simp only [cmpP] at hc; try exact prIQ))) | (refine opk 8 rfl ?_; (refine ost_storeW H rfl rfl rfl rfl lQ ixQ lQ okQ ?_; clear H; intro wk H; simp only [List.set_cons_zero, List.set_cons_succ, Nat.reduceAdd] at H)) | (refine opk 9 rfl ?_; (refine ost_allocA H rfl ?_; clear H; intro bk wk H))) | refine Wc.seq ?_ | refine then_n ?_ | refine WL.nil ?_ | refine Wc.region ?_ | refine Wc.block ?_ | refine then_r ?_ | refine then_e ?_ | refine inb_e rfl ?_ | refine inb_o rfl ?_ | refine inb_n ?_ | refine inb_r ?_ | refine Wc.skip ?_ | refine Wc.exit ?_ | refine Wc.ret ?_ | refine Wc.cond_true rfl ?_ | refine Wc.cond_false rfl ?_ | (refine Wc.drawn (id := 5) 26 (by kernel_rfl) ?_) | refine WL.skp rfl rfl ?_ | refine WL.sku rfl ?_ | (refine rgs_nil ?_; intro vs wk hE; replace H := H.ext hE; clear hE) | refine RGs.skp (fun _ => rfl) rfl ?_ | (refine RGs.bq (fun _ => rfl) rfl (by intro vs w hE hP; have H := H.ext hE; first | exact dbQ | fail) (fun hc => ?_) (fun hc => ?_) <;> ((try simp only [cmpP, decide_eq_true_eq, decide_eq_false_iff_not, dcd_iff, dcd_no] at hc); try exact prDQ)) | refine RGs.pq (fun _ => rfl) rfl (by intro vs w hE hP; have H := H.ext hE; first | exact dvQ | fail) ?_)
      exact fn_ret1 (v := .bool _) rfl rfl ⟨_, _, H, A2, rfl, .inl ⟨rfl, hJ⟩⟩
  | succ d ih =>
    intro s pre0 post0 g A W hok hrep hxs hle HO hJ
    obtain ⟨A1, hlk, hPg⟩ := hrep.top
    have hgm := fun z => getM_look z hlk
    have t1 := hle _ _ hT.t
    have t2 := hle _ _ hT.m
    replace hPg := hPg.mono hle
    have lp := pgV_len (Sh.page (d + 1) s) A1
    have hits : Sh.its (d + 1) s = (s.2.map (Sh.its d)).flatten := rfl
    rw [hits] at hxs ⊢
    have H := HO
    generalize hF9 : A.fp = F9 at H ⊢
    have hkl : (Sh.page (d + 1) s).keys.length = s.2.length := List.length_map ..
    have hdl : (Sh.page (d + 1) s).kids.length = s.2.length := List.length_map ..
    have hlf : (Sh.page (d + 1) s).leaf = false := rfl
    have hsl : s.2.length ≤ 8 := hok.2.1
    unfold Spec
    refine calls_of Try.func61 rfl Try.ntmps61 (by simp) ?_
    repeat' (first | ((first | refine WL.p rfl ?_ | refine WL.u ?_ | refine WL.g rfl rfl ?_ | refine WL.gu rfl ?_); first | (refine opk 13 rfl ?_; (refine ost_lookup0 (k := Sh.num (d + 1) s) rfl rfl rfl (H.sat _ _ t2) ?_; rw [hgm])) | refine pvQ ?_ | (refine opk 3 rfl ?_; (refine ost_cmp rfl rfl rfl rfl (fun hc => ?_) (fun hc => ?_) <;> (simp only [cmpP] at hc; try exact prIQ))) | (refine opk 4 rfl ?_; (refine ost_cmp rfl rfl rfl rfl (fun hc => ?_) (fun hc => ?_) <;> (simp only [cmpP] at hc; try exact prIQ))) | (refine opk 8 rfl ?_; (refine ost_storeW H rfl rfl rfl rfl lQ ixQ lQ okQ ?_; clear H; intro wk H; simp only [List.set_cons_zero, List.set_cons_succ, Nat.reduceAdd] at H)) | (refine opk 9 rfl ?_; (refine ost_allocA H rfl ?_; clear H; intro bk wk H))) | refine Wc.seq ?_ | refine then_n ?_ | refine WL.nil ?_ | refine Wc.region ?_ | refine Wc.block ?_ | refine then_r ?_ | refine then_e ?_ | refine inb_e rfl ?_ | refine inb_o rfl ?_ | refine inb_n ?_ | refine inb_r ?_ | refine Wc.skip ?_ | refine Wc.exit ?_ | refine Wc.ret ?_ | refine Wc.cond_true rfl ?_ | refine Wc.cond_false rfl ?_ | (refine Wc.drawn (id := 5) 26 (by kernel_rfl) ?_) | refine WL.skp rfl rfl ?_ | refine WL.sku rfl ?_ | (refine rgs_nil ?_; intro vs wk hE; replace H := H.ext hE; clear hE) | refine RGs.skp (fun _ => rfl) rfl ?_ | (refine RGs.bq (fun _ => rfl) rfl (by intro vs w hE hP; have H := H.ext hE; first | exact dbQ | fail) (fun hc => ?_) (fun hc => ?_) <;> ((try simp only [cmpP, decide_eq_true_eq, decide_eq_false_iff_not, dcd_iff, dcd_no] at hc); try exact prDQ)) | refine RGs.pq (fun _ => rfl) rfl (by intro vs w hE hP; have H := H.ext hE; first | exact dvQ | fail) ?_)
    rw [hkl]
    obtain ⟨b7, e7⟩ := H.nameB idx0
    subst e7
    obtain ⟨g1, hle1, hb7, H7⟩ := H.freezeB
    clear H; have H := H7; clear H7 hlk hgm hF9
    replace hPg := hPg.mono hle1
    have hle2 := hle.trans hle1
    refine Wc.loopE (fun s0 m st w' => ∃ (j : Nat) (A2 : HA) (g2 : FH), m = s.2.length - j ∧ j ≤ s.2.length ∧ FLe g1 g2 ∧ Agree [6, 8, 9, 19, 20, 21, 22, 23, 24, 25, 26, 27, 28, 29, 30, 31, 32, 33, 34, 35, 36, 37, 38, 39, 40, 41, 42, 43, 44, 45, 46, 47, 48, 49, 50, 51, 52, 53, 54] st s0 ∧ st 19 = .int .i64 j ∧ J (pre0 ++ ((s.2.take j).map (Sh.its d)).flatten) A2 ∧ St W F9 g g2 [A2] w') s.2.length ⟨0, A, g1, rfl, by omega, FLe.refl _, Agree.refl _ _, rfl, by rw [List.take_zero]; simpa using hJ, H⟩ ?_
    clear H hJ
    rintro m st w' ⟨j, A2, g2, rfl, hj, hle3, hA, e1, hJ, H⟩
    obtain ⟨j9, rfl⟩ := hA.env1 e1
    clear hA e1
    replace hb7 := hle3 _ _ hb7
    replace hPg := hPg.mono hle3
    by_cases hlt : j < s.2.length
    · obtain ⟨c, hc⟩ : ∃ c, (s.2 : List (Sh d))[j]? = some c := ⟨_, List.getElem?_eq_getElem hlt⟩
      have hcm : c ∈ s.2 := List.mem_of_getElem? hc
      have hsucc : (s.2 : List (Sh d)).take (j + 1) = s.2.take j ++ [c] := by rw [List.take_add_one, hc]; rfl
      have hspl : (s.2.map (Sh.its d)).flatten = ((s.2.take j).map (Sh.its d)).flatten ++ Sh.its d c ++ ((s.2.drop (j + 1)).map (Sh.its d)).flatten := by
        have e : (s.2 : List (Sh d)) = s.2.take j ++ c :: s.2.drop (j + 1) := by
          have : (s.2 : List (Sh d))[j] = c := (List.getElem?_eq_some_iff.1 hc).2
          rw [← this, ← List.drop_eq_getElem_cons hlt, List.take_append_drop]
        conv => lhs; rw [e]
        rw [List.map_append, List.map_cons, List.flatten_append, List.flatten_cons, List.append_assoc]
      have hnxt : pre0 ++ ((s.2.take (j + 1)).map (Sh.its d)).flatten = pre0 ++ ((s.2.take j).map (Sh.its d)).flatten ++ Sh.its d c := by
        rw [hsucc, List.map_append, List.flatten_append, List.append_assoc]
        congr 2
        exact List.flatten_singleton ..
      have ihc := fun W H => ih c (pre0 ++ ((s.2.take j).map (Sh.its d)).flatten) (((s.2.drop (j + 1)).map (Sh.its d)).flatten ++ post0) g2 A2 W (hok.2.2 c hcm).1 (hrep.kid hcm) (by rw [← hxs, hspl]; simp only [List.append_assoc]) (hle2.trans hle3) H hJ
      rw [← hnxt] at ihc
      obtain ⟨b, off, L9, T9, fr, e2, eb, eg⟩ := hPg.k.getM (by decide) (show 0 < (Sh.page (d + 1) s).keys.length by omega)
      have q1 := eg (j : Int).toNat j (by omega) (by omega)
      clear eg
      generalize (Sh.page (d + 1) s).keys[j]'(by omega) = kk at q1
      obtain ⟨b', off', L9', T9', fr', e2', eb', eg⟩ := hPg.d.getM (by decide) (show 0 < (Sh.page (d + 1) s).kids.length by omega)
      have q2 := eg (j : Int).toNat j (by omega) (by omega)
      have hkn : (Sh.page (d + 1) s).kids[j]'(by omega) = Sh.num d c := by
        have : (s.2.map (Sh.num d))[j]? = some (Sh.num d c) := by rw [List.getElem?_map, hc]; rfl
        exact (List.getElem?_eq_some_iff.1 this).2
      rw [hkn] at q2
      have gc : L9'[off' + (j : Int).toNat * 1]? = some (.int .u32 ((Sh.num d c).toNat : Nat)) := by
        have := row_cell q2 (q := 0) (by simp [cKid])
        simpa [cKid] using this
      clear eg q2 hkn hspl hsucc hnxt
      have lk := cKey_len kk
      obtain ⟨ak, ck, al, cl, ad, cd⟩ := A1
      dsimp only at e2 e2'
      subst e2 e2'
      repeat' (first | ((first | refine WL.p rfl ?_ | refine WL.u ?_ | refine WL.g rfl rfl ?_ | refine WL.gu rfl ?_); first | refine pvQ ?_ | (refine opk 3 rfl ?_; (refine ost_cmp rfl rfl rfl rfl (fun hc => ?_) (fun hc => ?_) <;> (simp only [cmpP] at hc; try exact prIQ))) | (refine opk 4 rfl ?_; (refine ost_cmp rfl rfl rfl rfl (fun hc => ?_) (fun hc => ?_) <;> (simp only [cmpP] at hc; try exact prIQ))) | (refine opk 8 rfl ?_; (refine ost_storeW H rfl rfl rfl rfl lQ ixQ lQ okQ ?_; clear H; intro wk H; simp only [List.set_cons_zero, List.set_cons_succ, Nat.reduceAdd] at H)) | (refine opk 9 rfl ?_; (refine ost_allocA H rfl ?_; clear H; intro bk wk H))) | refine Wc.seq ?_ | refine then_n ?_ | refine WL.nil ?_ | refine Wc.region ?_ | refine Wc.block ?_ | refine then_r ?_ | refine then_e ?_ | refine inb_e rfl ?_ | refine inb_o rfl ?_ | refine inb_n ?_ | refine inb_r ?_ | refine Wc.skip ?_ | refine Wc.exit ?_ | refine Wc.ret ?_ | refine Wc.cond_true rfl ?_ | refine Wc.cond_false rfl ?_ | refine WL.skp rfl rfl ?_ | refine WL.sku rfl ?_)
      obtain ⟨b9, e9⟩ := H.nameB idx0
      subst e9
      repeat' (first | ((first | refine WL.p rfl ?_ | refine WL.u ?_ | refine WL.g rfl rfl ?_ | refine WL.gu rfl ?_); first | (refine opk 1 rfl ?_; (refine ost_H H rfl idx1 (fun HO => ihc _ HO) rfl ?_; clear H; rintro vk wk hfk Lk ⟨A', rfl, hres⟩ hle H; simp only [List.cons_append, List.nil_append, List.eraseIdx_cons_zero, List.eraseIdx_cons_succ] at H)) | refine pvQ ?_ | (refine opk 3 rfl ?_; (refine ost_cmp rfl rfl rfl rfl (fun hc => ?_) (fun hc => ?_) <;> (simp only [cmpP] at hc; try exact prIQ))) | (refine opk 4 rfl ?_; (refine ost_cmp rfl rfl rfl rfl (fun hc => ?_) (fun hc => ?_) <;> (simp only [cmpP] at hc; try exact prIQ))) | (refine opk 8 rfl ?_; (refine ost_storeW H rfl rfl rfl rfl lQ ixQ lQ okQ ?_; clear H; intro wk H; simp only [List.set_cons_zero, List.set_cons_succ, Nat.reduceAdd] at H)) | (refine opk 9 rfl ?_; (refine ost_allocA H rfl ?_; clear H; intro bk wk H))) | refine Wc.seq ?_ | refine then_n ?_ | refine WL.nil ?_ | refine Wc.region ?_ | refine Wc.block ?_ | refine then_r ?_ | refine then_e ?_ | refine inb_e rfl ?_ | refine inb_o rfl ?_ | refine inb_n ?_ | refine inb_r ?_ | refine Wc.skip ?_ | refine Wc.exit ?_ | refine Wc.ret ?_ | refine Wc.cond_true rfl ?_ | refine Wc.cond_false rfl ?_ | (refine Wc.drawn (id := 5) 26 (by kernel_rfl) ?_) | refine WL.skp rfl rfl ?_ | refine WL.sku rfl ?_ | (refine rgs_nil ?_; intro vs wk hE; replace H := H.ext hE; clear hE) | refine RGs.skp (fun _ => rfl) rfl ?_ | (refine RGs.bq (fun _ => rfl) rfl (by intro vs w hE hP; have H := H.ext hE; first | exact dbQ | fail) (fun hc => ?_) (fun hc => ?_) <;> ((try simp only [cmpP, decide_eq_true_eq, decide_eq_false_iff_not, dcd_iff, dcd_no] at hc); try exact prDQ)) | refine RGs.pq (fun _ => rfl) rfl (by intro vs w hE hP; have H := H.ext hE; first | exact dvQ | fail) ?_)
      rcases hres with ⟨rfl, hJ'⟩ | ⟨rfl, pre, hp1, hp2⟩
      · repeat' (first | ((first | refine WL.p rfl ?_ | refine WL.u ?_ | refine WL.g rfl rfl ?_ | refine WL.gu rfl ?_); first | refine pvQ ?_ | (refine opk 3 rfl ?_; (refine ost_cmp rfl rfl rfl rfl (fun hc => ?_) (fun hc => ?_) <;> (simp only [cmpP] at hc; try exact prIQ))) | (refine opk 4 rfl ?_; (refine ost_cmp rfl rfl rfl rfl (fun hc => ?_) (fun hc => ?_) <;> (simp only [cmpP] at hc; try exact prIQ))) | (refine opk 8 rfl ?_; (refine ost_storeW H rfl rfl rfl rfl lQ ixQ lQ okQ ?_; clear H; intro wk H; simp only [List.set_cons_zero, List.set_cons_succ, Nat.reduceAdd] at H)) | (refine opk 9 rfl ?_; (refine ost_allocA H rfl ?_; clear H; intro bk wk H))) | refine Wc.seq ?_ | refine then_n ?_ | refine WL.nil ?_ | refine Wc.region ?_ | refine Wc.block ?_ | refine then_r ?_ | refine then_e ?_ | refine inb_e rfl ?_ | refine inb_o rfl ?_ | refine inb_n ?_ | refine inb_r ?_ | refine Wc.skip ?_ | refine Wc.exit ?_ | refine Wc.ret ?_ | refine Wc.cond_true rfl ?_ | refine Wc.cond_false rfl ?_ | (refine Wc.drawn (id := 5) 26 (by kernel_rfl) ?_) | refine WL.skp rfl rfl ?_ | refine WL.sku rfl ?_ | (refine rgs_nil ?_; intro vs wk hE; replace H := H.ext hE; clear hE) | refine RGs.skp (fun _ => rfl) rfl ?_ | (refine RGs.bq (fun _ => rfl) rfl (by intro vs w hE hP; have H := H.ext hE; first | exact dbQ | fail) (fun hc => ?_) (fun hc => ?_) <;> ((try simp only [cmpP, decide_eq_true_eq, decide_eq_false_iff_not, dcd_iff, dcd_no] at hc); try exact prDQ)) | refine RGs.pq (fun _ => rfl) rfl (by intro vs w hE hP; have H := H.ext hE; first | exact dvQ | fail) ?_)
        exact ⟨s.2.length - (j + 1), by omega, j + 1, A', hfk, rfl, by omega, hle3.trans ‹FLe g2 hfk›, by (repeat' (first | exact Agree.refl _ _ | exact Agree.havoc | refine Agree.upd rfl ?_ | refine Agree.hav2 rfl ?_)), rfl, hJ', H.picks (L' := [_]) [0] rfl (by decide)⟩
      · repeat' (first | ((first | refine WL.p rfl ?_ | refine WL.u ?_ | refine WL.g rfl rfl ?_ | refine WL.gu rfl ?_); first | refine pvQ ?_ | (refine opk 3 rfl ?_; (refine ost_cmp rfl rfl rfl rfl (fun hc => ?_) (fun hc => ?_) <;> (simp only [cmpP] at hc; try exact prIQ))) | (refine opk 4 rfl ?_; (refine ost_cmp rfl rfl rfl rfl (fun hc => ?_) (fun hc => ?_) <;> (simp only [cmpP] at hc; try exact prIQ))) | (refine opk 8 rfl ?_; (refine ost_storeW H rfl rfl rfl rfl lQ ixQ lQ okQ ?_; clear H; intro wk H; simp only [List.set_cons_zero, List.set_cons_succ, Nat.reduceAdd] at H)) | (refine opk 9 rfl ?_; (refine ost_allocA H rfl ?_; clear H; intro bk wk H))) | refine Wc.seq ?_ | refine then_n ?_ | refine WL.nil ?_ | refine Wc.region ?_ | refine Wc.block ?_ | refine then_r ?_ | refine then_e ?_ | refine inb_e rfl ?_ | refine inb_o rfl ?_ | refine inb_n ?_ | refine inb_r ?_ | refine Wc.skip ?_ | refine Wc.exit ?_ | refine Wc.ret ?_ | refine Wc.cond_true rfl ?_ | refine Wc.cond_false rfl ?_ | (refine Wc.drawn (id := 5) 26 (by kernel_rfl) ?_) | refine WL.skp rfl rfl ?_ | refine WL.sku rfl ?_ | (refine rgs_nil ?_; intro vs wk hE; replace H := H.ext hE; clear hE) | refine RGs.skp (fun _ => rfl) rfl ?_ | (refine RGs.bq (fun _ => rfl) rfl (by intro vs w hE hP; have H := H.ext hE; first | exact dbQ | fail) (fun hc => ?_) (fun hc => ?_) <;> ((try simp only [cmpP, decide_eq_true_eq, decide_eq_false_iff_not, dcd_iff, dcd_no] at hc); try exact prDQ)) | refine RGs.pq (fun _ => rfl) rfl (by intro vs w hE hP; have H := H.ext hE; first | exact dvQ | fail) ?_)
        exact fn_ret1 (v := .bool _) rfl rfl ⟨_, _, H.picks (L' := [_]) [0] rfl (by decide), A', rfl, .inr ⟨rfl, pre, hp1, hp2⟩⟩
    · obtain rfl : j = s.2.length := by omega
      rw [List.take_length] at hJ
      repeat' (first | ((first | refine WL.p rfl ?_ | refine WL.u ?_ | refine WL.g rfl rfl ?_ | refine WL.gu rfl ?_); first | refine pvQ ?_ | (refine opk 3 rfl ?_; (refine ost_cmp rfl rfl rfl rfl (fun hc => ?_) (fun hc => ?_) <;> (simp only [cmpP] at hc; try exact prIQ))) | (refine opk 4 rfl ?_; (refine ost_cmp rfl rfl rfl rfl (fun hc => ?_) (fun hc => ?_) <;> (simp only [cmpP] at hc; try exact prIQ))) | (refine opk 8 rfl ?_; (refine ost_storeW H rfl rfl rfl rfl lQ ixQ lQ okQ ?_; clear H; intro wk H; simp only [List.set_cons_zero, List.set_cons_succ, Nat.reduceAdd] at H)) | (refine opk 9 rfl ?_; (refine ost_allocA H rfl ?_; clear H; intro bk wk H))) | refine Wc.seq ?_ | refine then_n ?_ | refine WL.nil ?_ | refine Wc.region ?_ | refine Wc.block ?_ | refine then_r ?_ | refine then_e ?_ | refine inb_e rfl ?_ | refine inb_o rfl ?_ | refine inb_n ?_ | refine inb_r ?_ | refine Wc.skip ?_ | refine Wc.exit ?_ | refine Wc.ret ?_ | refine Wc.cond_true rfl ?_ | refine Wc.cond_false rfl ?_ | (refine Wc.drawn (id := 5) 26 (by kernel_rfl) ?_) | refine WL.skp rfl rfl ?_ | refine WL.sku rfl ?_ | (refine rgs_nil ?_; intro vs wk hE; replace H := H.ext hE; clear hE) | refine RGs.skp (fun _ => rfl) rfl ?_ | (refine RGs.bq (fun _ => rfl) rfl (by intro vs w hE hP; have H := H.ext hE; first | exact dbQ | fail) (fun hc => ?_) (fun hc => ?_) <;> ((try simp only [cmpP, decide_eq_true_eq, decide_eq_false_iff_not, dcd_iff, dcd_no] at hc); try exact prDQ)) | refine RGs.pq (fun _ => rfl) rfl (by intro vs w hE hP; have H := H.ext hE; first | exact dvQ | fail) ?_)
      exact fn_ret1 (v := .bool _) rfl rfl ⟨_, _, H, A2, rfl, .inl ⟨rfl, hJ⟩⟩
end Go.Tg

set_option linter.unusedVariables false
set_option linter.unusedSimpArgs false
set_option maxRecDepth 100000
set_option maxHeartbeats 4000000
namespace Go.Tg
open Go Go.Proofs
theorem tr_all (tb : Nat) (n : UInt32) (h0 : FH) (w : World) (hs : Sat h0 w) :
    Spec Try.prog 43 #[pT tb, .int .u32 (n.toNat : Nat)] w [] h0 (fun v h' L' => ∃ b2 b3, v = .func (.func 60) #[] #[pT b2, pT b3] ∧ L' = [] ∧ h' b2 = some (.cells [pT tb].toArray 30 (0, 0)) ∧ h' b3 = some (.cells [Value.int .u32 (n.toNat : Nat)].toArray 24 (0, 0))) := by
  have H := St.start hs
  unfold Spec
  refine calls_of Try.func43 rfl Try.ntmps43 (by simp) ?_
  repeat' (first | ((first | refine WL.p rfl ?_ | refine WL.u ?_); first | refine pvQ ?_ | (refine opk 9 rfl ?_; (refine ost_boxq H rfl ?_; clear H; intro bk wk H))) | refine Wc.seq ?_ | refine then_n ?_ | refine WL.nil ?_ | refine Wc.region ?_ | refine Wc.block ?_ | refine then_r ?_ | refine then_e ?_ | refine inb_e rfl ?_ | refine inb_o rfl ?_ | refine inb_n ?_ | refine inb_r ?_ | refine Wc.skip ?_ | refine Wc.exit ?_ | refine Wc.ret ?_ | refine Wc.cond_true rfl ?_ | refine Wc.cond_false rfl ?_)
  obtain ⟨b3, e3⟩ := H.nameB idx0
  subst e3
  obtain ⟨b2, e2⟩ := H.nameB idx1
  subst e2
  obtain ⟨h1, hle1, hb3, H7⟩ := H.freezeB
  obtain ⟨h2, hle2, hb2, H8⟩ := H7.freezeB
  exact fn_ret1 (v := .func _ _ _) rfl rfl ⟨_, _, H8, _, _, rfl, rfl, hb2, hle2 _ _ hb3⟩
theorem tr_all1 (tb mb rb : Nat) (T : TrM) (h : FH) (hT : TrF h tb mb rb T) (d : Nat) (s : Sh d) (hok : Sh.Ok d s) (hrep : Rep h T d s) (b2 b3 : Nat) (hb2 : h b2 = some (.cells [pT tb].toArray 30 (0, 0))) (hb3 : h b3 = some (.cells [Value.int .u32 ((Sh.num d s).toNat : Nat)].toArray 24 (0, 0))) :
    ItSp Try.prog 60 [pT b2, pT b3] h cIt (Sh.its d s) := by
  intro l J X g A W hle HA hJ hY
  have c2 := hle _ _ hb2
  have c3 := hle _ _ hb3
  have H := HA
  have hit := fun W HO => tr_items tb mb rb T h hT l J X (Sh.its d s) hY d s [] [] g A W hok hrep (by simp) hle HO hJ
  generalize hF9 : A.fp = F9 at H ⊢
  unfold Spec
  refine calls_of Try.func60 rfl Try.ntmps60 (by simp) ?_
  repeat' (first | ((first | refine WL.p rfl ?_ | refine WL.u ?_); first | (refine opk 1 rfl ?_; (refine ost_H H rfl idx0 (fun HO => hit _ HO) rfl ?_; clear H; rintro vk wk hfk Lk ⟨A', rfl, hres⟩ hle H; simp only [List.cons_append, List.nil_append, List.eraseIdx_cons_zero, List.eraseIdx_cons_succ] at H)) | refine pvQ ?_) | refine Wc.seq ?_ | refine then_n ?_ | refine WL.nil ?_ | refine Wc.region ?_ | refine Wc.block ?_ | refine then_r ?_ | refine then_e ?_ | refine inb_e rfl ?_ | refine inb_o rfl ?_ | refine inb_n ?_ | refine inb_r ?_ | refine Wc.skip ?_ | refine Wc.exit ?_ | refine Wc.ret ?_ | refine Wc.cond_true rfl ?_ | refine Wc.cond_false rfl ?_)
  refine fn_end0 rfl ⟨_, _, H, A', rfl, ?_⟩
  rcases hres with ⟨-, h9⟩ | ⟨-, h9⟩
  · exact .inl (by simpa using h9)
  · exact .inr h9
theorem app_seq (gf : Nat) [Fun Try.prog gf] (lb : List Value) (xs : List ItemT) (h0 : FH) (w : World) (hs : Sat h0 w) (hx : xs.length ≤ 1000000) (hseq : ItSp Try.prog gf lb h0 cIt xs) :
    Spec Try.prog 62 #[.slice none 0 0, .func (.func gf) #[] lb.toArray] w [] h0 (fun v h' L' => ∃ a c, v = .slice a xs.length c ∧ L' = [ownR (.slice a xs.length c) 50 5 (xs.map cItem)]) := by
  have H := St.start hs
  unfold Spec
  refine calls_ofD Try.func62 rfl Try.ntmps62 (by simp) ?_
  -- refine calls_of Try.func62 rfl Try.ntmps62 (by simp) ?_
  refine WcD.seqW ?_
  repeat' (first | ((first | refine WL.p rfl ?_ | refine WL.u ?_); first | refine pvQ ?_ | (refine opk 8 rfl ?_; first | (refine ost_store1 H rfl rfl vlQ gvQ ixQ (by first | decide | (simp; omega) | (simp; done) | omega) ?_; clear H; intro wk H; simp only [List.set_cons_zero, List.set_cons_succ, Nat.reduceAdd] at H) | (refine ost_storeW H rfl rfl rfl rfl lQ ixQ lQ okQ ?_; clear H; intro wk H; simp only [List.set_cons_zero, List.set_cons_succ, Nat.reduceAdd] at H)) | (refine opk 9 rfl ?_; first | (refine ost_boxq H rfl ?_; clear H; intro bk wk H) | (refine ost_allocA H rfl ?_; clear H; intro bk wk H) | (refine ost_build1 H rfl rfl rfl evQ lsQ rfl ?_; clear H; intro bk wk H))) | refine Wc.seq ?_ | refine then_n ?_ | refine WL.nil ?_ | refine Wc.region ?_ | refine Wc.block ?_ | refine then_r ?_ | refine then_e ?_ | refine inb_e rfl ?_ | refine inb_o rfl ?_ | refine inb_n ?_ | refine inb_r ?_ | refine Wc.skip ?_ | refine Wc.exit ?_ | refine Wc.ret ?_ | refine Wc.cond_true rfl ?_ | refine Wc.cond_false rfl ?_)
  refine WcD.seq ?_
  refine WcD.seqW ?_
  repeat' (first | ((first | refine WL.p rfl ?_ | refine WL.u ?_); first | refine pvQ ?_ | (refine opk 8 rfl ?_; first | (refine ost_store1 H rfl rfl vlQ gvQ ixQ (by first | decide | (simp; omega) | (simp; done) | omega) ?_; clear H; intro wk H; simp only [List.set_cons_zero, List.set_cons_succ, Nat.reduceAdd] at H) | (refine ost_storeW H rfl rfl rfl rfl lQ ixQ lQ okQ ?_; clear H; intro wk H; simp only [List.set_cons_zero, List.set_cons_succ, Nat.reduceAdd] at H)) | (refine opk 9 rfl ?_; first | (refine ost_boxq H rfl ?_; clear H; intro bk wk H) | (refine ost_allocA H rfl ?_; clear H; intro bk wk H) | (refine ost_build1 H rfl rfl rfl evQ lsQ rfl ?_; clear H; intro bk wk H))) | refine Wc.seq ?_ | refine then_n ?_ | refine WL.nil ?_ | refine Wc.region ?_ | refine Wc.block ?_ | refine then_r ?_ | refine then_e ?_ | refine inb_e rfl ?_ | refine inb_o rfl ?_ | refine inb_n ?_ | refine inb_r ?_ | refine Wc.skip ?_ | refine Wc.exit ?_ | refine Wc.ret ?_ | refine Wc.cond_true rfl ?_ | refine Wc.cond_false rfl ?_)
  refine WcD.block ?_
  obtain ⟨b2, e2⟩ := H.nameB idx0
  subst e2
  refine WcD.nameS fun S0 hS0 => ?_
  refine WcD.rangeB (Lb := [.blk b2 (.cells [Value.slice none 0 0].toArray 57 (0, 0)), ownR (.slice none 0 0) 50 5 []]) (Lr := []) ((H.nilOwn 50 5).picks [1, 0] rfl (by decide)) (by rw [← hS0]; rfl) hseq rfl
    (fun pre L => ∃ a c, L = [.blk b2 (.cells [Value.slice a pre.length c].toArray 57 (0, 0)), ownR (.slice a pre.length c) 50 5 (pre.map cItem)]) (fun _ _ _ => False)
    (fun pre x s' L => ∃ b5 a c, s' = upd (upd S0 7 (cIt x)) 5 (pT b5) ∧ L = [.blk b5 (.cells (cItem x).toArray 50 (0, 0)), .blk b2 (.cells [Value.slice a pre.length c].toArray 57 (0, 0)), ownR (.slice a pre.length c) 50 5 (pre.map cItem)]) ⟨none, 0, rfl⟩ ?_ ?_ ?_ (fun _ _ _ _ _ _ _ hX => hX.elim)
  · rintro pre x ws W S g1 L B hpre hle9 ⟨a, c, rfl⟩ H
    have lx := cItem_len x
    have ox := allOne_of (cItem_one x)
    unfold cIt
    simp only [List.cons_append, List.nil_append] at H
    repeat' (first | ((first | refine WL.p rfl ?_ | refine WL.u ?_); first | refine pvQ ?_ | (refine opk 8 rfl ?_; first | (refine ost_store1 H rfl rfl vlQ gvQ ixQ (by first | decide | (simp; omega) | (simp; done) | omega) ?_; clear H; intro wk H; simp only [List.set_cons_zero, List.set_cons_succ, Nat.reduceAdd] at H) | (refine ost_storeW H rfl rfl rfl rfl lQ ixQ lQ okQ ?_; clear H; intro wk H; simp only [List.set_cons_zero, List.set_cons_succ, Nat.reduceAdd] at H)) | (refine opk 9 rfl ?_; first | (refine ost_boxq H rfl ?_; clear H; intro bk wk H) | (refine ost_allocA H rfl ?_; clear H; intro bk wk H) | (refine ost_build1 H rfl rfl rfl evQ lsQ rfl ?_; clear H; intro bk wk H))) | refine Wc.seq ?_ | refine then_n ?_ | refine WL.nil ?_ | refine Wc.region ?_ | refine Wc.block ?_ | refine then_r ?_ | refine then_e ?_ | refine inb_e rfl ?_ | refine inb_o rfl ?_ | refine inb_n ?_ | refine inb_r ?_ | refine Wc.skip ?_ | refine Wc.exit ?_ | refine Wc.ret ?_ | refine Wc.cond_true rfl ?_ | refine Wc.cond_false rfl ?_)
    exact ⟨rfl, _, g1, FLe.refl _, ⟨_, a, c, rfl, rfl⟩, H⟩
  · rintro pre x s' ws W S g1 g2 L B hpre hle9 ⟨b5, a, c, rfl, rfl⟩ H
    subst hS0
    have lx := cItem_len x
    have ox := allOne_of (cItem_one x)
    have hpl := hpre.length_le
    rw [List.length_append, List.length_singleton] at hpl
    have hml : (pre.map cItem).length ≤ 1000000 := by rw [List.length_map]; omega
    simp only [List.cons_append, List.nil_append] at H
    repeat' (first | ((first | refine WL.p rfl ?_ | refine WL.u ?_); first | (refine opk 1 rfl ?_; (refine ost_appR (i := 3) (j := 0) (sz := 5) (rows := pre.map cItem) (row := cItem x) H rfl rfl rfl rfl rfl (by rfl) (by decide) rfl ox rfl (by omega) ?_; clear H; intro aa ca wk H; simp only [List.set_cons_zero, List.set_cons_succ] at H)) | (refine opk 9 rfl ?_; (refine ost_buildR (rows := [cItem x]) H rfl (by decide) rfl (by rfl) (evP1 vxQ) (.cons rfl .nil) rfl (fun r hr => by rw [List.mem_singleton.1 hr]; rfl) ?_; clear H; intro bk wk H)) | refine pvQ ?_ | (refine opk 8 rfl ?_; first | (refine ost_store1 H rfl rfl vlQ gvQ ixQ (by first | decide | (simp; omega) | (simp; done) | omega) ?_; clear H; intro wk H; simp only [List.set_cons_zero, List.set_cons_succ, Nat.reduceAdd] at H) | (refine ost_storeW H rfl rfl rfl rfl lQ ixQ lQ okQ ?_; clear H; intro wk H; simp only [List.set_cons_zero, List.set_cons_succ, Nat.reduceAdd] at H)) | (refine opk 9 rfl ?_; first | (refine ost_boxq H rfl ?_; clear H; intro bk wk H) | (refine ost_allocA H rfl ?_; clear H; intro bk wk H) | (refine ost_build1 H rfl rfl rfl evQ lsQ rfl ?_; clear H; intro bk wk H))) | refine Wc.seq ?_ | refine then_n ?_ | refine WL.nil ?_ | refine Wc.region ?_ | refine Wc.block ?_ | refine then_r ?_ | refine then_e ?_ | refine inb_e rfl ?_ | refine inb_o rfl ?_ | refine inb_n ?_ | refine inb_r ?_ | refine Wc.skip ?_ | refine Wc.exit ?_ | refine Wc.ret ?_ | refine Wc.cond_true rfl ?_ | refine Wc.cond_false rfl ?_)
    have em : pre.map cItem ++ [cItem x] = (pre ++ [x]).map cItem := by rw [List.map_append]; rfl
    have el : (pre.map cItem ++ [cItem x]).length = (pre ++ [x]).length := by rw [em, List.length_map]
    rw [el, em] at H
    exact RndPost.nn (L' := [_, _]) (H.picks (L' := [_, _, _]) [2, 3, 4] (by simp only [ownR, List.length_map]; rfl) (by decide)) ⟨aa, ca, rfl⟩
  · rintro k L' h' W ⟨a, c, rfl⟩ hle9 H
    refine inbD_n ?_
    refine thenD_n ?_
    refine WcD.of ?_
    subst hS0
    simp only [List.cons_append, List.nil_append] at H
    repeat' (first | ((first | refine WL.p rfl ?_ | refine WL.u ?_); first | refine pvQ ?_ | (refine opk 8 rfl ?_; first | (refine ost_store1 H rfl rfl vlQ gvQ ixQ (by first | decide | (simp; omega) | (simp; done) | omega) ?_; clear H; intro wk H; simp only [List.set_cons_zero, List.set_cons_succ, Nat.reduceAdd] at H) | (refine ost_storeW H rfl rfl rfl rfl lQ ixQ lQ okQ ?_; clear H; intro wk H; simp only [List.set_cons_zero, List.set_cons_succ, Nat.reduceAdd] at H)) | (refine opk 9 rfl ?_; first | (refine ost_boxq H rfl ?_; clear H; intro bk wk H) | (refine ost_allocA H rfl ?_; clear H; intro bk wk H) | (refine ost_build1 H rfl rfl rfl evQ lsQ rfl ?_; clear H; intro bk wk H))) | refine Wc.seq ?_ | refine then_n ?_ | refine WL.nil ?_ | refine Wc.region ?_ | refine Wc.block ?_ | refine then_r ?_ | refine then_e ?_ | refine inb_e rfl ?_ | refine inb_o rfl ?_ | refine inb_n ?_ | refine inb_r ?_ | refine Wc.skip ?_ | refine Wc.exit ?_ | refine Wc.ret ?_ | refine Wc.cond_true rfl ?_ | refine Wc.cond_false rfl ?_)
    refine fn_retD H fun w' H' => ?_
    exact fn_ret1 (v := .slice _ _ _) rfl rfl ⟨_, _, H'.picks (L' := [_]) [1] rfl (by decide), _, _, rfl, rfl⟩
end Go.Tg

set_option linter.unusedVariables false
set_option linter.unusedSimpArgs false
set_option maxRecDepth 100000
set_option maxHeartbeats 4000000
namespace Go.Tg
open Go Go.Proofs
theorem collect_it (gf : Nat) [Fun Try.prog gf] (lb : List Value) (xs : List ItemT) (h0 : FH) (w : World) (hs : Sat h0 w) (hx : xs.length ≤ 1000000) (hseq : ItSp Try.prog gf lb h0 cIt xs) :
    Spec Try.prog 46 #[.func (.func gf) #[] lb.toArray] w [] h0 (fun v h' L' => ∃ a c, v = .slice a xs.length c ∧ L' = [ownR (.slice a xs.length c) 50 5 (xs.map cItem)]) := by
  have H := St.start hs
  have hap := fun w hs => app_seq gf lb xs h0 w hs hx hseq
  unfold Spec
  refine calls_of Try.func46 rfl Try.ntmps46 (by simp) ?_
  repeat' (first | ((first | refine WL.p rfl ?_ | refine WL.u ?_); first | (refine opk 1 rfl ?_; (refine ost_Sk H rfl (hap _ H.sat) rfl ?_; clear H; rintro vk wk hfk Lk ⟨a, c, rfl, rfl⟩ hle H; simp only [List.cons_append, List.nil_append] at H)) | refine pvQ ?_) | refine Wc.seq ?_ | refine then_n ?_ | refine WL.nil ?_ | refine Wc.region ?_ | refine Wc.block ?_ | refine then_r ?_ | refine then_e ?_ | refine inb_e rfl ?_ | refine inb_o rfl ?_ | refine inb_n ?_ | refine inb_r ?_ | refine Wc.skip ?_ | refine Wc.exit ?_ | refine Wc.ret ?_ | refine Wc.cond_true rfl ?_ | refine Wc.cond_false rfl ?_)
  exact fn_ret1 (v := .slice _ _ _) rfl rfl ⟨_, _, H, a, c, rfl, rfl⟩
theorem tr_old (tb mb rb : Nat) (T : TrM) (n : UInt32) (h0 : FH) (w : World) (hs : Sat h0 w) (hT : TrF h0 tb mb rb T) : SpecV Try.prog 45 #[pT tb, .int .u32 (n.toNat : Nat)] w (.int .i64 (if (lookM T.roots n).isSome = true then 0 else 7)) := by
  have H := St.start hs
  have t1 := hT.t
  have t3 := hT.r
  have hgd := fun w hs => tr_goodF tb mb rb T h0 w hs hT
  have hsome := idxM_isSome T.roots n
  unfold SpecV
  refine calls_of Try.func45 rfl Try.ntmps45 (by simp) ?_
  cases hq : (lookM T.roots n).isSome with
  | true =>
    rw [hq] at hsome
    rw [if_pos rfl]
    repeat' (first | ((first | refine WL.p rfl ?_ | refine WL.u ?_); first | (refine opk 1 rfl ?_; (refine ost_V H rfl (hgd _ H.sat) rfl ?_; clear H; intro wk H)) | (refine opk 13 rfl ?_; (refine ost_lookup (k := n) rfl rfl rfl (H.sat _ _ t3) ?_; simp only [hsome, if_true])) | refine pvQ ?_) | refine Wc.seq ?_ | refine then_n ?_ | refine WL.nil ?_ | refine Wc.region ?_ | refine Wc.block ?_ | refine then_r ?_ | refine then_e ?_ | refine inb_e rfl ?_ | refine inb_o rfl ?_ | refine inb_n ?_ | refine inb_r ?_ | refine Wc.skip ?_ | refine Wc.exit ?_ | refine Wc.ret ?_ | refine Wc.cond_true rfl ?_ | refine Wc.cond_false rfl ?_)
    (first | refine fn_ret1 (v := .bool _) rfl rfl ⟨?_, H.fr⟩ | refine fn_ret1 (v := .int _ _) rfl rfl ⟨?_, H.fr⟩ | refine fn_ret1 (v := .string _) rfl rfl ⟨?_, H.fr⟩); rfl
  | false =>
    rw [hq] at hsome
    rw [if_neg Bool.false_ne_true]
    repeat' (first | ((first | refine WL.p rfl ?_ | refine WL.u ?_); first | (refine opk 1 rfl ?_; (refine ost_V H rfl (hgd _ H.sat) rfl ?_; clear H; intro wk H)) | (refine opk 13 rfl ?_; (refine ost_lookup (k := n) rfl rfl rfl (H.sat _ _ t3) ?_; simp only [hsome, if_true])) | refine pvQ ?_) | refine Wc.seq ?_ | refine then_n ?_ | refine WL.nil ?_ | refine Wc.region ?_ | refine Wc.block ?_ | refine then_r ?_ | refine then_e ?_ | refine inb_e rfl ?_ | refine inb_o rfl ?_ | refine inb_n ?_ | refine inb_r ?_ | refine Wc.skip ?_ | refine Wc.exit ?_ | refine Wc.ret ?_ | refine Wc.cond_true rfl ?_ | refine Wc.cond_false rfl ?_)
    (first | refine fn_ret1 (v := .bool _) rfl rfl ⟨?_, H.fr⟩ | refine fn_ret1 (v := .int _ _) rfl rfl ⟨?_, H.fr⟩ | refine fn_ret1 (v := .string _) rfl rfl ⟨?_, H.fr⟩); rfl
theorem tr_At (tb mb rb : Nat) (T : TrM) (d : Nat) (s : Sh d) (h0 : FH) (w : World) (hs : Sat h0 w) (hT : TrF h0 tb mb rb T) (hok : Sh.Ok d s) (hrep : Rep h0 T d s) (hl : (Sh.its d s).length ≤ 1000000) (hr : (lookM T.roots (Sh.num d s)).isSome = true) :
    Spec Try.prog 22 #[pT tb, .int .u32 ((Sh.num d s).toNat : Nat)] w [] h0 (fun v h' L' => ∃ a c, v = .tuple #[.slice a (Sh.its d s).length c, .int .i64 0] ∧ L' = [ownR (.slice a (Sh.its d s).length c) 50 5 ((Sh.its d s).map cItem)]) := by
  have H := St.start hs
  have hod := fun w hs => tr_old tb mb rb T (Sh.num d s) h0 w hs hT
  rw [hr, if_pos rfl] at hod
  have hal := fun w hs => tr_all tb (Sh.num d s) h0 w hs
  unfold Spec
  refine calls_of Try.func22 rfl Try.ntmps22 (by simp) ?_
  repeat' (first | ((first | refine WL.p rfl ?_ | refine WL.u ?_); first | (refine opk 1 rfl ?_; first | (refine ost_V H rfl (hod _ H.sat) rfl ?_; clear H; intro wk H) | (refine ost_Sk H rfl (hal _ H.sat) rfl ?_; clear H; rintro vk wk hfk Lk ⟨b2, b3, rfl, rfl, hb2, hb3⟩ hle H; simp only [List.nil_append] at H)) | refine pvQ ?_ | (refine opk 3 rfl ?_; (refine ost_cmp rfl rfl rfl rfl (fun hc => ?_) (fun hc => ?_) <;> (simp only [cmpP] at hc; try exact prIQ))) | (refine opk 4 rfl ?_; (refine ost_cmp rfl rfl rfl rfl (fun hc => ?_) (fun hc => ?_) <;> (simp only [cmpP] at hc; try exact prIQ)))) | refine Wc.seq ?_ | refine then_n ?_ | refine WL.nil ?_ | refine Wc.region ?_ | refine Wc.block ?_ | refine then_r ?_ | refine then_e ?_ | refine inb_e rfl ?_ | refine inb_o rfl ?_ | refine inb_n ?_ | refine inb_r ?_ | refine Wc.skip ?_ | refine Wc.exit ?_ | refine Wc.ret ?_ | refine Wc.cond_true rfl ?_ | refine Wc.cond_false rfl ?_)
  have hit := tr_all1 tb mb rb T hfk (hT.mono hle) d s hok (hrep.mono hle) b2 b3 hb2 hb3
  have hco := fun w hs => collect_it 60 [pT b2, pT b3] (Sh.its d s) hfk w hs hl hit
  repeat' (first | ((first | refine WL.p rfl ?_ | refine WL.u ?_); first | (refine opk 1 rfl ?_; (refine ost_Sk H rfl (hco _ H.sat) rfl ?_; clear H; rintro vk wk hfk2 Lk ⟨a, c, rfl, rfl⟩ hle2 H; simp only [List.cons_append, List.nil_append] at H)) | refine pvQ ?_ | (refine opk 3 rfl ?_; (refine ost_cmp rfl rfl rfl rfl (fun hc => ?_) (fun hc => ?_) <;> (simp only [cmpP] at hc; try exact prIQ))) | (refine opk 4 rfl ?_; (refine ost_cmp rfl rfl rfl rfl (fun hc => ?_) (fun hc => ?_) <;> (simp only [cmpP] at hc; try exact prIQ)))) | refine Wc.seq ?_ | refine then_n ?_ | refine WL.nil ?_ | refine Wc.region ?_ | refine Wc.block ?_ | refine then_r ?_ | refine then_e ?_ | refine inb_e rfl ?_ | refine inb_o rfl ?_ | refine inb_n ?_ | refine inb_r ?_ | refine Wc.skip ?_ | refine Wc.exit ?_ | refine Wc.ret ?_ | refine Wc.cond_true rfl ?_ | refine Wc.cond_false rfl ?_)
  exact fn_ret2 (v1 := .slice _ _ _) (v2 := .int _ _) rfl rfl rfl ⟨_, _, H, a, c, rfl, rfl⟩
theorem inbD_e {Q : List Deferred → Exit → Env → World → Prop} {id : Nat} {D : List Deferred} {s : Env} {w : World} (h : Q D .normal s w) : InBlockD id Q D (.exit id) s w := by
  simp only [InBlockD, if_true]; exact h
theorem rangeI_app (l m : List ItemT) (lo hi : KeyT) : rangeI (l ++ m) lo hi = rangeI l lo hi ++ rangeI m lo hi := List.filter_append ..
theorem rangeI_stop {xs pre : List ItemT} {x : ItemT} {lo hi : KeyT} (hs : Srt xs) (hp : pre ++ [x] <+: xs) (hx : lessK hi x.key = true) : rangeI xs lo hi = rangeI pre lo hi := by
  obtain ⟨r, rfl⟩ := hp
  rw [List.append_assoc, rangeI_app]
  have hno : rangeI ([x] ++ r) lo hi = [] := by
    refine List.filter_eq_nil_iff.2 fun y hy => ?_
    have hh : lessK hi y.key = true := by
      rcases List.mem_append.1 hy with hy | hy
      · rw [List.mem_singleton.1 hy]; exact hx
      · rw [Srt.app] at hs
        have h1 := hs.2.2 x (by simp) y hy
        have h2 := lessK_iff.1 hx
        exact lessK_iff.2 (by omega)
    rw [hh]; simp
  rw [hno, List.append_nil]
end Go.Tg

