/- Contracts of Go functions that the laws reach: what each call answers and leaves in memory, for all arguments within the bounds that each theorem names. -/
import Derived.Test.YtbfilhaigbebpaaDoorInst
import Derived.Test.YtbfilhaigbebpaaDoorAuto
import Derived.Test.YtbfilhaigbebpaaDoorRB
import Derived.Test.YtbfilhaigbebpaaDoorPick
set_option linter.unusedVariables false
set_option linter.unusedSimpArgs false
set_option maxRecDepth 100000
set_option maxHeartbeats 4000000
namespace Go.Tg
open Go Go.Proofs
def nV (n : Nat) : List Value := [.int .u64 (n : Int)]
theorem rows_nV (l : List Nat) : ∀ r, r ∈ l.map nV → r.length = 1 := by simp [nV]
end Go.Tg

set_option linter.unusedVariables false
set_option linter.unusedSimpArgs false
set_option maxRecDepth 100000
set_option maxHeartbeats 4000000
namespace Go.Tg
open Go Go.Proofs
theorem numsT_len (s : SlotT) (k : Nat) : (numsB ((natsS s).take k)).length ≤ 44 := by
  have h := numsB_len ((natsS s).take k)
  have : ((natsS s).take k).length ≤ 4 := by rw [List.length_take]; exact Nat.min_le_right _ _
  omega
theorem cN_get (l : List Nat) {k : Nat} (h : k < l.length) : (cN l)[(k : Int).toNat]? = some (.int .u64 (l[k] : Nat)) := by
  rw [Int.toNat_natCast]; simp [cN, h]
theorem ro_Encode (s : SlotT) (h0 : FH) (w : World) (hs : Sat h0 w) (hT : Half h0) :
    Spec Tryd.prog 18 #[.agg (cSlot s).toArray] w [] h0 (fun v h' L' => ∃ a' c', v = .slice a' (encS s).length c' ∧ h' = h0 ∧ L' = [own8 (.slice a' (encS s).length c') 5 (encS s)]) := by
  have H := St.start hs
  have u1 := s.at_.toNat_lt
  have u2 := s.end_.toNat_lt
  have u3 := s.items.toNat_lt
  have g0 : (cSlot s)[0 + 0]? = some (.int .u64 s.ver.toNat) := rfl
  have g1 : (cSlot s)[0 + 1]? = some (.int .u32 s.at_.toNat) := rfl
  have g2 : (cSlot s)[0 + 2]? = some (.int .u32 s.end_.toNat) := rfl
  have g3 : (cSlot s)[0 + 3]? = some (.int .u32 s.items.toNat) := rfl
  unfold Spec
  refine calls_of Tryd.func18 rfl Tryd.ntmps18 (by simp) ?_
  repeat' (first | ((first | refine WL.p rfl ?_ | refine WL.u ?_); first | (refine opk 1 rfl ?_; (refine ost_C H rfl (pack_New _ _ (sat_full _)) rfl ?_; clear H; rintro vk wk hfk Lk ⟨b1, rfl, rfl⟩ H; simp only [List.cons_append, List.nil_append] at H)) | (refine opk 9 rfl ?_; (refine ost_buildAr (l := cN (natsS s)) rfl (evP4 (rfl : _ = Value.int _ _) (rfl : _ = Value.int _ _) (rfl : _ = Value.int _ _) (rfl : _ = Value.int _ _)) (by rfl) (by kernel_rfl) ?_)) | refine pvQ ?_ | (refine opk 3 rfl ?_; (refine ost_cmp rfl rfl rfl rfl (fun hc => ?_) (fun hc => ?_) <;> (simp only [cmpP] at hc; try exact prIQ))) | (refine opk 4 rfl ?_; (refine ost_cmp rfl rfl rfl rfl (fun hc => ?_) (fun hc => ?_) <;> (simp only [cmpP] at hc; try exact prIQ))) | (refine opk 9 rfl ?_; (refine ost_boxq H rfl ?_; clear H; intro bk wk H))) | refine Wc.seq ?_ | refine then_n ?_ | refine WL.nil ?_ | refine Wc.region ?_ | refine Wc.block ?_ | refine then_r ?_ | refine then_e ?_ | refine inb_e rfl ?_ | refine inb_o rfl ?_ | refine inb_n ?_ | refine inb_r ?_ | refine Wc.skip ?_ | refine Wc.exit ?_ | refine Wc.ret ?_ | refine Wc.cond_true rfl ?_ | refine Wc.cond_false rfl ?_)
  replace H : St w [] h0 h0 [wr b1 true 0 (.slice none 0 0) (numsB ((natsS s).take 0)), .blk bk (.cells (cSlot s).toArray 28 (0, 0))] wk := H
  refine Wc.loopE (fun s0 m s' w' => ∃ (k : Nat) (v : Value), m = 4 - k ∧ k ≤ 4 ∧ Agree [5, 23, 24, 25, 26, 27, 28, 29] s' s0 ∧ s' 23 = .int .i64 k ∧
    St w [] h0 h0 [wr b1 true 0 v (numsB ((natsS s).take k)), .blk bk (.cells (cSlot s).toArray 28 (0, 0))] w') 4 ⟨0, _, rfl, by omega, Agree.refl _ _, rfl, H⟩ ?_
  clear H
  rintro m s' w' ⟨k, v, rfl, hk, hA, e1, H⟩
  obtain ⟨j, rfl⟩ := hA.env1 e1
  clear hA e1
  have hx := numsT_len s k
  have hl4 : (natsS s).length = 4 := rfl
  by_cases hlt : k < 4
  · have h64 := natsS_64 s ((natsS s)[k]) (List.getElem_mem (by omega))
    have gk := cN_get (natsS s) (k := k) (by omega)
    have hst := numsB_step (natsS s) (k := k) (by omega)
    generalize (natsS s)[k] = n at h64 gk hst
    repeat' (first | ((first | refine WL.p rfl ?_ | refine WL.u ?_); first | (refine opk 1 rfl ?_; (refine ost_O (A := wr _ _ _ _ _) H rfl (by (exact ixQ)) (fun HO => pack_NumK _ _ _ _ _ HO _ (by omega) (by omega)) rfl ?_; clear H; rintro vk wk hfk Lk ⟨rfl, v3, rfl⟩ H; simp only [List.cons_append, List.nil_append, List.eraseIdx_cons_zero, List.eraseIdx_cons_succ] at H)) | refine pvQ ?_ | (refine opk 3 rfl ?_; (refine ost_cmp rfl rfl rfl rfl (fun hc => ?_) (fun hc => ?_) <;> (simp only [cmpP] at hc; try exact prIQ))) | (refine opk 4 rfl ?_; (refine ost_cmp rfl rfl rfl rfl (fun hc => ?_) (fun hc => ?_) <;> (simp only [cmpP] at hc; try exact prIQ))) | (refine opk 9 rfl ?_; (refine ost_boxq H rfl ?_; clear H; intro bk wk H))) | refine Wc.seq ?_ | refine then_n ?_ | refine WL.nil ?_ | refine Wc.region ?_ | refine Wc.block ?_ | refine then_r ?_ | refine then_e ?_ | refine inb_e rfl ?_ | refine inb_o rfl ?_ | refine inb_n ?_ | refine inb_r ?_ | refine Wc.skip ?_ | refine Wc.exit ?_ | refine Wc.ret ?_ | refine Wc.cond_true rfl ?_ | refine Wc.cond_false rfl ?_)
    rw [← hst] at H
    exact ⟨4 - (k + 1), by omega, k + 1, v3, rfl, by omega, by (repeat' (first | exact Agree.refl _ _ | exact Agree.havoc | refine Agree.upd rfl ?_ | refine Agree.hav2 rfl ?_)), rfl, H⟩
  · obtain rfl : k = 4 := by omega
    have e0 : numsB ((natsS s).take 4) = numsB (natsS s) := rfl
    rw [e0] at H hx
    repeat' (first | ((first | refine WL.p rfl ?_ | refine WL.u ?_); first | (refine opk 1 rfl ?_; first | (refine ost_O (A := wr _ _ _ _ _) H rfl (by (exact ixQ)) (fun HO => pack_All0 _ _ _ _ _ _ HO (by omega) rfl) rfl ?_; clear H; rintro vk wk hfk Lk ⟨a4, c4, rfl, _, rfl⟩ H; simp only [List.cons_append, List.nil_append, List.eraseIdx_cons_zero, List.eraseIdx_cons_succ] at H) | (refine ost_C H rfl (frame_WrapK _ _ _ (numsB (natsS s)) _ (sat_full _) (hT.full H) (H.own8rd (i := 0) rfl) (by omega)) rfl ?_; clear H; rintro vk wk hfk Lk ⟨a5, c5, rfl, _, rfl⟩ H; simp only [List.cons_append, List.nil_append] at H)) | refine pvQ ?_ | (refine opk 3 rfl ?_; (refine ost_cmp rfl rfl rfl rfl (fun hc => ?_) (fun hc => ?_) <;> (simp only [cmpP] at hc; try exact prIQ))) | (refine opk 4 rfl ?_; (refine ost_cmp rfl rfl rfl rfl (fun hc => ?_) (fun hc => ?_) <;> (simp only [cmpP] at hc; try exact prIQ))) | (refine opk 9 rfl ?_; (refine ost_boxq H rfl ?_; clear H; intro bk wk H))) | refine Wc.seq ?_ | refine then_n ?_ | refine WL.nil ?_ | refine Wc.region ?_ | refine Wc.block ?_ | refine then_r ?_ | refine then_e ?_ | refine inb_e rfl ?_ | refine inb_o rfl ?_ | refine inb_n ?_ | refine inb_r ?_ | refine Wc.skip ?_ | refine Wc.exit ?_ | refine Wc.ret ?_ | refine Wc.cond_true rfl ?_ | refine Wc.cond_false rfl ?_)
    exact fn_ret1 (v := .slice _ _ _) rfl rfl ⟨_, _, H.pick 0 rfl, _, _, rfl, rfl, rfl⟩
theorem r15_Encode (s : SlotT) (h0 : FH) (w : World) (hs : Sat h0 w) :
    Spec Tryd.prog 19 #[.agg (cSlot s).toArray] w [] h0 (fun v h' L' => ∃ a' c', v = .slice a' (encS s).length c' ∧ h' = h0 ∧ L' = [own8 (.slice a' (encS s).length c') 5 (encS s)]) := by
  have H := St.start hs
  have u1 := s.at_.toNat_lt
  have u2 := s.end_.toNat_lt
  have u3 := s.items.toNat_lt
  have g0 : (cSlot s)[0 + 0]? = some (.int .u64 s.ver.toNat) := rfl
  have g1 : (cSlot s)[0 + 1]? = some (.int .u32 s.at_.toNat) := rfl
  have g2 : (cSlot s)[0 + 2]? = some (.int .u32 s.end_.toNat) := rfl
  have g3 : (cSlot s)[0 + 3]? = some (.int .u32 s.items.toNat) := rfl
  have hl4 : (natsS s).length = 4 := rfl
  unfold Spec
  refine calls_of Tryd.func19 rfl Tryd.ntmps19 (by simp) ?_
  repeat' (first | ((first | refine WL.p rfl ?_ | refine WL.u ?_); first | refine pvQ ?_ | (refine opk 3 rfl ?_; (refine ost_cmp rfl rfl rfl rfl (fun hc => ?_) (fun hc => ?_) <;> (simp only [cmpP] at hc; try exact prIQ))) | (refine opk 4 rfl ?_; (refine ost_cmp rfl rfl rfl rfl (fun hc => ?_) (fun hc => ?_) <;> (simp only [cmpP] at hc; try exact prIQ))) | (refine opk 9 rfl ?_; first | (refine ost_boxq H rfl ?_; clear H; intro bk wk H) | (refine ost_build1 H rfl rfl rfl evQ lsQ rfl ?_; clear H; intro bk wk H))) | refine Wc.seq ?_ | refine then_n ?_ | refine WL.nil ?_ | refine Wc.region ?_ | refine Wc.block ?_ | refine then_r ?_ | refine then_e ?_ | refine inb_e rfl ?_ | refine inb_o rfl ?_ | refine inb_n ?_ | refine inb_r ?_ | refine Wc.skip ?_ | refine Wc.exit ?_ | refine Wc.ret ?_ | refine Wc.cond_true rfl ?_ | refine Wc.cond_false rfl ?_)
  obtain ⟨bs, ebs⟩ := H.nameB idx1
  subst ebs
  replace H : St w [] h0 h0 [ownR (.slice (some ⟨bk, 0, none⟩) 4 4) 23 1 ((natsS s).map nV), .blk bs (.cells (cSlot s).toArray 34 (0, 0))] wk := H
  obtain ⟨a8, c8, h7, e8, hle7, hN7, H⟩ := H.freezeR (rows_nV (natsS s))
  rw [List.length_map, hl4] at e8
  rw [e8]
  replace H : St w [] h0 h7 [own8 (.slice none (numsB ((natsS s).take 0)).length 0) 5 (numsB ((natsS s).take 0)), .blk bs (.cells (cSlot s).toArray 34 (0, 0))] wk := H.nilOwn 5 1
  refine Wc.loopE (fun s0 m s' w' => ∃ (k : Nat) (a : Option Addr) (c : Nat), m = 4 - k ∧ k ≤ 4 ∧ Agree [4, 5, 20, 21, 22, 23, 24, 25, 26, 27, 28, 29, 30, 31, 32] s' s0 ∧ s' 4 = .slice a (numsB ((natsS s).take k)).length c ∧ s' 5 = .int .i64 k ∧
    St w [] h0 h7 [own8 (.slice a (numsB ((natsS s).take k)).length c) 5 (numsB ((natsS s).take k)), .blk bs (.cells (cSlot s).toArray 34 (0, 0))] w') 4 ⟨0, _, _, rfl, by omega, Agree.refl _ _, rfl, rfl, H⟩ ?_
  clear H
  rintro m s' w' ⟨k, a, c, rfl, hk, hA, e1, e2, H⟩
  obtain ⟨j, rfl⟩ := hA.env2 e1 e2
  clear hA e1 e2
  have hx := numsT_len s k
  by_cases hlt : k < 4
  · obtain ⟨b, off, L9, T, fr, e2, eb, eg⟩ := hN7.getM (by decide) (by omega)
    have g9 : L9[off + (k : Int).toNat * 1]? = some (.int .u64 ((natsS s)[k] : Nat)) := row_cell (eg (k : Int).toNat k (by omega) (by omega)) (q := 0) (by simp [nV])
    have h64 := natsS_64 s ((natsS s)[k]) (List.getElem_mem (by omega))
    have hst := numsB_step (natsS s) (k := k) (by omega)
    clear eg
    generalize (natsS s)[k] = n at h64 g9 hst
    have hp := putB_len n
    subst e2
    repeat' (first | ((first | refine WL.p rfl ?_ | refine WL.u ?_); first | (refine opk 1 rfl ?_; first | (refine ost_C H rfl (r2_Put n h64 _ _ (sat_full _)) rfl ?_; clear H; rintro vk wk hfk Lk ⟨a3, c3, rfl, _, rfl⟩ H; simp only [List.cons_append, List.nil_append] at H) | (refine ost_app8 (xs := numsB ((natsS s).take k)) H rfl rfl rfl (by (exact ixQ)) (H.own8rd (i := 0) rfl) (by (try simp only [List.length_nil, List.length_append, List.length_cons, List.length_singleton]); omega) ?_; clear H; intro aa ca wk H; simp only [List.set_cons_zero, List.set_cons_succ, List.nil_append] at H)) | refine pvQ ?_ | (refine opk 3 rfl ?_; (refine ost_cmp rfl rfl rfl rfl (fun hc => ?_) (fun hc => ?_) <;> (simp only [cmpP] at hc; try exact prIQ))) | (refine opk 4 rfl ?_; (refine ost_cmp rfl rfl rfl rfl (fun hc => ?_) (fun hc => ?_) <;> (simp only [cmpP] at hc; try exact prIQ))) | (refine opk 9 rfl ?_; first | (refine ost_boxq H rfl ?_; clear H; intro bk wk H) | (refine ost_build1 H rfl rfl rfl evQ lsQ rfl ?_; clear H; intro bk wk H))) | refine Wc.seq ?_ | refine then_n ?_ | refine WL.nil ?_ | refine Wc.region ?_ | refine Wc.block ?_ | refine then_r ?_ | refine then_e ?_ | refine inb_e rfl ?_ | refine inb_o rfl ?_ | refine inb_n ?_ | refine inb_r ?_ | refine Wc.skip ?_ | refine Wc.exit ?_ | refine Wc.ret ?_ | refine Wc.cond_true rfl ?_ | refine Wc.cond_false rfl ?_)
    rw [← hst] at H
    exact ⟨4 - (k + 1), by omega, k + 1, aa, ca, rfl, by omega, by (repeat' (first | exact Agree.refl _ _ | exact Agree.havoc | refine Agree.upd rfl ?_ | refine Agree.hav2 rfl ?_)), by rw [hst]; rfl, rfl, H.tl⟩
  · obtain rfl : k = 4 := by omega
    have e0 : numsB ((natsS s).take 4) = numsB (natsS s) := rfl
    rw [e0] at H hx ⊢
    repeat' (first | ((first | refine WL.p rfl ?_ | refine WL.u ?_); first | (refine opk 1 rfl ?_; (refine ost_C H rfl (r10_Wrapn _ _ _ _ (numsB (natsS s)) _ (sat_full _) rfl (by omega) (H.own8rd (i := 0) rfl)) rfl ?_; clear H; rintro vk wk hfk Lk ⟨a5, c5, rfl, _, rfl⟩ H; simp only [List.cons_append, List.nil_append] at H)) | refine pvQ ?_ | (refine opk 3 rfl ?_; (refine ost_cmp rfl rfl rfl rfl (fun hc => ?_) (fun hc => ?_) <;> (simp only [cmpP] at hc; try exact prIQ))) | (refine opk 4 rfl ?_; (refine ost_cmp rfl rfl rfl rfl (fun hc => ?_) (fun hc => ?_) <;> (simp only [cmpP] at hc; try exact prIQ))) | (refine opk 9 rfl ?_; first | (refine ost_boxq H rfl ?_; clear H; intro bk wk H) | (refine ost_build1 H rfl rfl rfl evQ lsQ rfl ?_; clear H; intro bk wk H))) | refine Wc.seq ?_ | refine then_n ?_ | refine WL.nil ?_ | refine Wc.region ?_ | refine Wc.block ?_ | refine then_r ?_ | refine then_e ?_ | refine inb_e rfl ?_ | refine inb_o rfl ?_ | refine inb_n ?_ | refine inb_r ?_ | refine Wc.skip ?_ | refine Wc.exit ?_ | refine Wc.ret ?_ | refine Wc.cond_true rfl ?_ | refine Wc.cond_false rfl ?_)
    exact fn_ret1 (v := .slice _ _ _) rfl rfl ⟨h0, _, (H.forget hle7 fun _ _ _ => rfl).picks (L' := [_]) [0] rfl (by decide), _, _, rfl, rfl, rfl⟩
end Go.Tg

set_option linter.unusedVariables false
set_option linter.unusedSimpArgs false
set_option maxRecDepth 100000
set_option maxHeartbeats 4000000
namespace Go.Tg
open Go Go.Proofs
def arrS (t : TkT) (k : Nat) : List Value := (List.range 3).map fun i => Value.int .u64 ((if i < k then tkN (swL t i) else 0 : Nat) : Int)
theorem arrS_set (t : TkT) {k : Nat} (hk : k < 3) : (arrS t k).set k (.int .u64 (tkN (swL t k) : Nat)) = arrS t (k + 1) := by
  match k, hk with
  | 0, _ => rfl
  | 1, _ => rfl
  | 2, _ => rfl
theorem arrS_get (t : TkT) {k : Nat} (hk : k < 3) : (arrS t (k + 1))[k]? = some (.int .u64 (tkN (swL t k) : Nat)) := by
  match k, hk with
  | 0, _ => rfl
  | 1, _ => rfl
  | 2, _ => rfl
theorem arrS_len (t : TkT) (k : Nat) : (arrS t k).length = 3 := by simp [arrS]
theorem swS_bad (t : TkT) : (swS t).bad = (t.bad || !decide (tkN t / 4294967296 = 0)) := rfl
theorem ro_decode (h0 : FH) (a : Option Addr) (c : Nat) (b : List UInt8) (w : World) (hs : Sat h0 w) (hT : Half h0) (hr : BS h0 a c b) (hb : b.length ≤ 1000000) :
    Spec Tryd.prog 30 #[.slice a b.length c] w [] h0 (fun v h' L' => h' = h0 ∧ L' = [] ∧ ∃ x q, v = .tuple #[.agg (cSlot x).toArray, .bool q] ∧ DecS b x q) := by
  have H := St.start hs
  have hFF := frame_First h0 a c b
  have hA := @decS_F b
  have hN := fun x => @decS_no b x
  have hok := @firstF_ok b
  have lz : cSlot zeroS = [Value.int .u64 0, .int .u32 0, .int .u32 0, .int .u32 0] := rfl
  generalize firstF b = F at hFF hA hN hok
  obtain ⟨f, k, e⟩ := F
  dsimp only at hFF hN hok
  unfold Spec
  refine calls_of Tryd.func30 rfl Tryd.ntmps30 (by simp) ?_
  by_cases hg : e = 0 ∧ k = b.length
  · obtain ⟨rfl, hk⟩ := hg
    obtain ⟨hY, hZ⟩ := hA rfl hk
    clear hA hN
    obtain ⟨_, hf4, _⟩ := hok rfl
    have hfl : f.length ≤ 1000000 := by omega
    repeat' (first | ((first | refine WL.p rfl ?_ | refine WL.u ?_ | refine WL.g rfl rfl ?_ | refine WL.gu rfl ?_); first | (refine opk 1 rfl ?_; (refine ost_Sk H rfl (hFF _ H.sat hT hr (by omega)) rfl ?_; clear H; rintro vk wk hfk Lk ⟨a1, c1, rfl, e9, rfl⟩ hle H; simp only [List.cons_append, List.nil_append] at H)) | refine pvQ ?_ | (refine opk 3 rfl ?_; (refine ost_cmp rfl rfl rfl rfl (fun hc => ?_) (fun hc => ?_) <;> (simp only [cmpP] at hc; try exact prIQ))) | (refine opk 4 rfl ?_; (refine ost_cmp rfl rfl rfl rfl (fun hc => ?_) (fun hc => ?_) <;> (simp only [cmpP] at hc; try exact prIQ))) | (refine opk 8 rfl ?_; first | (refine ost_store1 H rfl rfl vlQ gvQ ixQ (by first | decide | (simp; omega) | (simp; done) | omega) ?_; clear H; intro wk H; simp only [List.set_cons_zero, List.set_cons_succ, Nat.reduceAdd] at H) | (refine ost_storeW H rfl rfl rfl rfl lQ ixQ lQ okQ ?_; clear H; intro wk H; simp only [List.set_cons_zero, List.set_cons_succ, Nat.reduceAdd] at H)) | (refine opk 9 rfl ?_; (refine ost_allocA H rfl ?_; clear H; intro bk wk H))) | refine Wc.seq ?_ | refine then_n ?_ | refine WL.nil ?_ | refine Wc.region ?_ | refine Wc.block ?_ | refine then_r ?_ | refine then_e ?_ | refine inb_e rfl ?_ | refine inb_o rfl ?_ | refine inb_n ?_ | refine inb_r ?_ | refine Wc.skip ?_ | refine Wc.exit ?_ | refine Wc.ret ?_ | refine Wc.cond_true rfl ?_ | refine Wc.cond_false rfl ?_ | (refine Wc.drawn (id := 14) 13 (by kernel_rfl) ?_) | refine WL.skp rfl rfl ?_ | refine WL.sku rfl ?_ | (refine rgs_nil ?_; intro vs wk hE; replace H := H.ext hE; clear hE) | refine RGs.skp (fun _ => rfl) rfl ?_ | (refine RGs.bq (fun _ => rfl) rfl (by intro vs w hE hP; have H := H.ext hE; first | exact dbQ | fail) (fun hc => ?_) (fun hc => ?_) <;> ((try simp only [cmpP, decide_eq_true_eq, decide_eq_false_iff_not, dcd_iff, dcd_no] at hc); try exact prDQ)) | refine RGs.pq (fun _ => rfl) rfl (by intro vs w hE hP; have H := H.ext hE; first | exact dvQ | fail) ?_)
    replace e9 := e9.symm
    subst e9
    obtain ⟨a6, c6, h6, e6, hle6, hr6, H⟩ := H.freeze8
    cases e6
    repeat' (first | ((first | refine WL.p rfl ?_ | refine WL.u ?_ | refine WL.g rfl rfl ?_ | refine WL.gu rfl ?_); first | (refine opk 1 rfl ?_; first | (refine ost_Sk H rfl (pack_Read _ _ _ _ _ H.sat hr6 (by omega)) rfl ?_; clear H; rintro vk wk hfk Lk ⟨b1, a2, c2, rfl, hr2, rfl⟩ hle H; simp only [List.cons_append, List.nil_append] at H) | (refine ost_H (A := rdr _ _ _ _ _ _) H rfl (by (exact ixQ)) (fun HO => rd_Num _ _ _ _ _ _ _ HO (by assumption)) rfl ?_; clear H; rintro vk wk hfk Lk ⟨rfl, rfl, a3, c3, hr3, rfl⟩ hle H; simp only [List.cons_append, List.nil_append, List.eraseIdx_cons_zero, List.eraseIdx_cons_succ] at H)) | refine pvQ ?_ | (refine opk 3 rfl ?_; (refine ost_cmp rfl rfl rfl rfl (fun hc => ?_) (fun hc => ?_) <;> (simp only [cmpP] at hc; try exact prIQ))) | (refine opk 4 rfl ?_; (refine ost_cmp rfl rfl rfl rfl (fun hc => ?_) (fun hc => ?_) <;> (simp only [cmpP] at hc; try exact prIQ))) | (refine opk 8 rfl ?_; first | (refine ost_store1 H rfl rfl vlQ gvQ ixQ (by first | decide | (simp; omega) | (simp; done) | omega) ?_; clear H; intro wk H; simp only [List.set_cons_zero, List.set_cons_succ, Nat.reduceAdd] at H) | (refine ost_storeW H rfl rfl rfl rfl lQ ixQ lQ okQ ?_; clear H; intro wk H; simp only [List.set_cons_zero, List.set_cons_succ, Nat.reduceAdd] at H)) | (refine opk 9 rfl ?_; (refine ost_allocA H rfl ?_; clear H; intro bk wk H))) | refine Wc.seq ?_ | refine then_n ?_ | refine WL.nil ?_ | refine Wc.region ?_ | refine Wc.block ?_ | refine then_r ?_ | refine then_e ?_ | refine inb_e rfl ?_ | refine inb_o rfl ?_ | refine inb_n ?_ | refine inb_r ?_ | refine Wc.skip ?_ | refine Wc.exit ?_ | refine Wc.ret ?_ | refine Wc.cond_true rfl ?_ | refine Wc.cond_false rfl ?_ | (refine Wc.drawn (id := 14) 13 (by kernel_rfl) ?_) | refine WL.skp rfl rfl ?_ | refine WL.sku rfl ?_ | (refine rgs_nil ?_; intro vs wk hE; replace H := H.ext hE; clear hE) | refine RGs.skp (fun _ => rfl) rfl ?_ | (refine RGs.bq (fun _ => rfl) rfl (by intro vs w hE hP; have H := H.ext hE; first | exact dbQ | fail) (fun hc => ?_) (fun hc => ?_) <;> ((try simp only [cmpP, decide_eq_true_eq, decide_eq_false_iff_not, dcd_iff, dcd_no] at hc); try exact prDQ)) | refine RGs.pq (fun _ => rfl) rfl (by intro vs w hE hP; have H := H.ext hE; first | exact dvQ | fail) ?_)
    obtain ⟨bk, ebk⟩ := H.nameB idx0
    subst ebk
    obtain ⟨bs, ebs⟩ := H.nameB idx2
    subst ebs
    replace hr3 : BS hfk a3 c3 (swL (tS f) 0).xs := hr3
    replace H : St w [] h0 hfk [.blk bk (.cells (arrS (tS f) 0).toArray 141 (0, 0)), rdr b1 true (swL (tS f) 0).e a3 (swL (tS f) 0).xs.length c3, .blk bs (.cells (cSlot zeroS).toArray 28 (0, 0))] wk := H
    have hv0 : Value.int .u64 ((numE 0 f).1 : Nat) = .int .u64 (UInt64.ofNat (vS f)).toNat := by
      have := numE_lt 0 f
      unfold vS; simp; omega
    rw [hv0]
    refine Wc.loopE (fun s0 m s w' => ∃ (k : Nat) (a3 : Option Addr) (c3 : Nat), m = 3 - k ∧ k ≤ 3 ∧ Agree [3, 11, 34, 35, 36, 37, 38, 39, 40, 41, 42, 43, 44, 45, 46, 47, 48, 49, 50] s s0 ∧ s 34 = .int .i64 k ∧ (swL (tS f) k).bad = false ∧ BS hfk a3 c3 (swL (tS f) k).xs ∧
      St w [] h0 hfk [.blk bk (.cells (arrS (tS f) k).toArray 141 (0, 0)), rdr b1 true (swL (tS f) k).e a3 (swL (tS f) k).xs.length c3, .blk bs (.cells (cSlot zeroS).toArray 28 (0, 0))] w') 3 ⟨0, _, _, rfl, by omega, Agree.refl _ _, rfl, rfl, hr3, H⟩ ?_
    clear H hr3
    rintro m s w' ⟨k, a3, c3, rfl, hk9, hA9, e1, hbad, hr3, H⟩
    obtain ⟨j, rfl⟩ := hA9.env1 e1
    clear hA9 e1
    have lar := arrS_len (tS f) k
    by_cases hlt : k < 3
    · have hset := arrS_set (tS f) hlt
      have hget := arrS_get (tS f) hlt
      have lar1 := arrS_len (tS f) (k + 1)
      have hsw : swL (tS f) (k + 1) = swS (swL (tS f) k) := rfl
      have hbd := swS_bad (swL (tS f) k)
      have hbig : tkN (swL (tS f) k) / 4294967296 ≠ 0 → okS f = false := fun h => by
        have h1 : (swL (tS f) (k + 1)).bad = true := by rw [hsw, hbd, hbad]; simp [h]
        have h2 : ∀ i, (swL (tS f) (k + 1 + i)).bad = true := fun i => by
          induction i with
          | zero => exact h1
          | succ i ih =>
            show (swS (swL (tS f) (k + 1 + i))).bad = true
            rw [swS_bad, ih]; rfl
        have h3 : (endS f).bad = true := by
          have := h2 (2 - k)
          rw [show k + 1 + (2 - k) = 3 by omega] at this
          exact this
        unfold okS; rw [h3]; rfl
      have hsb : swL (tS f) (k + 1) = swS (swL (tS f) k) := rfl
      generalize hU : swL (tS f) (k + 1) = U at *
      generalize hAR : arrS (tS f) (k + 1) = AR at *
      generalize arrS (tS f) k = AK at *
      generalize swL (tS f) k = T at *
      have hd : (tkN T : Int).fdiv (2 ^ min (32 : Int).toNat IntKind.u64.bits) = ((tkN T / 4294967296 : Nat) : Int) := by
        rw [show min (32 : Int).toNat IntKind.u64.bits = 32 by (have : IntKind.u64.bits = 64 := rfl); omega, Int.fdiv_eq_ediv_of_nonneg _ (by decide)]
        simp
      have hnu : ((numE T.e T.xs).1 : Int) = (tkN T : Int) := rfl
      have hk1 : 0 + (k : Int).toNat * 1 = k := by omega
      repeat' (first | ((first | refine WL.p rfl ?_ | refine WL.u ?_ | refine WL.g rfl rfl ?_ | refine WL.gu rfl ?_); first | (refine opk 1 rfl ?_; (refine ost_H (A := rdr _ _ _ _ _ _) H rfl (by (exact ixQ)) (fun HO => rd_Num _ _ _ _ _ _ _ HO (by assumption)) rfl ?_; clear H; rintro vk wk hfk Lk ⟨rfl, rfl, a4, c4, hr4, rfl⟩ hle H; simp only [List.cons_append, List.nil_append, List.eraseIdx_cons_zero, List.eraseIdx_cons_succ] at H)) | refine pvQ ?_ | (refine opk 3 rfl ?_; (refine ost_cmp rfl rfl rfl rfl (fun hc => ?_) (fun hc => ?_) <;> (simp only [cmpP] at hc; try exact prIQ))) | (refine opk 4 rfl ?_; (refine ost_cmp rfl rfl rfl rfl (fun hc => ?_) (fun hc => ?_) <;> (simp only [cmpP] at hc; try exact prIQ))) | (refine opk 8 rfl ?_; first | (refine ost_store1 H rfl rfl vlQ gvQ ixQ (by first | decide | (simp; omega) | (simp; done) | omega) ?_; clear H; intro wk H; simp only [List.set_cons_zero, List.set_cons_succ, Nat.reduceAdd] at H) | (refine ost_storeW H rfl rfl rfl rfl lQ ixQ lQ okQ ?_; clear H; intro wk H; simp only [List.set_cons_zero, List.set_cons_succ, Nat.reduceAdd] at H)) | (refine opk 9 rfl ?_; (refine ost_allocA H rfl ?_; clear H; intro bk wk H))) | refine Wc.seq ?_ | refine then_n ?_ | refine WL.nil ?_ | refine Wc.region ?_ | refine Wc.block ?_ | refine then_r ?_ | refine then_e ?_ | refine inb_e rfl ?_ | refine inb_o rfl ?_ | refine inb_n ?_ | refine inb_r ?_ | refine Wc.skip ?_ | refine Wc.exit ?_ | refine Wc.ret ?_ | refine Wc.cond_true rfl ?_ | refine Wc.cond_false rfl ?_ | (refine Wc.drawn (id := 14) 13 (by kernel_rfl) ?_) | refine WL.skp rfl rfl ?_ | refine WL.sku rfl ?_ | (refine rgs_nil ?_; intro vs wk hE; replace H := H.ext hE; clear hE) | refine RGs.skp (fun _ => rfl) rfl ?_ | (refine RGs.bq (fun _ => rfl) rfl (by intro vs w hE hP; have H := H.ext hE; first | exact dbQ | fail) (fun hc => ?_) (fun hc => ?_) <;> ((try simp only [cmpP, decide_eq_true_eq, decide_eq_false_iff_not, dcd_iff, dcd_no] at hc); try exact prDQ)) | refine RGs.pq (fun _ => rfl) rfl (by intro vs w hE hP; have H := H.ext hE; first | exact dvQ | fail) ?_)
      rw [hk1, hnu, hset] at H
      rw [hk1]
      repeat' (first | ((first | refine WL.p rfl ?_ | refine WL.u ?_ | refine WL.g rfl rfl ?_ | refine WL.gu rfl ?_); first | (refine opk 9 rfl ?_; (refine ost_buildS rfl evP_nil rfl (rfl : _ = [_, _, _, _]) ?_)) | refine pvQ ?_ | (refine opk 3 rfl ?_; (refine ost_cmp rfl rfl rfl rfl (fun hc => ?_) (fun hc => ?_) <;> (simp only [cmpP] at hc; try exact prIQ))) | (refine opk 4 rfl ?_; (refine ost_cmp rfl rfl rfl rfl (fun hc => ?_) (fun hc => ?_) <;> (simp only [cmpP] at hc; try exact prIQ))) | (refine opk 8 rfl ?_; first | (refine ost_store1 H rfl rfl vlQ gvQ ixQ (by first | decide | (simp; omega) | (simp; done) | omega) ?_; clear H; intro wk H; simp only [List.set_cons_zero, List.set_cons_succ, Nat.reduceAdd] at H) | (refine ost_storeW H rfl rfl rfl rfl lQ ixQ lQ okQ ?_; clear H; intro wk H; simp only [List.set_cons_zero, List.set_cons_succ, Nat.reduceAdd] at H)) | (refine opk 9 rfl ?_; (refine ost_allocA H rfl ?_; clear H; intro bk wk H))) | refine Wc.seq ?_ | refine then_n ?_ | refine WL.nil ?_ | refine Wc.region ?_ | refine Wc.block ?_ | refine then_r ?_ | refine then_e ?_ | refine inb_e rfl ?_ | refine inb_o rfl ?_ | refine inb_n ?_ | refine inb_r ?_ | refine Wc.skip ?_ | refine Wc.exit ?_ | refine Wc.ret ?_ | refine Wc.cond_true rfl ?_ | refine Wc.cond_false rfl ?_ | (refine Wc.drawn (id := 14) 13 (by kernel_rfl) ?_) | refine WL.skp rfl rfl ?_ | refine WL.sku rfl ?_ | (refine rgs_nil ?_; intro vs wk hE; replace H := H.ext hE; clear hE) | refine RGs.skp (fun _ => rfl) rfl ?_ | (refine RGs.bq (fun _ => rfl) rfl (by intro vs w hE hP; have H := H.ext hE; first | exact dbQ | fail) (fun hc => ?_) (fun hc => ?_) <;> ((try simp only [cmpP, decide_eq_true_eq, decide_eq_false_iff_not, dcd_iff, dcd_no] at hc); try exact prDQ)) | refine RGs.pq (fun _ => rfl) rfl (by intro vs w hE hP; have H := H.ext hE; first | exact dvQ | fail) ?_)
      all_goals rw [hd] at hc
      · have hz := hZ (hbig (by omega))
        exact fn_ret2 (v2 := .bool _) rfl (rv_cellA rfl rfl H.bI lQ) rfl ⟨h0, _, (H.forget (hle6.trans (by assumption)) fun _ _ _ => rfl).picks [] rfl (by decide), rfl, rfl, zeroS, false, rfl, .inr ⟨rfl, hz⟩⟩
      · have e8 : U.bad = false := by
          have : tkN T / 4294967296 = 0 := by omega
          rw [hsw, hbd, hbad, this]; rfl
        exact ⟨3 - (k + 1), by omega, k + 1, a4, c4, rfl, by omega, by (repeat' (first | exact Agree.refl _ _ | exact Agree.havoc | refine Agree.upd rfl ?_ | refine Agree.hav2 rfl ?_)), rfl, by rw [hU]; exact e8, by rw [hU, hsw]; exact hr4, by rw [hAR, hU, hsw]; exact H.picks [1, 0, 2] rfl (by decide)⟩
    · obtain rfl : k = 3 := by omega
      have e0 : (arrS (tS f) 3)[0 + (0 : Int).toNat * 1]? = some (.int .u64 (tkN (tS f) : Nat)) := rfl
      have e1 : (arrS (tS f) 3)[0 + (1 : Int).toNat * 1]? = some (.int .u64 (tkN (swL (tS f) 1) : Nat)) := rfl
      have e2 : (arrS (tS f) 3)[0 + (2 : Int).toNat * 1]? = some (.int .u64 (tkN (swL (tS f) 2) : Nat)) := rfl
      have hS : [Value.int .u64 (UInt64.ofNat (vS f)).toNat, .int .u32 (IntKind.u32.wrap (tkN (tS f) : Int)), .int .u32 (IntKind.u32.wrap (tkN (swL (tS f) 1) : Int)), .int .u32 (IntKind.u32.wrap (tkN (swL (tS f) 2) : Int))] = cSlot (slotF f) := by
        unfold cSlot slotF
        rw [u32_1, u32_1, u32_1]
      have hok9 : okS f = (decide ((endS f).e = 0) && decide ((endS f).xs.length = 0)) := by
        have : (endS f).bad = false := hbad
        unfold okS; rw [this]; rfl
      generalize arrS (tS f) 3 = AR at *
      have eE : swL (tS f) 3 = endS f := rfl
      rw [eE] at H hr3
      generalize endS f = T at *
      have lS := cSlot_len (slotF f)
      repeat' (first | ((first | refine WL.p rfl ?_ | refine WL.u ?_ | refine WL.g rfl rfl ?_ | refine WL.gu rfl ?_); first | refine pvQ ?_ | (refine opk 3 rfl ?_; (refine ost_cmp rfl rfl rfl rfl (fun hc => ?_) (fun hc => ?_) <;> (simp only [cmpP] at hc; try exact prIQ))) | (refine opk 4 rfl ?_; (refine ost_cmp rfl rfl rfl rfl (fun hc => ?_) (fun hc => ?_) <;> (simp only [cmpP] at hc; try exact prIQ))) | (refine opk 8 rfl ?_; first | (refine ost_store1 H rfl rfl vlQ gvQ ixQ (by first | decide | (simp; omega) | (simp; done) | omega) ?_; clear H; intro wk H; simp only [List.set_cons_zero, List.set_cons_succ, Nat.reduceAdd] at H) | (refine ost_storeW H rfl rfl rfl rfl lQ ixQ lQ okQ ?_; clear H; intro wk H; simp only [List.set_cons_zero, List.set_cons_succ, Nat.reduceAdd] at H)) | (refine opk 9 rfl ?_; (refine ost_allocA H rfl ?_; clear H; intro bk wk H))) | refine Wc.seq ?_ | refine then_n ?_ | refine WL.nil ?_ | refine Wc.region ?_ | refine Wc.block ?_ | refine then_r ?_ | refine then_e ?_ | refine inb_e rfl ?_ | refine inb_o rfl ?_ | refine inb_n ?_ | refine inb_r ?_ | refine Wc.skip ?_ | refine Wc.exit ?_ | refine Wc.ret ?_ | refine Wc.cond_true rfl ?_ | refine Wc.cond_false rfl ?_ | (refine Wc.drawn (id := 14) 13 (by kernel_rfl) ?_) | refine WL.skp rfl rfl ?_ | refine WL.sku rfl ?_ | (refine rgs_nil ?_; intro vs wk hE; replace H := H.ext hE; clear hE) | refine RGs.skp (fun _ => rfl) rfl ?_ | (refine RGs.bq (fun _ => rfl) rfl (by intro vs w hE hP; have H := H.ext hE; first | exact dbQ | fail) (fun hc => ?_) (fun hc => ?_) <;> ((try simp only [cmpP, decide_eq_true_eq, decide_eq_false_iff_not, dcd_iff, dcd_no] at hc); try exact prDQ)) | refine RGs.pq (fun _ => rfl) rfl (by intro vs w hE hP; have H := H.ext hE; first | (refine opk 1 rfl ?_; (exact ost_V0d rfl (rd_Done _ _ _ _ _ _ H.bI) rfl)) | exact dvQ | fail) ?_)
      rw [hS] at H
      refine fn_ret2 (v2 := .bool _) rfl (rv_cellA rfl rfl H.bI lQ) rfl ⟨h0, _, (H.forget (hle6.trans (by assumption)) fun _ _ _ => rfl).picks [] rfl (by decide), rfl, rfl, slotF f, _, rfl, ?_⟩
      rw [← hok9]
      cases h : okS f with
      | true => exact .inl ⟨rfl, hY h⟩
      | false => exact .inr ⟨rfl, hZ h⟩
  · repeat' (first | ((first | refine WL.p rfl ?_ | refine WL.u ?_ | refine WL.g rfl rfl ?_ | refine WL.gu rfl ?_); first | (refine opk 1 rfl ?_; (refine ost_Sk H rfl (hFF _ H.sat hT hr (by omega)) rfl ?_; clear H; rintro vk wk hfk Lk ⟨a1, c1, rfl, e9, rfl⟩ hle H; simp only [List.cons_append, List.nil_append] at H)) | (refine opk 9 rfl ?_; (refine ost_buildS rfl evP_nil rfl (rfl : _ = [_, _, _, _]) ?_)) | refine pvQ ?_ | (refine opk 3 rfl ?_; (refine ost_cmp rfl rfl rfl rfl (fun hc => ?_) (fun hc => ?_) <;> (simp only [cmpP] at hc; try exact prIQ))) | (refine opk 4 rfl ?_; (refine ost_cmp rfl rfl rfl rfl (fun hc => ?_) (fun hc => ?_) <;> (simp only [cmpP] at hc; try exact prIQ))) | (refine opk 8 rfl ?_; first | (refine ost_store1 H rfl rfl vlQ gvQ ixQ (by first | decide | (simp; omega) | (simp; done) | omega) ?_; clear H; intro wk H; simp only [List.set_cons_zero, List.set_cons_succ, Nat.reduceAdd] at H) | (refine ost_storeW H rfl rfl rfl rfl lQ ixQ lQ okQ ?_; clear H; intro wk H; simp only [List.set_cons_zero, List.set_cons_succ, Nat.reduceAdd] at H)) | (refine opk 9 rfl ?_; (refine ost_allocA H rfl ?_; clear H; intro bk wk H))) | refine Wc.seq ?_ | refine then_n ?_ | refine WL.nil ?_ | refine Wc.region ?_ | refine Wc.block ?_ | refine then_r ?_ | refine then_e ?_ | refine inb_e rfl ?_ | refine inb_o rfl ?_ | refine inb_n ?_ | refine inb_r ?_ | refine Wc.skip ?_ | refine Wc.exit ?_ | refine Wc.ret ?_ | refine Wc.cond_true rfl ?_ | refine Wc.cond_false rfl ?_ | (refine Wc.drawn (id := 14) 13 (by kernel_rfl) ?_) | refine WL.skp rfl rfl ?_ | refine WL.sku rfl ?_ | (refine rgs_nil ?_; intro vs wk hE; replace H := H.ext hE; clear hE) | refine RGs.skp (fun _ => rfl) rfl ?_ | (refine RGs.bq (fun _ => rfl) rfl (by intro vs w hE hP; have H := H.ext hE; first | exact dbQ | fail) (fun hc => ?_) (fun hc => ?_) <;> ((try simp only [cmpP, decide_eq_true_eq, decide_eq_false_iff_not, dcd_iff, dcd_no] at hc); try exact prDQ)) | refine RGs.pq (fun _ => rfl) rfl (by intro vs w hE hP; have H := H.ext hE; first | exact dvQ | fail) ?_)
    all_goals first | (exfalso; omega) | exact fn_ret2 (v2 := .bool _) rfl (rv_cellA rfl rfl H.bI lQ) rfl ⟨_, _, H.picks [] rfl (by decide), e9, rfl, zeroS, false, rfl, hN _ hg⟩
end Go.Tg

