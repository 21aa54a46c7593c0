/- Contracts of Go functions that the laws reach: what each call answers and leaves in memory, for all arguments within the bounds that each theorem names. -/
import Derived.Test.YtbfilhaigbebpaaDoorInst
import Derived.Test.YtbfilhaigbebpaaDoorAuto
import Derived.Test.YtbfilhaigbebpaaDoorRJ
import Derived.Test.YtbfilhaigbebpaaDoorL2
import Derived.Test.YtbfilhaigbebpaaDoorW2
import Derived.Test.YtbfilhaigbebpaaDoorW6
import Derived.Test.YtbfilhaigbebpaaDoorArgs
set_option linter.unusedVariables false
set_option linter.unusedSimpArgs false
set_option maxRecDepth 100000
set_option maxHeartbeats 4000000
namespace Go.Tg
open Go Go.Proofs
theorem upG_pre (base : Nat) (xs : List UInt8) (pls : List PlT) : ∃ t, (upG base xs pls).1 = xs ++ t := by
  by_cases h : 1 < pls.length
  · rw [upG_step h]
    obtain ⟨t, ht⟩ := upG_pre base (xs ++ bytesP (nodePs pls)) (placesP (base + xs.length) (nodePs pls))
    exact ⟨bytesP (nodePs pls) ++ t, by rw [ht, List.append_assoc]⟩
  · rw [upG_end h]; exact ⟨[], by simp⟩
termination_by pls.length
decreasing_by rw [placesP_len, nodePs_len]; unfold chN; omega
theorem places_fst : ∀ (off : Nat) (ps : List PageT), (placesP off ps).map (·.1) = ps.map key0
  | _, [] => rfl
  | off, p :: ps => by rw [placesP, List.map_cons, List.map_cons, places_fst]
theorem places_snd : ∀ (off : Nat) (ps : List PageT) (pl : PlT), pl ∈ placesP off ps → pl.2 ≤ off + (bytesP ps).length
  | _, [], pl, h => by simp [placesP] at h
  | off, p :: ps, pl, h => by
    rw [placesP] at h
    rw [bytesP_cons, List.length_append]
    rcases List.mem_cons.1 h with rfl | h
    · dsimp only; omega
    · have := places_snd _ ps pl h; omega
theorem srt_nodes {pls : List PlT} (h : SrtK (pls.map (·.1))) (off : Nat) : SrtK ((placesP off (nodePs pls)).map (·.1)) := by
  rw [places_fst, nodePs_parts, List.map_map]
  exact h.sub (show ((parts pls).map (key0 ∘ nodeP)).Sublist _ from heads_sub (fun x : PlT => x.1) zeroK pls.length pls (Nat.le_refl _))
theorem srt_leaves {l : List ItemT} (hl : l ≠ []) (h : SrtK (l.map (·.key))) (off : Nat) : SrtK ((placesP off (leafPs l)).map (·.1)) := by
  rw [places_fst, leafPs_parts hl, List.map_map]
  exact h.sub (show ((parts l).map (key0 ∘ leafP)).Sublist _ from heads_sub (fun x : ItemT => x.key) zeroK l.length l (Nat.le_refl _))
theorem parts_one {α : Type} {l : List α} (h : (parts l).length = 1) : parts l = [l.take 8] := by
  have hl : l ≠ [] := fun e => by subst e; rw [parts_nil] at h; cases h
  rw [parts_cons hl] at h ⊢
  rw [List.length_cons] at h
  rw [List.length_eq_zero_iff.1 (by omega : (parts (l.drop 8)).length = 0)]
theorem rd_up (pre b post : List UInt8) : ∀ (n0 : Nat) (pls : List PlT), pls.length ≤ n0 → ∀ (xs : List UInt8) (its : List ItemT) (n : Nat) (q : Bool), 1 ≤ pls.length → b = pre ++ ((upG pre.length xs pls).1 ++ post) → (∀ pl, pl ∈ pls → pl.2 < 4294967296) → SrtK (pls.map (·.1)) → RdAll b pls its n →
    pre.length + (upG pre.length xs pls).1.length < 4294967296 → (∀ y, pls = [y] → ∃ u p, xs = u ++ encP p ∧ y.2 = pre.length + u.length ∧ rightP p = true ∧ p.leaf = q) →
    ∃ y N, (upG pre.length xs pls).2 = [y] ∧ RdAll b [y] its N ∧ N ≤ n + pls.length ∧ y.2 < 4294967296 ∧ ∃ u p, (upG pre.length xs pls).1 = u ++ encP p ∧ y.2 = pre.length + u.length ∧ rightP p = true ∧ p.leaf = (decide (pls.length = 1) && q)
  | n0, pls, hn0, xs, its, n, q, h1, hb, hlt, hs, hR, hsz, hL => by
    by_cases hp : 1 < pls.length
    · obtain ⟨n0, rfl⟩ : ∃ m, n0 = m + 1 := ⟨n0 - 1, by omega⟩
      have hne : pls ≠ [] := fun e => by subst e; simp at hp
      rw [upG_step hp] at hb hsz ⊢
      obtain ⟨t, ht⟩ := upG_pre pre.length (xs ++ bytesP (nodePs pls)) (placesP (pre.length + xs.length) (nodePs pls))
      have hb2 : b = (pre ++ xs) ++ (bytesP ((parts pls).map nodeP) ++ (t ++ post)) := by
        rw [hb, ht, nodePs_parts]; simp
      have hr2 := rd_nodes b (t ++ post) pls.length pls (Nat.le_refl _) (pre ++ xs) its n hb2 hlt hs hR
      rw [List.length_append, ← nodePs_parts] at hr2
      have hpl := placesP_len (pre.length + xs.length) (nodePs pls)
      have hnl := nodePs_len pls
      have hpn := parts_len pls
      have hcn : 1 ≤ chN pls.length ∧ 2 * chN pls.length ≤ pls.length := by unfold chN; omega
      have hss := srt_nodes hs (pre.length + xs.length)
      have hll : (xs ++ bytesP (nodePs pls)).length ≤ (upG pre.length (xs ++ bytesP (nodePs pls)) (placesP (pre.length + xs.length) (nodePs pls))).1.length := by
        rw [ht]; simp only [List.length_append]; omega
      rw [List.length_append] at hll
      obtain ⟨y, N, e1, e2, e3, e4, u, p, e5, e6, e7, e8⟩ := rd_up pre b post n0 (placesP (pre.length + xs.length) (nodePs pls)) (by omega) (xs ++ bytesP (nodePs pls)) its _ false (by omega) hb (fun pl hpl => by have := places_snd _ _ pl hpl; omega) hss hr2 hsz (fun y hy => by
        have hl1 : (parts pls).length = 1 := by
          have := congrArg List.length hy
          rw [List.length_singleton] at this; omega
        have hR1 := node_right hne hs
        have hn1 : nodePs pls = [nodeP (pls.take 8)] := by rw [nodePs_parts, parts_one hl1]; rfl
        rw [hn1] at hy ⊢
        rw [placesP, placesP] at hy
        injection hy with hy
        refine ⟨xs, nodeP (pls.take 8), ?_, ?_, hR1, rfl⟩
        · rw [bytesP_cons, outP_right hR1]; simp [bytesP]
        · rw [← hy])
      refine ⟨y, N, e1, e2, by omega, e4, u, p, e5, e6, e7, ?_⟩
      rw [e8, decide_eq_false (by omega : ¬ pls.length = 1)]; simp
    · rw [upG_end hp] at hb hsz ⊢
      obtain ⟨y, rfl⟩ : ∃ y, pls = [y] := by
        match pls, h1, hp with
        | [y], _, _ => exact ⟨y, rfl⟩
        | y :: z :: t, _, h => exact absurd (by simp) h
      obtain ⟨u, p, e1, e2, e3, e4⟩ := hL y rfl
      exact ⟨y, n, rfl, hR, by omega, hlt y (by simp), u, p, e1, e2, e3, by rw [e4]; simp⟩
theorem rd_dump {l : List ItemT} {v : UInt64} {pre : List UInt8} (h : (dumpM l v pre.length).2.2 = 0) (hpre : pre.length ≤ 1073741824) (post : List UInt8) :
    ∃ root lf u p, (dumpM l v pre.length) = ((dumpM l v pre.length).1, ⟨v, UInt32.ofNat root, UInt32.ofNat (pre.length + (dumpM l v pre.length).1.length), UInt32.ofNat l.length⟩, 0) ∧ root < 4294967296 ∧
      rdF (pre ++ ((dumpM l v pre.length).1 ++ post)) 8192 [root] = some (l, lf) ∧ (dumpM l v pre.length).1 = u ++ encP p ∧ root = pre.length + u.length ∧ rightP p = true ∧ p.leaf = decide (l.length ≤ 8) := by
  obtain ⟨hr, hl4⟩ := dumpM_ok h
  have hlen := dumpM_len l v pre.length
  have hc1 : ¬ ((pre.length : Int) < 0 ∨ 1073741824 < (pre.length : Int) ∨ riseL l = false) := by rw [hr]; simp; omega
  have hd : dumpM l v pre.length = ((upL l pre.length).1, ⟨v, UInt32.ofNat ((upL l pre.length).2.headD (zeroK, 0)).2, UInt32.ofNat (pre.length + (upL l pre.length).1.length), UInt32.ofNat l.length⟩, 0) := by
    unfold dumpM
    rw [if_neg hc1, if_neg (by omega)]; rfl
  have hs : SrtK (l.map (·.key)) := by
    unfold riseL at hr; exact srtK_iff.1 (dcd_iff.1 hr)
  rw [hd] at hlen
  dsimp only at hlen
  suffices ∃ y N, (upL l pre.length).2 = [y] ∧ RdAll (pre ++ ((upL l pre.length).1 ++ post)) [y] l N ∧ N ≤ 8192 ∧ y.2 < 4294967296 ∧ ∃ u p, (upL l pre.length).1 = u ++ encP p ∧ y.2 = pre.length + u.length ∧ rightP p = true ∧ p.leaf = decide (l.length ≤ 8) by
    obtain ⟨y, N, e1, e2, e3, e4, u, p, e5, e6, e7, e8⟩ := this
    refine ⟨y.2, 8192 - N, u, p, ?_, e4, ?_, ?_, e6, e7, e8⟩
    · rw [hd, e1]; rfl
    · rw [hd]
      have := e2.reads 8192 e3
      exact this
    · rw [hd]; exact e5
  unfold upL at hlen ⊢
  have hll := placesP_len pre.length (leafPs l)
  have hbp := bytesP_len (leafPs l)
  obtain ⟨t, ht⟩ := upG_pre pre.length (bytesP (leafPs l)) (placesP pre.length (leafPs l))
  by_cases hl0 : l = []
  · subst hl0
    have e1 : leafPs [] = [leafP []] := rfl
    have hR : rightP (leafP []) = true := leaf_right (l := []) List.Pairwise.nil
    have hb1 : bytesP [leafP []] = encP (leafP []) := by rw [bytesP_cons, outP_right hR]; simp [bytesP]
    rw [e1] at hlen ⊢
    have hp1 : placesP pre.length [leafP []] = [(zeroK, pre.length)] := by rw [placesP, placesP]; rfl
    rw [hp1, hb1] at hlen ⊢
    rw [upG_end (by simp)] at hlen ⊢
    have hpa := pageAt_enc hR pre post
    have hrd := Reads.page hpa (its := []) (n := 0) (Reads.nil _)
    rw [itemsP_leaf] at hrd
    exact ⟨_, 0 + 1 + 0, rfl, RdAll.cons (pl := (zeroK, pre.length)) (i1 := []) (its := []) (n1 := 0 + 1) (n := 0) hrd .nil, by decide, by dsimp only; omega, [], leafP [], rfl, rfl, hR, rfl⟩
  · have hrl := rd_leaves (pre ++ ((upG pre.length (bytesP (leafPs l)) (placesP pre.length (leafPs l))).1 ++ post)) (t ++ post) l.length l (Nat.le_refl _) pre (by rw [ht, ← leafPs_parts hl0, List.append_assoc]) hs
    rw [← leafPs_parts hl0] at hrl
    have hpn := parts_len l
    have hlp : (leafPs l).length = chN l.length := by rw [leafPs_parts hl0, List.length_map, hpn]
    have hlpos := List.length_pos_iff.2 hl0
    unfold chN at hpn hlp
    obtain ⟨y, N, e1, e2, e3, e4, u, p, e5, e6, e7, e8⟩ := rd_up pre _ post _ (placesP pre.length (leafPs l)) (Nat.le_refl _) (bytesP (leafPs l)) l (parts l).length true (by omega) rfl (fun pl hpl => by have := places_snd _ _ pl hpl; omega) (srt_leaves hl0 hs _) hrl (by omega) (fun y hy => by
      have hl1 : (parts l).length = 1 := by
        have := congrArg List.length hy
        rw [List.length_singleton] at this; omega
      have hR1 := leaf_right hs
      have hn1 : leafPs l = [leafP (l.take 8)] := by rw [leafPs_parts hl0, parts_one hl1]; rfl
      rw [hn1] at hy ⊢
      rw [placesP, placesP] at hy
      injection hy with hy
      refine ⟨[], leafP (l.take 8), ?_, ?_, hR1, rfl⟩
      · rw [bytesP_cons, outP_right hR1]; simp [bytesP]
      · rw [← hy]; rfl)
    refine ⟨y, N, e1, e2, by omega, e4, u, p, e5, e6, e7, ?_⟩
    rw [e8, Bool.and_true]
    exact decide_eq_decide.2 (by omega)
theorem load_dump {l : List ItemT} {v : UInt64} {pre : List UInt8} (h : (dumpM l v pre.length).2.2 = 0) (hpre : pre.length ≤ 1073741824) (post : List UInt8) :
    loadL (pre ++ ((dumpM l v pre.length).1 ++ post)) (dumpM l v pre.length).2.1 = (l, 0) := by
  obtain ⟨root, lf, u, p, hd, hroot, hrd, -⟩ := rd_dump h hpre []
  have hl4 := (dumpM_ok h).2
  have hlen := dumpM_len l v pre.length
  rw [List.append_nil] at hrd
  generalize hX : (dumpM l v pre.length).1 = X at *
  have hs : (dumpM l v pre.length).2.1 = ⟨v, UInt32.ofNat root, UInt32.ofNat (pre.length + X.length), UInt32.ofNat l.length⟩ := by rw [hd]
  have hE : (UInt32.ofNat (pre.length + X.length)).toNat = (pre ++ X).length := by simp; omega
  have hA : (UInt32.ofNat root).toNat = root := by simp; omega
  have htk : (pre ++ (X ++ post)).take (pre ++ X).length = pre ++ X := by rw [← List.append_assoc]; exact List.take_left' rfl
  rw [hs]
  refine loadL_yes (r := (l, lf)) ?_ ?_ ⟨hl4, pre.length, ?_, ?_⟩
  · dsimp only; rw [hE]; simp only [List.length_append]; omega
  · dsimp only; rw [hE, hA, htk]; exact hrd
  · dsimp only; rw [hE, List.length_append]; omega
  · dsimp only; rw [hE, htk, List.drop_left' rfl]; exact hd
end Go.Tg

set_option linter.unusedVariables false
set_option linter.unusedSimpArgs false
set_option maxRecDepth 100000
set_option maxHeartbeats 4000000
namespace Go.Tg
open Go Go.Proofs
def itA (i : Nat) : ItemT := ⟨⟨UInt16.ofNat i, ⟨0, 0⟩⟩, ⟨0, UInt32.ofNat i⟩⟩
def l9 (k : Nat) : List ItemT := (List.range k).map itA
theorem l9_len (k : Nat) : (l9 k).length = k := by simp [l9]
theorem l9_succ (k : Nat) : l9 (k + 1) = l9 k ++ [itA k] := range_map_succ _ _
theorem cItA {i : Nat} (h : i < 9) : cItem (itA i) = [.int .u16 (i : Int), .int .u8 0, .int .u32 0, .int .u32 0, .int .u32 (i : Int)] := by
  match i, h with
  | 0, _ | 1, _ | 2, _ | 3, _ | 4, _ | 5, _ | 6, _ | 7, _ | 8, _ => rfl
theorem keyN_itA {i : Nat} (h : i < 9) : keyN (itA i).key = i * 1099511627776 := by
  unfold keyN itA
  have h2 : (0 : UInt8).toNat = 0 := rfl
  have h3 : (0 : UInt32).toNat = 0 := rfl
  have h1 : (UInt16.ofNat i).toNat = i := by simp; omega
  dsimp only
  rw [h1, h2, h3]; omega
theorem l9_rise : riseL (l9 9) = true := by
  refine riseL_iff.2 fun j hj => ?_
  rw [l9_len] at hj
  have e1 : (l9 9)[j]'(by rw [l9_len]; omega) = itA j := by simp [l9]
  have e2 : (l9 9)[j + 1]'(by rw [l9_len]; omega) = itA (j + 1) := by simp [l9]
  rw [e1, e2, keyN_itA (by omega), keyN_itA (by omega)]; omega
theorem l9_ok : (dumpM (l9 9) 3 0).2.2 = 0 := by
  unfold dumpM
  rw [if_neg (by rw [l9_rise]; simp), if_neg (by rw [l9_len]; decide)]
theorem dumpM_len8 (l : List ItemT) (v : UInt64) (x : Int) : (dumpM l v x).1.length ≤ 1000 * ((l.length + 7) / 8 + 1) := by
  unfold dumpM
  split
  · simp
  · split
    · simp
    · dsimp only
      unfold upL
      have h1 := upG_len x.toNat (bytesP (leafPs l)) (placesP x.toNat (leafPs l))
      have h2 := bytesP_len (leafPs l)
      have h3 : (leafPs l).length ≤ (l.length + 7) / 8 + 1 := by
        unfold leafPs
        split
        · simp
        · simp only [List.length_map, List.length_range]; unfold chN; omega
      rw [placesP_len] at h1
      omega
theorem encS_len4 (s : SlotT) : 4 ≤ (encS s).length := by
  unfold encS; unfold wrapB; rw [List.length_append, sum4_len]; omega
theorem ro_Load4 (a : Option Addr) (c n : Nat) (s : SlotT) (w : World) (hlt : n < s.end_.toNat) : SpecV Tryd.prog 13 #[.slice a n c, .agg (cSlot s).toArray] w (.tuple #[.slice none 0 0, .int .i64 4]) := by
  have H := St.start (sat_full w)
  have lS := cSlot_len s
  have hE4 := s.end_.toNat_lt
  unfold SpecV
  refine calls_of Tryd.func13 rfl Tryd.ntmps13 (by simp) ?_
  have g2 : (cSlot s)[0 + 2]? = some (.int .u32 (s.end_.toNat : Nat)) := rfl
  repeat' (first | ((first | refine WL.p rfl ?_ | refine WL.u ?_ | refine WL.g rfl rfl ?_ | refine WL.gu rfl ?_); first | refine pvQ ?_ | (refine opk 3 rfl ?_; first | (refine ost_eqA rfl (by decide) rfl rfl tyQ tyQ (fun hc => ?_) (fun hc => ?_) <;> try exact prEQ) | (refine ost_neA rfl (by decide) rfl rfl tyQ tyQ (fun hc => ?_) (fun hc => ?_) <;> try exact prEQ) | (refine ost_cmp rfl rfl rfl rfl (fun hc => ?_) (fun hc => ?_) <;> (simp only [cmpP] at hc; try exact prIQ)) | (refine ost_streqB rfl rfl rfl (fun hc => ?_) (fun hc => ?_) <;> try exact prEQ) | (refine ost_strneB rfl rfl rfl (fun hc => ?_) (fun hc => ?_) <;> try exact prEQ) | (refine ost_streq rfl rfl rfl (fun hc => ?_) (fun hc => ?_) <;> try exact absurd rfl hc) | (refine ost_strne rfl rfl rfl (fun hc => ?_) (fun hc => ?_))) | (refine opk 4 rfl ?_; (refine ost_cmp rfl rfl rfl rfl (fun hc => ?_) (fun hc => ?_) <;> (simp only [cmpP] at hc; try exact prIQ))) | (refine opk 8 rfl ?_; (refine ost_storeW H rfl rfl rfl rfl lQ ixQ lQ okQ ?_; clear H; intro wk H; simp only [List.set_cons_zero, List.set_cons_succ, Nat.reduceAdd] at H)) | (refine opk 9 rfl ?_; first | (refine ost_boxq H rfl ?_; clear H; intro bk wk H) | (refine ost_allocA H rfl ?_; clear H; intro bk wk H))) | refine Wc.seq ?_ | refine then_n ?_ | refine WL.nil ?_ | refine Wc.region ?_ | refine Wc.block ?_ | refine then_r ?_ | refine then_e ?_ | refine inb_e rfl ?_ | refine inb_o rfl ?_ | refine inb_n ?_ | refine inb_r ?_ | refine Wc.skip ?_ | refine Wc.exit ?_ | refine Wc.ret ?_ | refine Wc.cond_true rfl ?_ | refine Wc.cond_false rfl ?_ | (refine Wc.drawn (id := 7) 14 (by kernel_rfl) ?_) | (refine Wc.drawn (id := 14) 15 (by kernel_rfl) ?_) | (refine Wc.drawn (id := 16) 10 (by kernel_rfl) ?_) | refine WL.skp rfl rfl ?_ | refine WL.sku rfl ?_ | (refine rgs_nil ?_; intro vs wk hE; replace H := H.ext hE; clear hE) | refine RGs.skp (fun _ => rfl) rfl ?_ | (refine RGs.bq (fun _ => rfl) rfl (by intro vs w hE hP; have H := H.ext hE; first | exact dbQ | fail) (fun hc => ?_) (fun hc => ?_) <;> ((try simp only [cmpP, decide_eq_true_eq, decide_eq_false_iff_not, dcd_iff, dcd_no] at hc); try exact prDQ)) | refine RGs.pq (fun _ => rfl) rfl (by intro vs w hE hP; have H := H.ext hE; first | exact dvQ | fail) ?_)
  all_goals first | (exfalso; omega) | exact fn_ret2 (v1 := .slice _ _ _) (v2 := .int _ _) rfl rfl rfl ⟨rfl, H.fr⟩
theorem root_pos {l : List ItemT} {v : UInt64} {b u : List UInt8} {p : PageT} (h : (dumpM l v ((0 : Nat) : Int)).2.2 = 0) (h8 : 8 < l.length) (hb : (dumpM l v ((0 : Nat) : Int)).1 = b) (hu : b = u ++ encP p) (hr : rightP p = true) (hlf : p.leaf = false) : 0 < u.length := by
  by_cases hz : u = []
  · exfalso
    subst hz
    obtain ⟨hrise, hl4⟩ := dumpM_ok h
    have hs : SrtK (l.map (·.key)) := by
      unfold riseL at hrise; exact srtK_iff.1 (dcd_iff.1 hrise)
    have hne : l ≠ [] := fun e => by subst e; simp at h8
    have hR := leaf_right hs
    obtain ⟨t, ht⟩ := upG_pre 0 (bytesP (leafPs l)) (placesP 0 (leafPs l))
    have e1 : b = encP (leafP (l.take 8)) ++ (bytesP ((parts (l.drop 8)).map leafP) ++ t) := by
      rw [← hb]
      unfold dumpM
      rw [if_neg (by rw [hrise]; simp), if_neg (by omega)]
      unfold upL
      dsimp only
      rw [show ((0 : Nat) : Int).toNat = 0 from rfl, ht, leafPs_parts hne, parts_cons hne, List.map_cons, bytesP_cons, outP_right hR, List.append_assoc]
    have h1 := pageAt_enc hr [] []
    have h2 := pageAt_enc hR [] (bytesP ((parts (l.drop 8)).map leafP) ++ t)
    rw [List.nil_append, ← e1] at h2
    rw [List.nil_append] at hu
    rw [List.nil_append, List.append_nil, ← hu] at h1
    rw [h1] at h2
    injection h2 with h2
    rw [h2] at hlf
    cases hlf
  · exact List.length_pos_iff.2 hz
theorem encS_len6 (s : SlotT) : (encS s).length ≤ 1000 := by
  have h1 := numsS_len s
  have h2 := wrapB_len (numsB (natsS s))
  unfold encS
  omega
theorem ro_PickNo (h0 : FH) (a1 a2 : Option Addr) (c1 c2 : Nat) (s : SlotT) (w : World) (hs : Sat h0 w) (hT : Half h0) (hr1 : BS h0 a1 c1 [110, 111]) (hr2 : BS h0 a2 c2 (encS s)) :
    Spec Tryd.prog 16 #[.slice a1 2 c1, .slice a2 (encS s).length c2] w [] h0 (fun v h' L' => h' = h0 ∧ L' = [] ∧ v = .tuple #[.agg (cSlot s).toArray, .int .i64 0]) := by
  have h6 := encS_len6 s
  refine (ro_Pick h0 a1 a2 c1 c2 [110, 111] (encS s) w hs hT hr1 hr2 (by decide) (by omega)).mono fun v h' L' ⟨h1, h2, r, e, h3, hp⟩ => ⟨h1, h2, ?_⟩
  have hq : PickS [110, 111] (encS s) s 0 := .inr (.inl ⟨s, rfl, fun x hx => by
    have h4 := encS_len4 x
    rw [hx] at h4; exact absurd h4 (by decide), rfl, rfl⟩)
  obtain ⟨rfl, rfl⟩ := hp.unique hq
  exact h3
theorem alive15 (h0 : FH) (w : World) (hs : Sat h0 w) (hT : Half h0) : SpecV Tryd.prog 9 #[] w (.bool true) := by
  have H := St.start hs
  unfold SpecV
  refine calls_of Tryd.func9 rfl Tryd.ntmps9 (by simp) ?_
  repeat' (first | ((first | refine WL.p rfl ?_ | refine WL.u ?_ | refine WL.g rfl rfl ?_ | refine WL.gu rfl ?_); first | refine pvQ ?_ | (refine opk 3 rfl ?_; first | (refine ost_eqA rfl (by decide) rfl rfl tyQ tyQ (fun hc => ?_) (fun hc => ?_) <;> try exact prEQ) | (refine ost_neA rfl (by decide) rfl rfl tyQ tyQ (fun hc => ?_) (fun hc => ?_) <;> try exact prEQ) | (refine ost_cmp rfl rfl rfl rfl (fun hc => ?_) (fun hc => ?_) <;> (simp only [cmpP] at hc; try exact prIQ))) | (refine opk 4 rfl ?_; (refine ost_cmp rfl rfl rfl rfl (fun hc => ?_) (fun hc => ?_) <;> (simp only [cmpP] at hc; try exact prIQ))) | (refine opk 6 rfl ?_; (refine ost_mark H rfl rfl ixQ ?_; clear H; intro wk H; simp only [List.set_cons_zero, List.set_cons_succ, Nat.reduceAdd] at H)) | (refine opk 8 rfl ?_; (refine ost_storeW H rfl rfl rfl rfl lQ ixQ lQ okQ ?_; clear H; intro wk H; simp only [List.set_cons_zero, List.set_cons_succ, Nat.reduceAdd] at H)) | (refine opk 9 rfl ?_; first | (refine ost_allocA H rfl ?_; clear H; intro bk wk H) | (refine ost_build1 H rfl rfl rfl evQ lsQ rfl ?_; clear H; intro bk wk H))) | refine Wc.seq ?_ | refine then_n ?_ | refine WL.nil ?_ | refine Wc.region ?_ | refine Wc.block ?_ | refine then_r ?_ | refine then_e ?_ | refine inb_e rfl ?_ | refine inb_o rfl ?_ | refine inb_n ?_ | refine inb_r ?_ | refine Wc.skip ?_ | refine Wc.exit ?_ | refine Wc.ret ?_ | refine Wc.cond_true rfl ?_ | refine Wc.cond_false rfl ?_ | (refine Wc.drawn (id := 11) 8 (by kernel_rfl) ?_) | (refine Wc.drawn (id := 13) 49 (by kernel_rfl) ?_) | refine WL.skp rfl rfl ?_ | refine WL.sku rfl ?_ | (refine rgs_nil ?_; intro vs wk hE; replace H := H.ext hE; clear hE) | refine RGs.skp (fun _ => rfl) rfl ?_ | (refine RGs.bq (fun _ => rfl) rfl (by intro vs w hE hP; have H := H.ext hE; first | exact dbQ | fail) (fun hc => ?_) (fun hc => ?_) <;> ((try simp only [cmpP, decide_eq_true_eq, decide_eq_false_iff_not, dcd_iff, dcd_no] at hc); try exact prDQ)) | refine RGs.pq (fun _ => rfl) rfl (by intro vs w hE hP; have H := H.ext hE; first | exact dvQ | fail) ?_)
  replace H := H.nilOwn 70 5
  refine Wc.loopE (fun s0 m s w' => ∃ (i : Nat) (a : Option Addr) (c : Nat), m = 9 - i ∧ i ≤ 9 ∧ Agree [1, 2, 12, 13, 14, 15, 16, 17, 18, 19, 20, 21, 22, 23, 24, 25] s s0 ∧ s 1 = .slice a (l9 i).length c ∧ s 12 = .int .i64 i ∧
    St w [] h0 h0 [ownR (.slice a (l9 i).length c) 70 5 ((l9 i).map cItem)] w') 9 ⟨0, none, 0, rfl, by omega, Agree.refl _ _, rfl, rfl, H⟩ ?_
  clear H
  rintro m s w' ⟨i, a, c, rfl, hi, hA, e1, e2, H⟩
  obtain ⟨j, rfl⟩ := hA.env2 e1 e2
  clear hA e1 e2
  have hll := l9_len i
  by_cases hlt : i < 9
  · have hsn := l9_succ i
    have hrow := cItA hlt
    have hml : ((l9 i).map cItem).length = i := by rw [List.length_map, hll]
    generalize l9 i = II at *
    repeat' (first | ((first | refine WL.p rfl ?_ | refine WL.u ?_ | refine WL.g rfl rfl ?_ | refine WL.gu rfl ?_); first | (refine opk 1 rfl ?_; (refine ost_appR (rows := II.map cItem) (row := [Value.int .u16 (i : Int), .int .u8 0, .int .u32 0, .int .u32 0, .int .u32 (i : Int)]) H rfl rfl rfl (by (exact ixQ)) (by (exact ixQ)) (by rfl) (by first | simp; done | exact Nat.succ_pos _) rfl (allOne_of rfl) rfl (by omega) ?_; clear H; intro aa ca wk H; simp only [List.set_cons_zero, List.set_cons_succ] at H)) | (refine opk 9 rfl ?_; first | (refine ost_buildS rfl (evP_cons (rfl : _ = Value.int .u16 _) evP_nil) rfl (rfl : _ = [_, _, _]) ?_) | (refine ost_buildS rfl (evP_cons (rfl : _ = Value.int .u32 _) evP_nil) rfl (rfl : _ = [_, _]) ?_) | (refine ost_buildS rfl (evP_cons (rfl : _ = Value.agg _) (evP_cons (rfl : _ = Value.agg _) evP_nil)) rfl (rfl : _ = [_, _, _, _, _]) ?_) | (refine ost_buildR (rows := [[Value.int .u16 (i : Int), .int .u8 0, .int .u32 0, .int .u32 0, .int .u32 (i : Int)]]) H rfl (by decide) rfl (by rfl) (evP1 vxQ) (.cons rfl .nil) rfl (fun r hr => by rw [List.mem_singleton.1 hr]; rfl) ?_; clear H; intro bk wk H)) | refine pvQ ?_ | (refine opk 3 rfl ?_; first | (refine ost_eqA rfl (by decide) rfl rfl tyQ tyQ (fun hc => ?_) (fun hc => ?_) <;> try exact prEQ) | (refine ost_neA rfl (by decide) rfl rfl tyQ tyQ (fun hc => ?_) (fun hc => ?_) <;> try exact prEQ) | (refine ost_cmp rfl rfl rfl rfl (fun hc => ?_) (fun hc => ?_) <;> (simp only [cmpP] at hc; try exact prIQ))) | (refine opk 4 rfl ?_; (refine ost_cmp rfl rfl rfl rfl (fun hc => ?_) (fun hc => ?_) <;> (simp only [cmpP] at hc; try exact prIQ))) | (refine opk 6 rfl ?_; (refine ost_mark H rfl rfl ixQ ?_; clear H; intro wk H; simp only [List.set_cons_zero, List.set_cons_succ, Nat.reduceAdd] at H)) | (refine opk 8 rfl ?_; (refine ost_storeW H rfl rfl rfl rfl lQ ixQ lQ okQ ?_; clear H; intro wk H; simp only [List.set_cons_zero, List.set_cons_succ, Nat.reduceAdd] at H)) | (refine opk 9 rfl ?_; first | (refine ost_allocA H rfl ?_; clear H; intro bk wk H) | (refine ost_build1 H rfl rfl rfl evQ lsQ rfl ?_; clear H; intro bk wk H))) | refine Wc.seq ?_ | refine then_n ?_ | refine WL.nil ?_ | refine Wc.region ?_ | refine Wc.block ?_ | refine then_r ?_ | refine then_e ?_ | refine inb_e rfl ?_ | refine inb_o rfl ?_ | refine inb_n ?_ | refine inb_r ?_ | refine Wc.skip ?_ | refine Wc.exit ?_ | refine Wc.ret ?_ | refine Wc.cond_true rfl ?_ | refine Wc.cond_false rfl ?_ | (refine Wc.drawn (id := 11) 8 (by kernel_rfl) ?_) | (refine Wc.drawn (id := 13) 49 (by kernel_rfl) ?_) | refine WL.skp rfl rfl ?_ | refine WL.sku rfl ?_ | (refine rgs_nil ?_; intro vs wk hE; replace H := H.ext hE; clear hE) | refine RGs.skp (fun _ => rfl) rfl ?_ | (refine RGs.bq (fun _ => rfl) rfl (by intro vs w hE hP; have H := H.ext hE; first | exact dbQ | fail) (fun hc => ?_) (fun hc => ?_) <;> ((try simp only [cmpP, decide_eq_true_eq, decide_eq_false_iff_not, dcd_iff, dcd_no] at hc); try exact prDQ)) | refine RGs.pq (fun _ => rfl) rfl (by intro vs w hE hP; have H := H.ext hE; first | exact dvQ | fail) ?_)
    have hmp : II.map cItem ++ [[Value.int .u16 (i : Int), .int .u8 0, .int .u32 0, .int .u32 0, .int .u32 (i : Int)]] = (l9 (i + 1)).map cItem := by rw [hsn, List.map_append, List.map_singleton, hrow]
    have hmn : (II.map cItem ++ [[Value.int .u16 (i : Int), .int .u8 0, .int .u32 0, .int .u32 0, .int .u32 (i : Int)]]).length = (l9 (i + 1)).length := by rw [hmp, List.length_map]
    rw [hmn, hmp] at H
    rw [hmn]
    exact ⟨9 - (i + 1), by omega, i + 1, _, _, rfl, by omega, by (repeat' (first | exact Agree.refl _ _ | exact Agree.havoc | refine Agree.upd rfl ?_ | refine Agree.hav2 rfl ?_)), rfl, rfl, H.picks [1] rfl (by decide)⟩
  · obtain rfl : i = 9 := by omega
    have hL9 := l9_ok
    have hrise := l9_rise
    obtain ⟨root, lf, u, p, hd, hroot, hrd, hu, hre, hR, hlf⟩ := rd_dump (l := l9 9) (v := 3) (pre := []) hL9 (by decide) []
    have hload := load_dump (l := l9 9) (v := 3) (pre := []) hL9 (by decide) []
    have hup := root_pos hL9 (by rw [l9_len]; decide) rfl hu hR (by rw [hlf, l9_len]; rfl)
    have hDl := dumpM_len8 (l9 9) 3 ((([] : List UInt8).length : Nat) : Int)
    have hpos := encP_pos p
    have hD := fun (h : FH) (w : World) hs hT al cl hN => ro_Dump h w hs hT al cl (l9 9) hN 3 ((([] : List UInt8).length : Nat) : Int)
    have hDe : dumpM (l9 9) 3 0 = dumpM (l9 9) 3 ((([] : List UInt8).length : Nat) : Int) := rfl
    clear hL9
    generalize dumpM (l9 9) 3 ((([] : List UInt8).length : Nat) : Int) = D at *
    obtain ⟨B, s, e⟩ := D
    dsimp only at hd hload hu hDl hup hrd hD
    injection hd with _ hd
    injection hd with hsl he
    subst he
    rw [List.nil_append, List.append_nil] at hload
    have hBl : B.length = u.length + (encP p).length := by rw [hu, List.length_append]
    obtain ⟨a8, c8, h7, e8, hle7, hN7, H7⟩ := H.freezeR (rows_len5 _)
    clear H
    have H := H7
    clear H7
    injection e8 with e81 e82 e83
    subst e81; subst e83
    have hT7 := hT.mono hle7
    repeat' (first | ((first | refine WL.p rfl ?_ | refine WL.u ?_ | refine WL.g rfl rfl ?_ | refine WL.gu rfl ?_); first | (refine opk 1 rfl ?_; (refine ost_C H rfl (hD _ _ (sat_full _) (hT7.full H) _ _ (hN7.mono H.sat.le)) rfl ?_; clear H; rintro vk wk hfk Lk ⟨rfl, a1, c1, rfl, rfl⟩ H; simp only [List.cons_append, List.nil_append] at H)) | refine pvQ ?_ | (refine opk 3 rfl ?_; first | (refine ost_eqA rfl (by decide) rfl rfl tyQ tyQ (fun hc => ?_) (fun hc => ?_) <;> try exact prEQ) | (refine ost_neA rfl (by decide) rfl rfl tyQ tyQ (fun hc => ?_) (fun hc => ?_) <;> try exact prEQ) | (refine ost_cmp rfl rfl rfl rfl (fun hc => ?_) (fun hc => ?_) <;> (simp only [cmpP] at hc; try exact prIQ))) | (refine opk 4 rfl ?_; (refine ost_cmp rfl rfl rfl rfl (fun hc => ?_) (fun hc => ?_) <;> (simp only [cmpP] at hc; try exact prIQ))) | (refine opk 6 rfl ?_; (refine ost_mark H rfl rfl ixQ ?_; clear H; intro wk H; simp only [List.set_cons_zero, List.set_cons_succ, Nat.reduceAdd] at H)) | (refine opk 8 rfl ?_; (refine ost_storeW H rfl rfl rfl rfl lQ ixQ lQ okQ ?_; clear H; intro wk H; simp only [List.set_cons_zero, List.set_cons_succ, Nat.reduceAdd] at H)) | (refine opk 9 rfl ?_; first | (refine ost_allocA H rfl ?_; clear H; intro bk wk H) | (refine ost_build1 H rfl rfl rfl evQ lsQ rfl ?_; clear H; intro bk wk H))) | refine Wc.seq ?_ | refine then_n ?_ | refine WL.nil ?_ | refine Wc.region ?_ | refine Wc.block ?_ | refine then_r ?_ | refine then_e ?_ | refine inb_e rfl ?_ | refine inb_o rfl ?_ | refine inb_n ?_ | refine inb_r ?_ | refine Wc.skip ?_ | refine Wc.exit ?_ | refine Wc.ret ?_ | refine Wc.cond_true rfl ?_ | refine Wc.cond_false rfl ?_ | (refine Wc.drawn (id := 11) 8 (by kernel_rfl) ?_) | (refine Wc.drawn (id := 13) 49 (by kernel_rfl) ?_) | refine WL.skp rfl rfl ?_ | refine WL.sku rfl ?_ | (refine rgs_nil ?_; intro vs wk hE; replace H := H.ext hE; clear hE) | refine RGs.skp (fun _ => rfl) rfl ?_ | (refine RGs.bq (fun _ => rfl) rfl (by intro vs w hE hP; have H := H.ext hE; first | exact dbQ | fail) (fun hc => ?_) (fun hc => ?_) <;> ((try simp only [cmpP, decide_eq_true_eq, decide_eq_false_iff_not, dcd_iff, dcd_no] at hc); try exact prDQ)) | refine RGs.pq (fun _ => rfl) rfl (by intro vs w hE hP; have H := H.ext hE; first | exact dvQ | fail) ?_)
    rw [l9_len] at hDl
    obtain ⟨a6, c6, h9, e6, hle9, hr6, H7⟩ := (H.front 1 rfl).freeze8
    clear H
    have H := H7
    simp only [List.eraseIdx_cons_succ, List.eraseIdx_cons_zero] at H
    clear H7
    cases e6
    have hT9 := hT7.mono hle9
    have hsE : s.end_.toNat = B.length := by
      rw [hsl]; simp; omega
    have hsA : s.at_.toNat = u.length := by
      rw [hsl, hre]; simp; omega
    have hsI : s.items.toNat = 9 := by rw [hsl, l9_len]; rfl
    have cLd : ∀ w, Sat h9 w → Spec Tryd.prog 13 #[.slice a1 B.length c1, .agg (cSlot s).toArray] w [] h9 (fun v h' L' => ∃ a' c', v = .tuple #[.slice a' 9 c', .int .i64 0] ∧ L' = [] ∧ Sl h' 5 a' c' ((l9 9).map cItem)) := fun w hs => by
      have := ro_Load h9 a1 c1 B s w hs hT9 hr6 (by omega)
      rw [hload] at this
      simpa only [l9_len] using this
    have lS := cSlot_len s
    have gE : (cSlot s)[0 + 2]? = some (.int .u32 (B.length : Nat)) := by rw [← hsE]; rfl
    have gA : (cSlot s)[0 + 1]? = some (.int .u32 (u.length : Nat)) := by rw [← hsA]; rfl
    have gI : (cSlot s)[0 + 3]? = some (.int .u32 9) := by
      have : (cSlot s)[0 + 3]? = some (.int .u32 (s.items.toNat : Nat)) := rfl
      rw [this, hsI]; rfl
    have hlen8 : 8 < (l9 9).length := by rw [l9_len]; decide
    obtain ⟨b8, off8, l8, T8, fr8, e8, eb8, eg8⟩ := (hN7.mono hle9).getM (by decide) (by omega)
    subst e8
    have e9 : (l9 9)[8]'hlen8 = itA 8 := by simp [l9]
    have g8 : (l8.drop (off8 + (8 : Int).toNat * 5)).take 5 = cItem (itA 8) := by
      have := eg8 (8 : Int).toNat 8 hlen8 rfl
      rw [this, e9]
    clear eg8
    repeat' (first | ((first | refine WL.p rfl ?_ | refine WL.u ?_ | refine WL.g rfl rfl ?_ | refine WL.gu rfl ?_); first | (refine opk 1 rfl ?_; (refine ost_Sk H rfl (cLd _ H.sat) rfl ?_; clear H; rintro vk wk hfk Lk ⟨a4, c4, rfl, rfl, hI4⟩ hle H; simp only [List.cons_append, List.nil_append] at H)) | refine pvQ ?_ | (refine opk 3 rfl ?_; first | (refine ost_eqA rfl (by decide) rfl rfl tyQ tyQ (fun hc => ?_) (fun hc => ?_) <;> try exact prEQ) | (refine ost_neA rfl (by decide) rfl rfl tyQ tyQ (fun hc => ?_) (fun hc => ?_) <;> try exact prEQ) | (refine ost_cmp rfl rfl rfl rfl (fun hc => ?_) (fun hc => ?_) <;> (simp only [cmpP] at hc; try exact prIQ))) | (refine opk 4 rfl ?_; (refine ost_cmp rfl rfl rfl rfl (fun hc => ?_) (fun hc => ?_) <;> (simp only [cmpP] at hc; try exact prIQ))) | (refine opk 6 rfl ?_; (refine ost_mark H rfl rfl ixQ ?_; clear H; intro wk H; simp only [List.set_cons_zero, List.set_cons_succ, Nat.reduceAdd] at H)) | (refine opk 8 rfl ?_; (refine ost_storeW H rfl rfl rfl rfl lQ ixQ lQ okQ ?_; clear H; intro wk H; simp only [List.set_cons_zero, List.set_cons_succ, Nat.reduceAdd] at H)) | (refine opk 9 rfl ?_; first | (refine ost_allocA H rfl ?_; clear H; intro bk wk H) | (refine ost_build1 H rfl rfl rfl evQ lsQ rfl ?_; clear H; intro bk wk H))) | refine Wc.seq ?_ | refine then_n ?_ | refine WL.nil ?_ | refine Wc.region ?_ | refine Wc.block ?_ | refine then_r ?_ | refine then_e ?_ | refine inb_e rfl ?_ | refine inb_o rfl ?_ | refine inb_n ?_ | refine inb_r ?_ | refine Wc.skip ?_ | refine Wc.exit ?_ | refine Wc.ret ?_ | refine Wc.cond_true rfl ?_ | refine Wc.cond_false rfl ?_ | (refine Wc.drawn (id := 11) 8 (by kernel_rfl) ?_) | (refine Wc.drawn (id := 13) 49 (by kernel_rfl) ?_) | refine WL.skp rfl rfl ?_ | refine WL.sku rfl ?_ | (refine rgs_nil ?_; intro vs wk hE; replace H := H.ext hE; clear hE) | refine RGs.skp (fun _ => rfl) rfl ?_ | (refine RGs.bq (fun _ => rfl) rfl (by intro vs w hE hP; have H := H.ext hE; first | exact dbQ | fail) (fun hc => ?_) (fun hc => ?_) <;> ((try simp only [cmpP, decide_eq_true_eq, decide_eq_false_iff_not, dcd_iff, dcd_no] at hc); try exact prDQ)) | refine RGs.pq (fun _ => rfl) rfl (by intro vs w hE hP; have H := H.ext hE; first | (refine opk 1 rfl ?_; (exact ost_V0d rfl (ro_Load4 _ _ _ s _ (by rw [hsE]; first | omega | (simp; omega))) rfl)) | exact dvQ | fail) ?_)
    obtain ⟨b5, off5, l5, T5, fr5, e5, eb5, eg5⟩ := hI4.getM (by decide) (by omega)
    subst e5
    have g5 : (l5.drop (off5 + (8 : Int).toNat * 5)).take 5 = cItem (itA 8) := by
      have := eg5 (8 : Int).toNat 8 hlen8 rfl
      rw [this, e9]
    clear eg5
    have hTk := hT9.mono hle
    have eb8k := hle _ _ eb8
    have hE6 := encS_len6 s
    repeat' (first | ((first | refine WL.p rfl ?_ | refine WL.u ?_ | refine WL.g rfl rfl ?_ | refine WL.gu rfl ?_); first | (refine opk 1 rfl ?_; first | (refine ost_C H rfl (ro_Encode s _ _ (sat_full _) (hTk.full H)) rfl ?_; clear H; rintro vk wk hfk Lk ⟨a7, c7, rfl, -, rfl⟩ H; simp only [List.cons_append, List.nil_append] at H) | (refine ost_C H rfl (ro_PickNo _ _ _ _ _ s _ (sat_full _) (hTk.full H) (BS.ofBlk (xs := [110, 111]) (H.blk (i := 1) rfl) (by decide)) (H.own8rd (i := 0) rfl)) rfl ?_; clear H; rintro vk wk hfk Lk ⟨rfl, rfl, rfl⟩ H; simp only [List.cons_append, List.nil_append] at H)) | refine pvQ ?_ | (refine opk 3 rfl ?_; first | (refine ost_eqA rfl (by decide) rfl rfl tyQ tyQ (fun hc => ?_) (fun hc => ?_) <;> try exact prEQ) | (refine ost_neA rfl (by decide) rfl rfl tyQ tyQ (fun hc => ?_) (fun hc => ?_) <;> try exact prEQ) | (refine ost_cmp rfl rfl rfl rfl (fun hc => ?_) (fun hc => ?_) <;> (simp only [cmpP] at hc; try exact prIQ))) | (refine opk 4 rfl ?_; (refine ost_cmp rfl rfl rfl rfl (fun hc => ?_) (fun hc => ?_) <;> (simp only [cmpP] at hc; try exact prIQ))) | (refine opk 6 rfl ?_; (refine ost_mark H rfl rfl ixQ ?_; clear H; intro wk H; simp only [List.set_cons_zero, List.set_cons_succ, Nat.reduceAdd] at H)) | (refine opk 8 rfl ?_; (refine ost_storeW H rfl rfl rfl rfl lQ ixQ lQ okQ ?_; clear H; intro wk H; simp only [List.set_cons_zero, List.set_cons_succ, Nat.reduceAdd] at H)) | (refine opk 9 rfl ?_; first | (refine ost_allocA H rfl ?_; clear H; intro bk wk H) | (refine ost_build1 H rfl rfl rfl evQ lsQ rfl ?_; clear H; intro bk wk H))) | refine Wc.seq ?_ | refine then_n ?_ | refine WL.nil ?_ | refine Wc.region ?_ | refine Wc.block ?_ | refine then_r ?_ | refine then_e ?_ | refine inb_e rfl ?_ | refine inb_o rfl ?_ | refine inb_n ?_ | refine inb_r ?_ | refine Wc.skip ?_ | refine Wc.exit ?_ | refine Wc.ret ?_ | refine Wc.cond_true rfl ?_ | refine Wc.cond_false rfl ?_ | (refine Wc.drawn (id := 11) 8 (by kernel_rfl) ?_) | (refine Wc.drawn (id := 13) 49 (by kernel_rfl) ?_) | refine WL.skp rfl rfl ?_ | refine WL.sku rfl ?_ | (refine rgs_nil ?_; intro vs wk hE; replace H := H.ext hE; clear hE) | refine RGs.skp (fun _ => rfl) rfl ?_ | (refine RGs.bq (fun _ => rfl) rfl (by intro vs w hE hP; have H := H.ext hE; first | exact dbQ | fail) (fun hc => ?_) (fun hc => ?_) <;> ((try simp only [cmpP, decide_eq_true_eq, decide_eq_false_iff_not, dcd_iff, dcd_no] at hc); try exact prDQ)) | refine RGs.pq (fun _ => rfl) rfl (by intro vs w hE hP; have H := H.ext hE; first | (refine opk 1 rfl ?_; (exact ost_V0d rfl (ro_Load4 _ _ _ s _ (by rw [hsE]; first | omega | (simp; omega))) rfl)) | exact dvQ | fail) ?_)
    all_goals first | ((first | refine fn_ret1 (v := .bool _) rfl rfl ⟨?_, H.fr⟩ | refine fn_ret1 (v := .int _ _) rfl rfl ⟨?_, H.fr⟩ | refine fn_ret1 (v := .string _) rfl rfl ⟨?_, H.fr⟩); rfl) | (exfalso; first | omega | (rename_i hc; exact hc trivial) | exact absurd rfl ‹¬ _ = _›)
end Go.Tg

set_option linter.unusedVariables false
set_option linter.unusedSimpArgs false
set_option maxRecDepth 100000
set_option maxHeartbeats 4000000
namespace Go.Tg
open Go Go.Proofs
theorem slot_ok {w : World} {r : Reach} {b : Nat} {v : Value} (h : Value.okWide Tryd.prog w r b 34 v) : ∃ s : SlotT, v = .agg (cSlot s).toArray := by
  obtain ⟨l, rfl, hl, hc⟩ := cells_of_ok (ts := [23, 26, 26, 26]) Tryd.underlying34 rfl (by kernel_rfl) (by kernel_rfl) h
  match l, hl, hc with
  | [z, x, y, u], hl, hc =>
    obtain ⟨o, e0, h0, h1⟩ := int_of_ok Tryd.underlying23 (hc 0 (by simp) (by simp))
    obtain ⟨n, e1, h2, h3⟩ := int_of_ok Tryd.underlying26 (hc 1 (by simp) (by simp))
    obtain ⟨m, e2, h4, h5⟩ := int_of_ok Tryd.underlying26 (hc 2 (by simp) (by simp))
    obtain ⟨k, e3, h6, h7⟩ := int_of_ok Tryd.underlying26 (hc 3 (by simp) (by simp))
    simp only [List.getElem_cons_zero, List.getElem_cons_succ] at e0 e1 e2 e3
    subst e0; subst e1; subst e2; subst e3
    have h0 : 0 ≤ o := h0
    have h1 : o ≤ 18446744073709551615 := h1
    have h2 : 0 ≤ n := h2
    have h3 : n ≤ 4294967295 := h3
    have h4 : 0 ≤ m := h4
    have h5 : m ≤ 4294967295 := h5
    have h6 : 0 ≤ k := h6
    have h7 : k ≤ 4294967295 := h7
    refine ⟨⟨UInt64.ofNat o.toNat, UInt32.ofNat n.toNat, UInt32.ofNat m.toNat, UInt32.ofNat k.toNat⟩, ?_⟩
    simp [cSlot]
    omega
section
variable {H : Type} {enc : TypeId × Value → H} {W : World} {sp : Nat → Bool}
end
end Go.Tg

