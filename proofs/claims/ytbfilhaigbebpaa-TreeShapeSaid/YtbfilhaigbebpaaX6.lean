/- Contracts of Go functions that the laws reach: what each call answers and leaves in memory, for all arguments within the bounds that each theorem names. -/
import Derived.Test.YtbfilhaigbebpaaInst
import Derived.Test.YtbfilhaigbebpaaAuto
import Derived.Test.YtbfilhaigbebpaaX4
set_option linter.unusedVariables false
set_option linter.unusedSimpArgs false
set_option maxRecDepth 100000
set_option maxHeartbeats 4000000
namespace Go.Tg
open Go Go.Proofs
def Srt (l : List ItemT) : Prop := l.Pairwise fun a b => keyN a.key < keyN b.key
theorem Srt.app {l m : List ItemT} : Srt (l ++ m) ↔ Srt l ∧ Srt m ∧ ∀ a ∈ l, ∀ b ∈ m, keyN a.key < keyN b.key := List.pairwise_append
theorem Srt.sorted {l : List ItemT} (h : Srt l) : sortedK (l.map (·.key)) := by
  intro i hi
  rw [List.length_map] at hi
  rw [List.getElem_map, List.getElem_map]
  exact List.pairwise_iff_getElem.1 h i (i + 1) (by omega) hi (by omega)
theorem sortedK_pw {ks : List KeyT} : sortedK ks ↔ ks.Pairwise fun a b => keyN a < keyN b := by
  constructor
  · intro h
    rw [List.pairwise_iff_getElem]
    intro i j hi hj hij
    have := sortedK_mono h (j - i) i (by omega)
    have e : (ks[i + (j - i)]'(by omega)) = ks[j] := by congr 1; omega
    rw [e] at this; omega
  · intro h i hi
    exact List.pairwise_iff_getElem.1 h i (i + 1) (by omega) hi (by omega)
def hdK (l : List ItemT) : KeyT := match l with | [] => ⟨0, ⟨0, 0⟩⟩ | x :: _ => x.key
theorem hdK_le {l : List ItemT} (h : Srt l) {x : ItemT} (hx : x ∈ l) : keyN (hdK l) ≤ keyN x.key := by
  cases l with
  | nil => cases hx
  | cons y l =>
    rcases List.mem_cons.1 hx with rfl | h1
    · exact Nat.le_refl _
    · exact Nat.le_of_lt ((List.pairwise_cons.1 h).1 x h1)
theorem hdK_mem {l : List ItemT} (h : l ≠ []) : ∃ x ∈ l, x.key = hdK l := by
  cases l with
  | nil => exact absurd rfl h
  | cons y l => exact ⟨y, by simp, rfl⟩
theorem hdK_app {l m : List ItemT} (h : l ≠ []) : hdK (l ++ m) = hdK l := by
  cases l with
  | nil => exact absurd rfl h
  | cons y l => rfl
def Sh : Nat → Type
  | 0 => UInt32 × List ItemT
  | d + 1 => UInt32 × List (Sh d)
def Sh.num : (d : Nat) → Sh d → UInt32
  | 0, s => s.1
  | _ + 1, s => s.1
def Sh.its : (d : Nat) → Sh d → List ItemT
  | 0, s => s.2
  | d + 1, s => (s.2.map (Sh.its d)).flatten
def Sh.page : (d : Nat) → Sh d → PageT
  | 0, s => ⟨true, s.2.map (·.key), s.2.map (·.loc), []⟩
  | d + 1, s => ⟨false, s.2.map fun k => hdK (Sh.its d k), [], s.2.map (Sh.num d)⟩
def Sh.nodes : (d : Nat) → Sh d → List (UInt32 × PageT)
  | 0, s => [(s.1, Sh.page 0 s)]
  | d + 1, s => (s.1, Sh.page (d + 1) s) :: (s.2.map (Sh.nodes d)).flatten
def Sh.Ok : (d : Nat) → Sh d → Prop
  | 0, s => s.2.length ≤ 8
  | d + 1, s => 1 ≤ s.2.length ∧ s.2.length ≤ 8 ∧ ∀ k ∈ s.2, Sh.Ok d k ∧ Sh.its d k ≠ []
theorem Sh.nodes_head : ∀ (d : Nat) (s : Sh d), ∃ r, Sh.nodes d s = (Sh.num d s, Sh.page d s) :: r
  | 0, s => ⟨_, rfl⟩
  | d + 1, s => ⟨_, rfl⟩
theorem Sh.ok_ne : ∀ (d : Nat) (s : Sh (d + 1)), Sh.Ok (d + 1) s → Sh.its (d + 1) s ≠ []
  | d, (n, ks), h => by
    obtain ⟨h1, -, h3⟩ := h
    cases ks with
    | nil => simp at h1
    | cons k ks =>
      have := (h3 k (by simp)).2
      intro e
      have e2 : Sh.its d k ++ ((ks.map (Sh.its d)).flatten) = [] := e
      exact this (List.append_eq_nil_iff.1 e2).1
theorem heads_sorted : ∀ {L : List (List ItemT)}, (∀ l ∈ L, l ≠ []) → Srt L.flatten → (L.map hdK).Pairwise fun a b => keyN a < keyN b
  | [], _, _ => List.Pairwise.nil
  | l :: L, hne, hs => by
    rw [List.flatten_cons, Srt.app] at hs
    rw [List.map_cons, List.pairwise_cons]
    refine ⟨fun k hk => ?_, heads_sorted (fun l hl => hne l (by simp [hl])) hs.2.1⟩
    obtain ⟨m, hm, rfl⟩ := List.mem_map.1 hk
    obtain ⟨x, hx, e⟩ := hdK_mem (hne l (by simp))
    obtain ⟨y, hy, e2⟩ := hdK_mem (hne m (by simp [hm]))
    rw [← e, ← e2]
    exact hs.2.2 x hx y (List.mem_flatten.2 ⟨m, hm, hy⟩)
theorem Sh.kids_ne {d : Nat} {s : Sh (d + 1)} (h : Sh.Ok (d + 1) s) : ∀ l ∈ s.2.map (Sh.its d), l ≠ [] := by
  intro l hl
  obtain ⟨k, hk, rfl⟩ := List.mem_map.1 hl
  exact (h.2.2 k hk).2
theorem Sh.right : ∀ (d : Nat) (s : Sh d), Sh.Ok d s → Srt (Sh.its d s) → rightP (Sh.page d s) = true
  | 0, s, h, hs => by
    rw [rightP_iff]
    refine ⟨Srt.sorted hs, ?_⟩
    show shapeP ⟨true, _, _, _⟩
    rw [shapeP_T]
    exact ⟨by rw [List.length_map]; exact h, by rw [List.length_map, List.length_map], rfl⟩
  | d + 1, s, h, hs => by
    rw [rightP_iff]
    refine ⟨?_, ?_⟩
    · have := heads_sorted (Sh.kids_ne h) hs
      rw [List.map_map] at this
      exact sortedK_pw.2 this
    · show shapeP ⟨false, _, _, _⟩
      rw [shapeP_F]
      simp only [List.length_map]
      exact ⟨h.1, h.2.1, trivial, rfl⟩
theorem cntK_lt {ks : List KeyT} (hs : sortedK ks) {k : KeyT} {t : Nat} (ht : t < ks.length) : t < cntK ks k ↔ keyN ks[t] < keyN k := by
  have hpw := sortedK_pw.1 hs
  unfold cntK
  clear hs
  induction ks generalizing t with
  | nil => simp at ht
  | cons y ks ih =>
    obtain ⟨h1, h2⟩ := List.pairwise_cons.1 hpw
    rw [List.countP_cons]
    by_cases hy : keyN y < keyN k
    · rw [if_pos (lessK_iff.2 hy)]
      cases t with
      | zero => simp [hy]
      | succ t =>
        have h9 := ih (t := t) (by simpa using ht) h2
        rw [List.getElem_cons_succ]
        exact ⟨fun h => h9.1 (by omega), fun h => by have := h9.2 h; omega⟩
    · have h0 : ks.countP (fun x => lessK x k) = 0 := List.countP_eq_zero.2 fun z hz => by
        have := h1 z hz
        rw [lessK_iff]; omega
      rw [if_neg (by rw [lessK_iff]; exact hy), h0]
      cases t with
      | zero => simp [hy]
      | succ t =>
        rw [List.getElem_cons_succ]
        have := h1 (ks[t]'(by simpa using ht)) (List.getElem_mem _)
        omega
theorem hasK_cnt {ks : List KeyT} (hs : sortedK ks) {k : KeyT} : hasK ks k = true ↔ ∃ h : cntK ks k < ks.length, ks[cntK ks k] = k := by
  unfold hasK
  rw [dcd_iff]
  constructor
  · intro hm
    obtain ⟨t, ht, e⟩ := List.getElem_of_mem hm
    have h1 : ¬ t < cntK ks k := fun h => by have := (cntK_lt hs ht).1 h; rw [e] at this; omega
    have hc : cntK ks k < ks.length := by omega
    refine ⟨hc, ?_⟩
    have h2 : ¬ keyN ks[cntK ks k] < keyN k := fun h => by have := (cntK_lt hs hc).2 h; omega
    have h3 := sortedK_mono hs (t - cntK ks k) (cntK ks k) (by omega)
    have e3 : (ks[cntK ks k + (t - cntK ks k)]'(by omega)) = ks[t] := by congr 1; omega
    rw [e3, e] at h3
    exact keyN_inj (by omega)
  · rintro ⟨h, e⟩
    rw [← e]; exact List.getElem_mem h
theorem cntK_le (ks : List KeyT) (k : KeyT) : cntK ks k ≤ ks.length := List.countP_le_length
noncomputable def kidI (ks : List KeyT) (k : KeyT) : Nat := if hasK ks k = true then cntK ks k else cntK ks k - 1
theorem kidP_right {p : PageT} (h : rightP p = true) (k : KeyT) : kidP p k = kidI p.keys k := by
  unfold kidP kidI findP; rw [if_pos h]
theorem kidI_lt {ks : List KeyT} (hs : sortedK ks) (h0 : 0 < ks.length) (k : KeyT) : kidI ks k < ks.length := by
  unfold kidI
  have := cntK_le ks k
  split
  · exact (hasK_cnt hs).1 ‹_› |>.1
  · omega
theorem kidI_up {ks : List KeyT} (hs : sortedK ks) {k : KeyT} {j : Nat} (hj : j < ks.length) (h : kidI ks k < j) : keyN k < keyN ks[j] := by
  have h1 : ¬ j < cntK ks k := by unfold kidI at h; split at h <;> omega
  have h2 : ¬ keyN ks[j] < keyN k := fun h3 => h1 ((cntK_lt hs hj).2 h3)
  rcases Nat.lt_or_ge (keyN k) (keyN ks[j]) with h3 | h3
  · exact h3
  · exfalso
    have e : ks[j] = k := keyN_inj (by omega)
    have hh : hasK ks k = true := by unfold hasK; rw [dcd_iff, ← e]; exact List.getElem_mem hj
    obtain ⟨hc, e2⟩ := (hasK_cnt hs).1 hh
    unfold kidI at h
    rw [if_pos hh] at h
    have h3 := sortedK_mono hs (j - cntK ks k) (cntK ks k) (by omega)
    have e3 : (ks[cntK ks k + (j - cntK ks k)]'(by omega)) = ks[j] := by congr 1; omega
    rw [e3, e2, e] at h3; omega
theorem kidI_dn {ks : List KeyT} (hs : sortedK ks) {k : KeyT} {j : Nat} (hj : j < ks.length) (h : j ≤ kidI ks k) (h0 : 0 < j ∨ keyN ks[j] ≤ keyN k) : keyN ks[j] ≤ keyN k := by
  rcases h0 with h0 | h0
  · unfold kidI at h
    split at h
    · obtain ⟨hc, e2⟩ := (hasK_cnt hs).1 ‹_›
      by_cases hq : j < cntK ks k
      · exact Nat.le_of_lt ((cntK_lt hs hj).1 hq)
      · have : j = cntK ks k := by omega
        subst this; rw [e2]; exact Nat.le_refl _
    · exact Nat.le_of_lt ((cntK_lt hs hj).1 (by omega))
  · exact h0
theorem srt_part {l : List ItemT} : ∀ {L : List (List ItemT)}, Srt L.flatten → l ∈ L → Srt l
  | [], _, h3 => by cases h3
  | m :: L, hs, h3 => by
    rw [List.flatten_cons, Srt.app] at hs
    rcases List.mem_cons.1 h3 with rfl | h3
    · exact hs.1
    · exact srt_part hs.2.1 h3
theorem parts_split {L : List (List ItemT)} (hne : ∀ l ∈ L, l ≠ []) (hs : Srt L.flatten) (h0 : 0 < L.length) (k : KeyT) :
    kidI (L.map hdK) k < L.length ∧ (∀ x ∈ (L.take (kidI (L.map hdK) k)).flatten, keyN x.key < keyN k) ∧ (∀ x ∈ (L.drop (kidI (L.map hdK) k + 1)).flatten, keyN k < keyN x.key) := by
  have hh := sortedK_pw.2 (heads_sorted hne hs)
  have hi := kidI_lt hh (by rw [List.length_map]; exact h0) k
  rw [List.length_map] at hi
  generalize hI : kidI (L.map hdK) k = i at *
  refine ⟨hi, fun x hx => ?_, fun x hx => ?_⟩
  · -- ahead of the kid
    have h1 : 0 < i := by
      rcases Nat.eq_zero_or_pos i with h | h
      · subst h; simp at hx
      · exact h
    have h2 := kidI_dn hh (k := k) (j := i) (by rw [List.length_map]; exact hi) (by omega) (.inl h1)
    rw [List.getElem_map] at h2
    have e : L = L.take i ++ L.drop i := (List.take_append_drop i L).symm
    rw [e, List.flatten_append, Srt.app] at hs
    obtain ⟨y, hy, e2⟩ := hdK_mem (hne L[i] (List.getElem_mem hi))
    have hm : y ∈ (L.drop i).flatten := List.mem_flatten.2 ⟨L[i], by rw [List.drop_eq_getElem_cons hi]; exact List.mem_cons_self, hy⟩
    have := hs.2.2 x hx y hm
    rw [e2] at this
    omega
  · obtain ⟨l, hl, hxl⟩ := List.mem_flatten.1 hx
    obtain ⟨j, hj, e⟩ := List.getElem_of_mem hl
    rw [List.length_drop] at hj
    rw [List.getElem_drop] at e
    have h2 := kidI_up hh (k := k) (j := i + 1 + j) (by rw [List.length_map]; omega) (by omega)
    rw [List.getElem_map, e] at h2
    have hls : Srt l := srt_part hs (List.mem_of_mem_drop hl)
    have := hdK_le hls hxl
    omega
end Go.Tg

set_option linter.unusedVariables false
set_option linter.unusedSimpArgs false
set_option maxRecDepth 100000
set_option maxHeartbeats 4000000
namespace Go.Tg
open Go Go.Proofs
def pgO (p : PageT) (A : PAd) : List HA := [ownR (.slice A.ak p.keys.length A.ck) 42 3 (p.keys.map cKey), ownR (.slice A.al p.locs.length A.cl) 48 2 (p.locs.map cLoc), ownR (.slice A.ad p.kids.length A.cd) 24 1 (p.kids.map cKid)]
theorem tree_copied (p : PageT) (A : PAd) (h0 : FH) (w : World) (hs : Sat h0 w) (hPg : PgR h0 p A) (hb1 : p.keys.length ≤ 1000000) (hb2 : p.locs.length ≤ 1000000) (hb3 : p.kids.length ≤ 1000000) :
    Spec Try.prog 47 #[.agg (pgV p A).toArray] w [] h0 (fun v h' L' => h' = h0 ∧ ∃ A', v = .agg (pgV p A').toArray ∧ L' = pgO p A') := by
  have H := St.start hs
  have lp := pgV_len p A
  unfold Spec
  refine calls_of Try.func47 rfl Try.ntmps47 (by simp) ?_
  repeat' (first | ((first | refine WL.p rfl ?_ | refine WL.u ?_); first | (refine opk 9 rfl ?_; (refine ost_buildS rfl (evP_cons (rfl : _ = Value.bool _) (evP_cons (rfl : _ = Value.slice _ _ _) (evP_cons (rfl : _ = Value.slice _ _ _) (evP_cons (rfl : _ = Value.slice _ _ _) evP_nil)))) rfl (rfl : _ = [_, _, _, _]) ?_)) | refine pvQ ?_ | (refine opk 8 rfl ?_; (refine ost_storeW H rfl rfl rfl rfl lQ ixQ lQ okQ ?_; clear H; intro wk H; simp only [List.set_cons_zero, List.set_cons_succ, Nat.reduceAdd] at H)) | (refine opk 9 rfl ?_; first | (refine ost_boxq H rfl ?_; clear H; intro bk wk H) | (refine ost_allocA H rfl ?_; clear H; intro bk wk H))) | refine Wc.seq ?_ | refine then_n ?_ | refine WL.nil ?_ | refine Wc.region ?_ | refine Wc.block ?_ | refine then_r ?_ | refine then_e ?_ | refine inb_e rfl ?_ | refine inb_o rfl ?_ | refine inb_n ?_ | refine inb_r ?_ | refine Wc.skip ?_ | refine Wc.exit ?_ | refine Wc.ret ?_ | refine Wc.cond_true rfl ?_ | refine Wc.cond_false rfl ?_ | (refine Wc.drawM (id := 1) 11 [(4, [], fun v L' => ∃ a c, v = .slice a p.keys.length c ∧ L' = [ownR (.slice a p.keys.length c) 42 3 (p.keys.map cKey)]), (7, [], fun v L' => ∃ a c, v = .slice a p.locs.length c ∧ L' = [ownR (.slice a p.locs.length c) 48 2 (p.locs.map cLoc)]), (10, [], fun v L' => ∃ a c, v = .slice a p.kids.length c ∧ L' = [ownR (.slice a p.kids.length c) 24 1 (p.kids.map cKid)])] [.blk _ _, .blk _ _] [4, 7, 10] H (by kernel_rfl) rfl (by kernel_rfl) (by simp only [inpL, List.nil_append, List.cons_append, List.append_nil]; first | exact List.Perm.refl _ | exact List.Perm.swap _ _ _ | exact (List.Perm.swap _ _ _).trans ((List.Perm.swap _ _ _).cons _) | exact ((List.Perm.swap _ _ _).cons _) | exact ((List.Perm.swap _ _ _).cons _).trans (List.Perm.swap _ _ _)) ?_) | (refine rgm_nil ?_; intro vs wk outs HM hR; obtain ⟨v4, ⟨a4, c4, e4, o4⟩, h4⟩ := hR 4 _ rfl; have hv4 : vs (0 + 1 + 1 + 1 + 1) = _ := (h4 (by kernel_rfl)).trans e4; obtain ⟨v7, ⟨a7, c7, e7, o7⟩, h7⟩ := hR 7 _ rfl; have hv7 : vs (0 + 1 + 1 + 1 + 1 + 1 + 1 + 1) = _ := (h7 (by kernel_rfl)).trans e7; obtain ⟨v10, ⟨a10, c10, e10, o10⟩, h10⟩ := hR 10 _ rfl; have hv10 : vs (0 + 1 + 1 + 1 + 1 + 1 + 1 + 1 + 1 + 1 + 1) = _ := (h10 (by kernel_rfl)).trans e10; simp only [outsL, o4, o7, o10, List.cons_append, List.nil_append, List.append_nil] at HM; (try dsimp only); rw [hv4, hv7, hv10]; replace H := HM; clear HM hR h4 h7 h10 e4 e7 e10 o4 o7 o10 hv4 hv7 hv10) | (refine RGm.bq (fun _ => rfl) rfl (by intro vs w TT hP H; simp only [List.cons_append, List.nil_append] at H; first | exact dbQ | fail) (fun hc => ?_) (fun hc => ?_) <;> ((try simp only [cmpP, decide_eq_true_eq, decide_eq_false_iff_not, dcd_iff, dcd_no] at hc); try exact prDQ)) | refine RGm.pq (fun _ => rfl) rfl (by intro vs w TT hP H; simp only [List.cons_append, List.nil_append] at H; first | exact dvQ | fail) ?_ | refine RGm.mq (fun _ => rfl) rfl (by intro vs w TT hP H; simp only [List.cons_append, List.nil_append] at H; first | (refine ost_C H rfl (cloneK _ _ _ _ p.keys _ (sat_full _) rfl (hPg.k.full H) (by omega)) rfl ?_; rintro vk wk hfk Lk ⟨rfl, a9, c9, rfl, rfl⟩ H2; exact ⟨[_], ⟨a9, c9, rfl, rfl⟩, H2⟩) | (refine ost_C H rfl (cloneL _ _ _ _ p.locs _ (sat_full _) rfl (hPg.l.full H) (by omega)) rfl ?_; rintro vk wk hfk Lk ⟨rfl, a9, c9, rfl, rfl⟩ H2; exact ⟨[_], ⟨a9, c9, rfl, rfl⟩, H2⟩) | (refine ost_C H rfl (cloneD _ _ _ _ p.kids _ (sat_full _) rfl (hPg.d.full H) (by omega)) rfl ?_; rintro vk wk hfk Lk ⟨rfl, a9, c9, rfl, rfl⟩ H2; exact ⟨[_], ⟨a9, c9, rfl, rfl⟩, H2⟩) | fail) ?_ | refine RGm.mu rfl (by intro vs w TT hP H; simp only [List.cons_append, List.nil_append] at H; first | (refine ost_C H rfl (cloneK _ _ _ _ p.keys _ (sat_full _) rfl (hPg.k.full H) (by omega)) rfl ?_; rintro vk wk hfk Lk ⟨rfl, a9, c9, rfl, rfl⟩ H2; exact ⟨[_], ⟨a9, c9, rfl, rfl⟩, H2⟩) | (refine ost_C H rfl (cloneL _ _ _ _ p.locs _ (sat_full _) rfl (hPg.l.full H) (by omega)) rfl ?_; rintro vk wk hfk Lk ⟨rfl, a9, c9, rfl, rfl⟩ H2; exact ⟨[_], ⟨a9, c9, rfl, rfl⟩, H2⟩) | (refine ost_C H rfl (cloneD _ _ _ _ p.kids _ (sat_full _) rfl (hPg.d.full H) (by omega)) rfl ?_; rintro vk wk hfk Lk ⟨rfl, a9, c9, rfl, rfl⟩ H2; exact ⟨[_], ⟨a9, c9, rfl, rfl⟩, H2⟩) | fail) ?_)
  exact fn_ret1 rfl (rv_cellA rfl rfl H.bI lQ) ⟨_, _, H.picks [2, 3, 4] rfl (by decide), rfl, ⟨a4, c4, a7, c7, a10, c10⟩, rfl, rfl⟩
end Go.Tg

set_option linter.unusedVariables false
set_option linter.unusedSimpArgs false
set_option maxRecDepth 100000
set_option maxHeartbeats 4000000
namespace Go.Tg
open Go Go.Proofs
def cU (k : UInt32) : Value := .int .u32 k.toNat
theorem u32_chk (q : Bool) (k : UInt32) (w : World) : (Instr.checkKey q 10000 24 (cU k)).run Try.prog w = .ok () w := by
  unfold cU
  generalize ((k.toNat : Nat) : Int) = a
  kernel_rfl
theorem u32_now (k : UInt32) : ∀ (es : List (ME UInt32)) (i : Nat), Instr.findNow (.int .u32) (cU k) (es.map (ME.e cU)) i = some (match es.findIdx? (fun x => decide (x.k = k)) with | some j => some (i + j, ((es[j]?).map ME.v).getD undef) | none => none)
  | [], i => rfl
  | x :: es, i => by
    have hs : Instr.sameNow (.int .u32) (cU k) (cU x.k) = some (decide (x.k = k)) := by
      have : ((k.toNat : Int) = (x.k.toNat : Int)) ↔ x.k = k := ⟨fun h => (UInt32.toNat_inj.1 (by omega)), fun h => by rw [h]⟩
      have h2 : ((k.toNat : Int) == (x.k.toNat : Int)) = decide (x.k = k) := by rw [Bool.eq_iff_iff, beq_iff_eq, decide_eq_true_iff]; exact this
      simp [Instr.sameNow, cU, h2]
    rw [List.map_cons, Instr.findNow]
    rw [show (ME.e cU x).key = cU x.k from rfl, hs]
    rw [List.findIdx?_cons]
    by_cases h : x.k = k
    · rw [decide_eq_true h]; simp [ME.e]
    · rw [decide_eq_false h]
      simp only [Bool.false_eq_true, if_false]
      rw [u32_now k es (i + 1)]
      cases es.findIdx? (fun x => decide (x.k = k)) with
      | none => rfl
      | some j => simp; omega
theorem u32_find (k : UInt32) (es : List (ME UInt32)) (w : World) : (Instr.findKey 24 (cU k) (es.map (ME.e cU))).run Try.prog w = .ok (match es.findIdx? (fun x => decide (x.k = k)) with | some i => some (i, ((es[i]?).map ME.v).getD undef) | none => none) w := by
  unfold Instr.findKey
  simp only [Sem.run_bind, Ty.run_und, Result.andThen_ok]
  have := u32_now k es 0
  rw [this]
  simp only [Nat.zero_add]
  rfl
instance : MapK Try.prog 24 UInt32 cU := ⟨u32_chk, u32_find, fun k => by
  unfold cU; simp [Instr.sameBits]⟩
end Go.Tg

