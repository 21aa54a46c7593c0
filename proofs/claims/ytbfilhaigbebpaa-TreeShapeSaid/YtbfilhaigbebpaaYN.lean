/- Contracts of Go functions that the laws reach: what each call answers and leaves in memory, for all arguments within the bounds that each theorem names. -/
import Derived.Test.YtbfilhaigbebpaaInst
import Derived.Test.YtbfilhaigbebpaaAuto
import Derived.Test.YtbfilhaigbebpaaYH
set_option linter.unusedVariables false
set_option linter.unusedSimpArgs false
set_option maxRecDepth 100000
set_option maxHeartbeats 4000000
namespace Go.Tg
open Go Go.Proofs
theorem putF_lt {x : ItemT} : ∀ (l : List ItemT) (acc : List ItemT), (∀ y ∈ l, keyN y.key < keyN x.key) → l.foldl (putF x) (acc, false) = (acc ++ l, false)
  | [], acc, _ => by simp
  | y :: l, acc, h => by
    have hy := h y (by simp)
    have hn : lessK x.key y.key = false := by
      cases e : lessK x.key y.key with
      | false => rfl
      | true => have := lessK_iff.1 e; omega
    rw [List.foldl_cons]
    have e : putF x (acc, false) y = (acc ++ [y], false) := by unfold putF; simp [hn]
    rw [e, putF_lt l _ fun z hz => h z (by simp [hz])]
    simp
theorem putF_done {x : ItemT} : ∀ (l : List ItemT) (acc : List ItemT), l.foldl (putF x) (acc, true) = (acc ++ l, true)
  | [], acc => by simp
  | y :: l, acc => by
    rw [List.foldl_cons]
    have e : putF x (acc, true) y = (acc ++ [y], true) := by unfold putF; simp
    rw [e, putF_done l]
    simp
theorem insI_eq {x : ItemT} {l : List ItemT} (hs : Srt l) (hn : ∀ y ∈ l, y.key ≠ x.key) : insI x l = insF x l := by
  have hsp : l = l.filter (fun y => lessK y.key x.key) ++ l.filter (fun y => !lessK y.key x.key) := by
    rw [(filt_take hs).1, (filt_take hs).2, List.take_append_drop]
  have hlt : ∀ y ∈ l.filter (fun y => lessK y.key x.key), keyN y.key < keyN x.key := fun y hy => lessK_iff.1 (List.mem_filter.1 hy).2
  have hgt : ∀ y ∈ l.filter (fun y => !lessK y.key x.key), keyN x.key < keyN y.key := fun y hy => by
    obtain ⟨h1, h2⟩ := List.mem_filter.1 hy
    have h3 : ¬ keyN y.key < keyN x.key := fun h => by rw [lessK_iff.2 h] at h2; cases h2
    have h4 : keyN y.key ≠ keyN x.key := fun h => hn y h1 (keyN_inj h)
    omega
  unfold insI insF
  generalize l.filter (fun y => lessK y.key x.key) = a at *
  generalize l.filter (fun y => !lessK y.key x.key) = b at *
  rw [hsp, List.foldl_append, putF_lt a [] hlt, List.nil_append]
  cases b with
  | nil => simp
  | cons y b =>
    have hy : lessK x.key y.key = true := lessK_iff.2 (hgt y (by simp))
    rw [List.foldl_cons]
    have e : putF x (a, false) y = (a ++ [x] ++ [y], true) := by unfold putF; simp [hy]
    rw [e, putF_done, if_pos rfl]
    simp
theorem posI_of {l : List ItemT} {k : KeyT} (hs : Srt l) (hm : ∃ y ∈ l, y.key = k) : posI l k = some (cntK (l.map (·.key)) k) := by
  obtain ⟨y, hy, e⟩ := hm
  have hh : hasK (l.map (·.key)) k = true := by unfold hasK; rw [dcd_iff, ← e]; exact List.mem_map.2 ⟨y, hy, rfl⟩
  obtain ⟨hc, he⟩ := (hasK_cnt hs.sorted).1 hh
  rw [List.length_map] at hc
  rw [List.getElem_map] at he
  refine posI_some hc he fun j hj he2 => ?_
  have := List.pairwise_iff_getElem.1 hs j _ (by omega) hc hj
  rw [he, he2] at this; omega
theorem dropI_has {l : List ItemT} {k : KeyT} (hs : Srt l) (hm : ∃ y ∈ l, y.key = k) : dropI l k = (delF k l, 0) := by
  unfold dropI
  rw [posI_of hs hm, (delF_at hs hm).2]
theorem dropI_none {l : List ItemT} {k : KeyT} (hm : ∀ y ∈ l, y.key ≠ k) : dropI l k = (l, 7) := by
  unfold dropI
  rw [posI_none fun j hj => hm _ (List.getElem_mem hj)]
theorem putI_has {l : List ItemT} {x : ItemT} (hs : Srt l) (hm : ∃ y ∈ l, y.key = x.key) : putI l x = (l, 8) := by
  unfold putI
  rw [posI_of hs hm]
theorem putI_new {l : List ItemT} {x : ItemT} (hs : Srt l) (hm : ∀ y ∈ l, y.key ≠ x.key) (hl : l.length < 4096) : putI l x = (insF x l, 0) := by
  unfold putI
  rw [posI_none fun j hj => hm _ (List.getElem_mem hj)]
  dsimp only
  rw [if_neg (by omega), insI_eq hs hm]
structure TrB (h : FH) (T : TrM) (d : Nat) (s : Sh d) (k : Nat) : Prop where
  inv : TrI h T d s
  dp : d ≤ k
  nx : T.next.toNat ≤ 1 + 600 * k
  ln : (Sh.its d s).length ≤ k
theorem TrB.mono {h h' : FH} {T : TrM} {d : Nat} {s : Sh d} {k k' : Nat} (hle : FLe h h') (hk : k ≤ k') (H : TrB h T d s k) : TrB h' T d s k' := ⟨H.inv.mono hle, Nat.le_trans H.dp hk, by have := H.nx; omega, Nat.le_trans H.ln hk⟩
structure Kept (T T' : TrM) : Prop where
  le : ∀ n v, lookM T.pages n = some v → lookM T'.pages n = some v
  rt : ∀ n, (lookM T.roots n).isSome = true → (lookM T'.roots n).isSome = true
theorem Kept.refl (T : TrM) : Kept T T := ⟨fun _ _ h => h, fun _ h => h⟩
theorem Kept.trans {A B C : TrM} (h : Kept A B) (k : Kept B C) : Kept A C := ⟨fun n v e => k.le n v (h.le n v e), fun n e => k.rt n (h.rt n e)⟩
theorem Nxt.kept {h : FH} {T T' : TrM} {G : ((d : Nat) × Sh d) × UInt32} (H : Nxt h T T' G) : Kept T T' := ⟨H.le, fun n hn => by
  rw [H.roots]; split
  · rfl
  · exact hn⟩
theorem Rep.kept {h : FH} {T T' : TrM} {d : Nat} {s : Sh d} (hk : Kept T T') (H : Rep h T d s) : Rep h T' d s := fun x hx => by
  obtain ⟨A, h1, h2⟩ := H x hx; exact ⟨A, hk.le _ _ h1, h2⟩
theorem tr_PutA (tb mb rb : Nat) (T : TrM) (d : Nat) (s : Sh d) (k : Nat) (x : ItemT) (g : FH) (w : World) (hT : TrB g T d s k) (hk : k ≤ 200) (HO : St w (trO tb mb rb T).fp g g [trO tb mb rb T] w) :
    Spec Try.prog 15 #[pT tb, .agg (cItem x).toArray] w (trO tb mb rb T).fp g (fun v h' L' => ∃ (T' : TrM) (d' : Nat) (s' : Sh d'), v = .int .i64 (putI (Sh.its d s) x).2 ∧ L' = [trO tb mb rb T'] ∧ TrB h' T' d' s' (k + 1) ∧ Sh.its d' s' = (putI (Sh.its d s) x).1 ∧ Kept T T' ∧ ((putI (Sh.its d s) x).2 ≠ 0 → T'.root = T.root)) := by
  have hn := hT.nx
  have hd := hT.dp
  have hl := hT.ln
  by_cases hm : ∃ y ∈ Sh.its d s, y.key = x.key
  · rw [putI_has hT.inv.srt hm]
    refine (tr_Put_have tb mb rb T d s x g w hT.inv hm HO).mono ?_
    rintro v h' L' ⟨rfl, rfl, rfl⟩
    exact ⟨T, d, s, rfl, rfl, hT.mono (FLe.refl _) (Nat.le_succ k), rfl, Kept.refl T, fun _ => rfl⟩
  · have hm : ∀ y ∈ Sh.its d s, y.key ≠ x.key := fun y hy e => hm ⟨y, hy, e⟩
    rw [putI_new hT.inv.srt hm (by omega)]
    have hnw := newS_props (insF_ed x) (nx := T.next) hT.inv.ok hT.inv.srt (by omega)
    refine (tr_Put_new tb mb rb T d s x g w hT.inv hm (by omega) (by omega) HO).mono ?_
    rintro v h' L' ⟨T', rfl, rfl, hN⟩
    refine ⟨T', _, _, rfl, rfl, ⟨hN.inv, by have := hnw.2.2.1; omega, by have := hnw.2.2.2.2; rw [hN.nx]; omega, ?_⟩, hnw.2.1, hN.kept, fun h => absurd rfl h⟩
    rw [hnw.2.1]
    have := (insF_ed x).len _ hT.inv.srt
    omega
theorem tr_DropA (tb mb rb : Nat) (T : TrM) (d : Nat) (s : Sh d) (k : Nat) (x : KeyT) (g : FH) (w : World) (hT : TrB g T d s k) (hk : k ≤ 200) (HO : St w (trO tb mb rb T).fp g g [trO tb mb rb T] w) :
    Spec Try.prog 12 #[pT tb, .agg (cKey x).toArray] w (trO tb mb rb T).fp g (fun v h' L' => ∃ (T' : TrM) (d' : Nat) (s' : Sh d'), v = .int .i64 (dropI (Sh.its d s) x).2 ∧ L' = [trO tb mb rb T'] ∧ TrB h' T' d' s' (k + 1) ∧ Sh.its d' s' = (dropI (Sh.its d s) x).1 ∧ Kept T T' ∧ ((dropI (Sh.its d s) x).2 ≠ 0 → T'.root = T.root)) := by
  have hn := hT.nx
  have hd := hT.dp
  have hl := hT.ln
  by_cases hm : ∃ y ∈ Sh.its d s, y.key = x
  · rw [dropI_has hT.inv.srt hm]
    have hnw := newS_props (delF_ed x) (nx := T.next) hT.inv.ok hT.inv.srt (by omega)
    refine (tr_Drop_has tb mb rb T d s x g w hT.inv hm (by omega) (by omega) HO).mono ?_
    rintro v h' L' ⟨T', rfl, rfl, hN⟩
    refine ⟨T', _, _, rfl, rfl, ⟨hN.inv, by have := hnw.2.2.1; omega, by have := hnw.2.2.2.2; rw [hN.nx]; omega, ?_⟩, hnw.2.1, hN.kept, fun h => absurd rfl h⟩
    rw [hnw.2.1]
    have := (delF_ed x).len _ hT.inv.srt
    omega
  · have hm : ∀ y ∈ Sh.its d s, y.key ≠ x := fun y hy e => hm ⟨y, hy, e⟩
    rw [dropI_none hm]
    refine (tr_Drop_none tb mb rb T d s x g w hT.inv hm HO).mono ?_
    rintro v h' L' ⟨rfl, rfl, rfl⟩
    exact ⟨T, d, s, rfl, rfl, hT.mono (FLe.refl _) (Nat.le_succ k), rfl, Kept.refl T, fun _ => rfl⟩
theorem nodes_le : ∀ (d : Nat) (s : Sh d), Sh.Ok d s → Sh.its d s ≠ [] → (Sh.nodes d s).length ≤ (d + 1) * (Sh.its d s).length
  | 0, s, h, hne => by
    show 1 ≤ (0 + 1) * s.2.length
    have : 0 < s.2.length := List.length_pos_iff.2 hne
    omega
  | d + 1, s, h, hne => by
    have hk : ∀ l : List (Sh d), (∀ c ∈ l, Sh.Ok d c ∧ Sh.its d c ≠ []) → ((l.map (Sh.nodes d)).flatten).length ≤ (d + 1) * ((l.map (Sh.its d)).flatten).length := by
      intro l
      induction l with
      | nil => intro _; simp
      | cons c l ih =>
        intro hl
        have h1 := ih fun x hx => hl x (by simp [hx])
        have h2 := nodes_le d c (hl c (by simp)).1 (hl c (by simp)).2
        rw [List.map_cons, List.map_cons, List.flatten_cons, List.flatten_cons, List.length_append, List.length_append, Nat.mul_add]
        omega
    have := hk s.2 h.2.2
    have hp : 0 < (Sh.its (d + 1) s).length := List.length_pos_iff.2 hne
    show (s.2.map (Sh.nodes d)).flatten.length + 1 ≤ _
    have e : Sh.its (d + 1) s = (s.2.map (Sh.its d)).flatten := rfl
    rw [e] at hp ⊢
    rw [Nat.succ_mul]; omega
theorem TrB.nodes {h : FH} {T : TrM} {d : Nat} {s : Sh d} {k : Nat} (H : TrB h T d s k) (hk : k ≤ 200) : (Sh.nodes d s).length ≤ 1000000 := by
  by_cases hne : Sh.its d s = []
  · cases d with
    | zero => show 1 ≤ 1000000; decide
    | succ d => exact absurd hne (Sh.ok_ne d s H.inv.ok)
  · have h1 := nodes_le d s H.inv.ok hne
    have h2 : (d + 1) * (Sh.its d s).length ≤ 201 * 200 := Nat.mul_le_mul (by have := H.dp; omega) (by have := H.ln; omega)
    omega
end Go.Tg

set_option linter.unusedVariables false
set_option linter.unusedSimpArgs false
set_option maxRecDepth 100000
set_option maxHeartbeats 4000000
namespace Go.Tg
open Go Go.Proofs
def leastK : KeyT := ⟨0, ⟨0, 0⟩⟩
def greatK : KeyT := ⟨65535, ⟨255, 4294967295⟩⟩
theorem keyN_max (k : KeyT) : keyN k ≤ keyN greatK := by
  unfold keyN
  have h1 := k.cart.toNat_lt
  have h2 := k.dot.rep.toNat_lt
  have h3 := k.dot.seq.toNat_lt
  show _ ≤ 65535 * 1099511627776 + 255 * 4294967296 + 4294967295
  omega
theorem rangeI_all (l : List ItemT) : rangeI l leastK greatK = l := by
  refine List.filter_eq_self.2 fun x _ => ?_
  have h1 : lessK x.key leastK = false := by
    cases e : lessK x.key leastK with
    | false => rfl
    | true =>
      have := lessK_iff.1 e
      have e0 : keyN leastK = 0 := by kernel_rfl
      omega
  have h2 : lessK greatK x.key = false := by
    cases e : lessK greatK x.key with
    | false => rfl
    | true => have := lessK_iff.1 e; have := keyN_max x.key; omega
  rw [h1, h2]; rfl
theorem law14_least (w : World) : SpecV Try.prog 23 #[] w (.agg (cKey leastK).toArray) := by
  have H := St.start (sat_full w)
  unfold SpecV
  refine calls_of Try.func23 rfl Try.ntmps23 (by simp) ?_
  repeat' (first | ((first | refine WL.p rfl ?_ | refine WL.u ?_); first | (refine opk 9 rfl ?_; (refine ost_buildS (l := cKey leastK) rfl evP_nil (by rfl) (by rfl) ?_)) | refine pvQ ?_ | (refine opk 8 rfl ?_; (refine ost_storeW H rfl rfl rfl rfl lQ ixQ lQ okQ ?_; clear H; intro wk H; simp only [List.set_cons_zero, List.set_cons_succ, Nat.reduceAdd] at H)) | (refine opk 9 rfl ?_; (refine ost_allocA H rfl ?_; clear H; intro bk wk H))) | refine Wc.seq ?_ | refine then_n ?_ | refine WL.nil ?_ | refine Wc.region ?_ | refine Wc.block ?_ | refine then_r ?_ | refine then_e ?_ | refine inb_e rfl ?_ | refine inb_o rfl ?_ | refine inb_n ?_ | refine inb_r ?_ | refine Wc.skip ?_ | refine Wc.exit ?_ | refine Wc.ret ?_ | refine Wc.cond_true rfl ?_ | refine Wc.cond_false rfl ?_)
  exact fn_ret1 rfl (rv_cellA rfl rfl H.bI lQ) ⟨rfl, H.fr⟩
theorem law14_greatest (w : World) : SpecV Try.prog 24 #[] w (.agg (cKey greatK).toArray) := by
  have H := St.start (sat_full w)
  unfold SpecV
  refine calls_of Try.func24 rfl Try.ntmps24 (by simp) ?_
  repeat' (first | ((first | refine WL.p rfl ?_ | refine WL.u ?_); first | refine pvQ ?_ | (refine opk 8 rfl ?_; (refine ost_storeW H rfl rfl rfl rfl lQ ixQ lQ okQ ?_; clear H; intro wk H; simp only [List.set_cons_zero, List.set_cons_succ, Nat.reduceAdd] at H)) | (refine opk 9 rfl ?_; (refine ost_allocA H rfl ?_; clear H; intro bk wk H))) | refine Wc.seq ?_ | refine then_n ?_ | refine WL.nil ?_ | refine Wc.region ?_ | refine Wc.block ?_ | refine then_r ?_ | refine then_e ?_ | refine inb_e rfl ?_ | refine inb_o rfl ?_ | refine inb_n ?_ | refine inb_r ?_ | refine Wc.skip ?_ | refine Wc.exit ?_ | refine Wc.ret ?_ | refine Wc.cond_true rfl ?_ | refine Wc.cond_false rfl ?_)
  exact fn_ret1 rfl (rv_cellA rfl rfl H.bI lQ) ⟨by rfl, H.fr⟩
structure Ac14 where
  kd : UInt8
  it : ItemT
def ac14L (x : Ac14) : List Value := .int .u8 x.kd.toNat :: cItem x.it
theorem ac14L_len (x : Ac14) : (ac14L x).length = 6 := rfl
theorem ac14_key (x : Ac14) : ((ac14L x).drop (0 + 1)).take 3 = cKey x.it.key := rfl
theorem ac14_loc (x : Ac14) : ((ac14L x).drop (0 + 4)).take 2 = cLoc x.it.loc := rfl
theorem ac14_kd (x : Ac14) : (ac14L x)[0]? = some (.int .u8 x.kd.toNat) := rfl
theorem law14_item (x : Ac14) (w : World) : SpecV Try.prog 16 #[.agg (ac14L x).toArray] w (.agg (cItem x.it).toArray) := by
  have H := St.start (sat_full w)
  have l6 := ac14L_len x
  have gk := ac14_key x
  have gl := ac14_loc x
  have lk := cKey_len x.it.key
  have ll := cLoc_len x.it.loc
  unfold SpecV
  refine calls_of Try.func16 rfl Try.ntmps16 (by simp) ?_
  repeat' (first | ((first | refine WL.p rfl ?_ | refine WL.u ?_); first | (refine opk 9 rfl ?_; (refine ost_buildS (l := cItem x.it) rfl (evP_cons (rfl : _ = Value.agg _) (evP_cons (rfl : _ = Value.agg _) evP_nil)) (by rfl) (by rfl) ?_)) | refine pvQ ?_ | (refine opk 8 rfl ?_; (refine ost_storeW H rfl rfl rfl rfl lQ ixQ lQ okQ ?_; clear H; intro wk H; simp only [List.set_cons_zero, List.set_cons_succ, Nat.reduceAdd] at H)) | (refine opk 9 rfl ?_; first | (refine ost_boxq H rfl ?_; clear H; intro bk wk H) | (refine ost_allocA H rfl ?_; clear H; intro bk wk H))) | refine Wc.seq ?_ | refine then_n ?_ | refine WL.nil ?_ | refine Wc.region ?_ | refine Wc.block ?_ | refine then_r ?_ | refine then_e ?_ | refine inb_e rfl ?_ | refine inb_o rfl ?_ | refine inb_n ?_ | refine inb_r ?_ | refine Wc.skip ?_ | refine Wc.exit ?_ | refine Wc.ret ?_ | refine Wc.cond_true rfl ?_ | refine Wc.cond_false rfl ?_)
  exact fn_ret1 rfl (rv_cellA rfl rfl H.bI lQ) ⟨rfl, H.fr⟩
end Go.Tg

set_option linter.unusedVariables false
set_option linter.unusedSimpArgs false
set_option maxRecDepth 100000
set_option maxHeartbeats 4000000
namespace Go.Tg
open Go Go.Proofs
theorem newT_look (n : UInt32) : lookM newT.pages n = if n = 1 then some (.agg (pgV ⟨true, [], [], []⟩ ⟨none, 0, none, 0, none, 0⟩).toArray) else none := by
  have h : newT.pages = (setM [] 0 (0 + 1) (.agg [Value.bool true, .slice none 0 0, .slice none 0 0, .slice none 0 0].toArray)).1 := rfl
  rw [h, lookM_set]; rfl
theorem newT_roots (n : UInt32) : lookM newT.roots n = if n = 1 then some (.int .i64 0) else none := by
  have h : newT.roots = (setM [] 0 (0 + 1) (.int .i64 0)).1 := rfl
  rw [h, lookM_set]; rfl
def leafS (n : UInt32) (l : List ItemT) : Sh 0 := (n, l)
theorem newT_inv (h : FH) : TrB h newT 0 (leafS 1 []) 0 where
  inv := {
    ok := Nat.zero_le _
    rt := trivial
    srt := List.Pairwise.nil
    rep := fun x hx => by
      obtain rfl : x = (1, Sh.page 0 (leafS 1 [])) := List.mem_singleton.1 hx
      exact ⟨⟨none, 0, none, 0, none, 0⟩, by rw [newT_look]; rfl, ⟨Sl.nil _ _, Sl.nil _ _, Sl.nil _ _⟩⟩
    fresh := fun n v hv => by
      rw [newT_look] at hv
      by_cases e : n = 1
      · subst e; exact Nat.le_refl _
      · rw [if_neg e] at hv; cases hv
    root := rfl
    cnt := by show lookM newT.roots newT.root = _; rw [newT_roots]; rfl }
  dp := Nat.le_refl _
  nx := by show (1 : UInt32).toNat ≤ 1 + 600 * 0; decide
  ln := Nat.le_refl _
theorem newS_leaf {f : List ItemT → List ItemT} {k : KeyT} {n nx : UInt32} {l : List ItemT} (h0 : (f l).length ≠ 0) (h8 : (f l).length ≤ 8) : newS f k 0 (leafS n l) nx = (⟨0, leafS (nx + 1) (f l)⟩, nx + 1) := by
  have hs : sprd nx (f l) = [(nx + 1, f l)] := by unfold sprd; rw [if_neg h0, if_pos h8]
  show grw 0 (sprd nx (f l)) (nx + UInt32.ofNat (sprd nx (f l)).length) = _
  rw [hs]; rfl
theorem newS_split {f : List ItemT → List ItemT} {k : KeyT} {n nx : UInt32} {l : List ItemT} (h8 : 8 < (f l).length) : (Sh.nodes (newS f k 0 (leafS n l) nx).1.1 (newS f k 0 (leafS n l) nx).1.2).length = 3 := by
  have hs : sprd nx (f l) = [(nx + 1, (f l).take ((f l).length / 2)), (nx + 1 + 1, (f l).drop ((f l).length / 2))] := by unfold sprd; rw [if_neg (by omega), if_neg (by omega)]
  show (Sh.nodes (grw 0 (sprd nx (f l)) (nx + UInt32.ofNat (sprd nx (f l)).length)).1.1 (grw 0 (sprd nx (f l)) (nx + UInt32.ofNat (sprd nx (f l)).length)).1.2).length = 3
  rw [hs]; rfl
def xj (j : Nat) : ItemT := ⟨⟨UInt16.ofNat (j * 5 % 9), ⟨0, 0⟩⟩, ⟨0, UInt32.ofNat j⟩⟩
def lj : Nat → List ItemT
  | 0 => []
  | j + 1 => insF (xj j) (lj j)
theorem lj_new : ∀ j, j < 9 → ∀ y ∈ lj j, keyN y.key ≠ keyN (xj j).key := by decide +kernel
theorem lj_len : ∀ j, j < 10 → (lj j).length = j := by decide +kernel
theorem insF_mem {x y : ItemT} {l : List ItemT} (h : y = x ∨ y ∈ l) : y ∈ insF x l := by
  unfold insF
  rcases h with rfl | h
  · simp
  · cases e : lessK y.key x.key <;> simp [h, e]
theorem lj_mem {i : Nat} : ∀ {j : Nat}, i < j → xj i ∈ lj j
  | j + 1, h => insF_mem (by
    rcases Nat.lt_or_ge i j with h1 | h1
    · exact .inr (lj_mem h1)
    · have : i = j := by omega
      subst this; exact .inl rfl)
theorem lj_del : (delF (xj 1).key (lj 9)).length = 8 := by decide +kernel
theorem lj_mem0 : xj 0 ∈ delF (xj 1).key (lj 9) := List.mem_filter.2 ⟨lj_mem (by decide), by decide +kernel⟩
theorem pls_len {pls : List PgA} {d : Nat} {s : Sh d} (h : pls.map (·.1) = (Sh.nodes d s).map (·.2)) : pls.length = (Sh.nodes d s).length := by
  have := congrArg List.length h
  rw [List.length_map, List.length_map] at this; exact this
theorem law14_alive (w : World) : SpecV Try.prog 8 #[] w (.bool true) := by
  have H := St.start (sat_full w)
  unfold SpecV
  refine calls_of Try.func8 rfl Try.ntmps8 (by simp) ?_
  repeat' (first | ((first | refine WL.p rfl ?_ | refine WL.u ?_ | refine WL.g rfl rfl ?_ | refine WL.gu rfl ?_); first | (refine opk 1 rfl ?_; (refine ost_C H rfl (tr_New _ _ (sat_full _)) rfl ?_; clear H; rintro vk wk hfk Lk ⟨rfl, tb, mb, rb, rfl, rfl⟩ H; simp only [List.cons_append, List.nil_append] at H)) | refine pvQ ?_ | (refine opk 3 rfl ?_; first | (refine ost_cmp rfl rfl rfl rfl (fun hc => ?_) (fun hc => ?_) <;> (simp only [cmpP] at hc; try exact prIQ)) | (refine ost_ptEq rfl rfl rfl (fun hc => ?_) (fun hc => ?_) <;> try (simp at hc; done)) | (refine ost_ptNe rfl rfl rfl (fun hc => ?_) (fun hc => ?_) <;> try (simp at hc; done))) | (refine opk 4 rfl ?_; (refine ost_cmp rfl rfl rfl rfl (fun hc => ?_) (fun hc => ?_) <;> (simp only [cmpP] at hc; try exact prIQ))) | (refine opk 8 rfl ?_; (refine ost_storeW H rfl rfl rfl rfl lQ ixQ lQ okQ ?_; clear H; intro wk H; simp only [List.set_cons_zero, List.set_cons_succ, Nat.reduceAdd] at H)) | (refine opk 9 rfl ?_; (refine ost_allocA H rfl ?_; clear H; intro bk wk H))) | refine Wc.seq ?_ | refine then_n ?_ | refine WL.nil ?_ | refine Wc.region ?_ | refine Wc.block ?_ | refine then_r ?_ | refine then_e ?_ | refine inb_e rfl ?_ | refine inb_o rfl ?_ | refine inb_n ?_ | refine inb_r ?_ | refine Wc.skip ?_ | refine Wc.exit ?_ | refine Wc.ret ?_ | refine Wc.cond_true rfl ?_ | refine Wc.cond_false rfl ?_ | refine WL.skp rfl rfl ?_ | refine WL.sku rfl ?_)
  have hroot := fun g w HO => tr_Root tb mb rb newT g w HO
  repeat' (first | ((first | refine WL.p rfl ?_ | refine WL.u ?_ | refine WL.g rfl rfl ?_ | refine WL.gu rfl ?_); first | (refine opk 1 rfl ?_; (refine ost_O (A := trO tb mb rb newT) H rfl (by (exact ixQ)) (fun HO => hroot _ _ HO) rfl ?_; clear H; rintro vk wk hfk Lk ⟨rfl, rfl, rfl⟩ H; simp only [List.cons_append, List.nil_append, List.eraseIdx_cons_zero, List.eraseIdx_cons_succ] at H)) | refine pvQ ?_ | (refine opk 3 rfl ?_; first | (refine ost_cmp rfl rfl rfl rfl (fun hc => ?_) (fun hc => ?_) <;> (simp only [cmpP] at hc; try exact prIQ)) | (refine ost_ptEq rfl rfl rfl (fun hc => ?_) (fun hc => ?_) <;> try (simp at hc; done)) | (refine ost_ptNe rfl rfl rfl (fun hc => ?_) (fun hc => ?_) <;> try (simp at hc; done))) | (refine opk 4 rfl ?_; (refine ost_cmp rfl rfl rfl rfl (fun hc => ?_) (fun hc => ?_) <;> (simp only [cmpP] at hc; try exact prIQ))) | (refine opk 8 rfl ?_; (refine ost_storeW H rfl rfl rfl rfl lQ ixQ lQ okQ ?_; clear H; intro wk H; simp only [List.set_cons_zero, List.set_cons_succ, Nat.reduceAdd] at H)) | (refine opk 9 rfl ?_; (refine ost_allocA H rfl ?_; clear H; intro bk wk H))) | refine Wc.seq ?_ | refine then_n ?_ | refine WL.nil ?_ | refine Wc.region ?_ | refine Wc.block ?_ | refine then_r ?_ | refine then_e ?_ | refine inb_e rfl ?_ | refine inb_o rfl ?_ | refine inb_n ?_ | refine inb_r ?_ | refine Wc.skip ?_ | refine Wc.exit ?_ | refine Wc.ret ?_ | refine Wc.cond_true rfl ?_ | refine Wc.cond_false rfl ?_ | refine WL.skp rfl rfl ?_ | refine WL.sku rfl ?_)
  refine Wc.loopE (fun s0 m st w' => ∃ (j d : Nat) (s : Sh d) (T : TrM) (g' : FH), m = 9 - j ∧ j ≤ 9 ∧ Agree [0, 3, 15, 16, 17, 18, 19, 20, 21, 22, 23, 24, 25, 26, 27, 28, 29, 30] st s0 ∧ st 15 = .int .i64 j ∧ FLe (full w) g' ∧ TrB g' T d s j ∧ Sh.its d s = lj j ∧ Kept newT T ∧ (j ≤ 8 → d = 0) ∧ (j = 9 → (Sh.nodes d s).length = 3) ∧ St w [] (full w) g' [trO tb mb rb T] w') 9 ⟨0, 0, leafS 1 [], newT, full w, rfl, by omega, Agree.refl _ _, rfl, FLe.refl _, newT_inv _, rfl, Kept.refl _, fun _ => rfl, fun h => absurd h (by decide), H⟩ ?_
  clear H
  rintro m st w' ⟨j, d, s, T, g', rfl, hj, hA, e1, hle, hT, hits, hkp, hd0, hd9, H⟩
  obtain ⟨j9, rfl⟩ := hA.env1 e1
  clear hA e1
  by_cases hlt : j < 9
  · obtain rfl : d = 0 := hd0 (by omega)
    have hnew : ∀ y ∈ Sh.its 0 s, y.key ≠ (xj j).key := fun y hy e => by
      rw [hits] at hy
      exact lj_new j hlt y hy (by rw [e])
    have hln := lj_len (j + 1) (by omega)
    have hln0 := lj_len j (by omega)
    have hfi : insF (xj j) (Sh.its 0 s) = lj (j + 1) := by rw [hits]; rfl
    have hnx := hT.nx
    have hpr := newS_props (insF_ed (xj j)) (nx := T.next) hT.inv.ok hT.inv.srt (by omega)
    rw [hfi] at hpr
    have hput := fun w HO => tr_Put_new tb mb rb T 0 s (xj j) g' w hT.inv hnew (by rw [hits]; omega) (by omega) HO
    have hcart : (Value.int .u16 (((j : Int) * 5) % 9)) = .int .u16 ((xj j).key.cart.toNat : Nat) := by
      congr 1
      show ((j : Int) * 5) % 9 = ((UInt16.ofNat (j * 5 % 9)).toNat : Nat)
      rw [UInt16.toNat_ofNat', Nat.mod_eq_of_lt (show j * 5 % 9 < 2 ^ 16 by omega)]
      rfl
    have hat : (Value.int .u32 (j : Int)) = .int .u32 ((xj j).loc.at_.toNat : Nat) := by
      congr 1
      show (j : Int) = ((UInt32.ofNat j).toNat : Nat)
      rw [UInt32.toNat_ofNat']
      omega
    have hdd : (j + 1 ≤ 8 → (newS (insF (xj j)) (xj j).key 0 s T.next).1.1 = 0) ∧ (j + 1 = 9 → (Sh.nodes (newS (insF (xj j)) (xj j).key 0 s T.next).1.1 (newS (insF (xj j)) (xj j).key 0 s T.next).1.2).length = 3) := by
      obtain ⟨n, l⟩ := s
      have hfl : insF (xj j) l = lj (j + 1) := hfi
      refine ⟨fun h => ?_, fun h => ?_⟩
      · have := newS_leaf (f := insF (xj j)) (k := (xj j).key) (n := n) (nx := T.next) (l := l) (by rw [hfl]; omega) (by rw [hfl]; omega)
        exact congrArg (fun x => x.1.1) this
      · exact newS_split (f := insF (xj j)) (k := (xj j).key) (n := n) (nx := T.next) (l := l) (by rw [hfl]; omega)
    generalize newS (insF (xj j)) (xj j).key 0 s T.next = G at *
    repeat' (first | ((first | refine WL.p rfl ?_ | refine WL.u ?_ | refine WL.g rfl rfl ?_ | refine WL.gu rfl ?_); first | (refine opk 1 rfl ?_; (refine ost_H (A := trO tb mb rb T) H rfl (by (exact ixQ)) (fun HO => hput _ HO) rfl ?_; clear H; rintro vk wk hfk Lk ⟨T', rfl, rfl, hN⟩ hle H; simp only [List.cons_append, List.nil_append, List.eraseIdx_cons_zero, List.eraseIdx_cons_succ] at H)) | (refine opk 5 rfl ?_; first | (refine ost_mul_in rfl rfl rfl (by simp only [inK]; omega) ?_) | (refine ost_remN rfl rfl rfl (by omega) (by omega) ?_)) | (refine opk 9 rfl ?_; first | (refine ost_buildS (l := cKey (xj j).key) rfl (evP_cons (hcart : _ = Value.int _ _) evP_nil) (by rfl) (by rfl) ?_) | (refine ost_buildS (l := cLoc (xj j).loc) rfl (evP_cons (hat : _ = Value.int _ _) evP_nil) (by rfl) (by rfl) ?_) | (refine ost_buildS (l := cItem (xj j)) rfl (evP_cons (rfl : _ = Value.agg _) (evP_cons (rfl : _ = Value.agg _) evP_nil)) (by rfl) (by rfl) ?_)) | refine pvQ ?_ | (refine opk 3 rfl ?_; first | (refine ost_cmp rfl rfl rfl rfl (fun hc => ?_) (fun hc => ?_) <;> (simp only [cmpP] at hc; try exact prIQ)) | (refine ost_ptEq rfl rfl rfl (fun hc => ?_) (fun hc => ?_) <;> try (simp at hc; done)) | (refine ost_ptNe rfl rfl rfl (fun hc => ?_) (fun hc => ?_) <;> try (simp at hc; done))) | (refine opk 4 rfl ?_; (refine ost_cmp rfl rfl rfl rfl (fun hc => ?_) (fun hc => ?_) <;> (simp only [cmpP] at hc; try exact prIQ))) | (refine opk 8 rfl ?_; (refine ost_storeW H rfl rfl rfl rfl lQ ixQ lQ okQ ?_; clear H; intro wk H; simp only [List.set_cons_zero, List.set_cons_succ, Nat.reduceAdd] at H)) | (refine opk 9 rfl ?_; (refine ost_allocA H rfl ?_; clear H; intro bk wk H))) | refine Wc.seq ?_ | refine then_n ?_ | refine WL.nil ?_ | refine Wc.region ?_ | refine Wc.block ?_ | refine then_r ?_ | refine then_e ?_ | refine inb_e rfl ?_ | refine inb_o rfl ?_ | refine inb_n ?_ | refine inb_r ?_ | refine Wc.skip ?_ | refine Wc.exit ?_ | refine Wc.ret ?_ | refine Wc.cond_true rfl ?_ | refine Wc.cond_false rfl ?_ | refine WL.skp rfl rfl ?_ | refine WL.sku rfl ?_)
    exact ⟨9 - (j + 1), by omega, j + 1, _, _, T', hfk, rfl, by omega, by (repeat' (first | exact Agree.refl _ _ | exact Agree.havoc | refine Agree.upd rfl ?_ | refine Agree.hav2 rfl ?_)), rfl, FLe.trans ‹FLe (full w) g'› hle, ⟨hN.inv, by have := hpr.2.2.1; omega, by have := hpr.2.2.2.2; rw [hN.nx]; omega, by rw [hpr.2.1]; omega⟩, hpr.2.1, hkp.trans hN.kept, hdd.1, hdd.2, H⟩
  · obtain rfl : j = 9 := by omega
    have hr2 := fun g w HO => tr_Root tb mb rb T g w HO
    have hnl := hT.nodes (by decide)
    have hcnt : (lookM T.roots (Sh.num d s)).isSome = true := by rw [← hT.inv.root, hT.inv.cnt]; rfl
    have hln := lj_len 9 (by decide)
    have hpg := fun w hs hF hR => tr_Pages tb mb rb T d s (full w) w hs hF hT.inv.ok hR hnl hcnt
    have hold : Rep g' T 0 (leafS 1 []) := Rep.kept hkp (newT_inv g').inv.rep
    have hat := fun w hs hF hR => tr_At tb mb rb T 0 (leafS 1 []) (full w) w hs hF (Nat.zero_le _) hR (by decide) (hkp.rt _ (by rw [newT_roots]; rfl))
    have hget := fun w hs hF hR => tr_Get tb mb rb T d s (xj 1).key (full w) w hs hF hT.inv.ok hT.inv.srt hR hT.inv.root
    have hm1 : xj 1 ∈ Sh.its d s := by rw [hits]; exact lj_mem (by decide)
    rw [getI_mem hT.inv.srt hm1 rfl] at hget
    have ll := cLoc_len (xj 1).loc
    have hdr := fun w HO => tr_DropA tb mb rb T d s 9 (xj 1).key g' w hT (by decide) HO
    rw [dropI_has hT.inv.srt ⟨_, hm1, rfl⟩] at hdr
    simp only [← hT.inv.root] at hpg
    repeat' (first | ((first | refine WL.p rfl ?_ | refine WL.u ?_ | refine WL.g rfl rfl ?_ | refine WL.gu rfl ?_); first | (refine opk 1 rfl ?_; first | (refine ost_O (A := trO tb mb rb T) H rfl (by (exact ixQ)) (fun HO => hr2 _ _ HO) rfl ?_; clear H; rintro vk wk hfk Lk ⟨rfl, rfl, rfl⟩ H; simp only [List.cons_append, List.nil_append, List.eraseIdx_cons_zero, List.eraseIdx_cons_succ] at H) | (refine ost_C H rfl (hpg _ (sat_full _) (H.trF (i := 0) rfl) (hT.inv.rep.mono H.sat.le)) rfl ?_; clear H; rintro vk wk hfk Lk ⟨a5, c5, pls, rfl, rfl, hpls⟩ H; simp only [List.cons_append, List.nil_append] at H) | (refine ost_C H rfl (hat _ (sat_full _) (H.trF (i := 2) rfl) (hold.mono H.sat.le)) rfl ?_; clear H; rintro vk wk hfk Lk ⟨a6, c6, rfl, rfl⟩ H; simp only [List.cons_append, List.nil_append] at H) | (refine ost_V H rfl (hget _ (sat_full _) (H.trF (i := 3) rfl) (hT.inv.rep.mono H.sat.le)) rfl ?_; clear H; intro wk H)) | (refine opk 9 rfl ?_; (refine ost_buildS (l := cKey (xj 1).key) rfl (evP_cons (rfl : _ = Value.int _ _) evP_nil) (by rfl) (by rfl) ?_)) | refine pvQ ?_ | (refine opk 3 rfl ?_; first | (refine ost_cmp rfl rfl rfl rfl (fun hc => ?_) (fun hc => ?_) <;> (simp only [cmpP] at hc; try exact prIQ)) | (refine ost_ptEq rfl rfl rfl (fun hc => ?_) (fun hc => ?_) <;> try (simp at hc; done)) | (refine ost_ptNe rfl rfl rfl (fun hc => ?_) (fun hc => ?_) <;> try (simp at hc; done))) | (refine opk 4 rfl ?_; (refine ost_cmp rfl rfl rfl rfl (fun hc => ?_) (fun hc => ?_) <;> (simp only [cmpP] at hc; try exact prIQ))) | (refine opk 8 rfl ?_; (refine ost_storeW H rfl rfl rfl rfl lQ ixQ lQ okQ ?_; clear H; intro wk H; simp only [List.set_cons_zero, List.set_cons_succ, Nat.reduceAdd] at H)) | (refine opk 9 rfl ?_; (refine ost_allocA H rfl ?_; clear H; intro bk wk H))) | refine Wc.seq ?_ | refine then_n ?_ | refine WL.nil ?_ | refine Wc.region ?_ | refine Wc.block ?_ | refine then_r ?_ | refine then_e ?_ | refine inb_e rfl ?_ | refine inb_o rfl ?_ | refine inb_n ?_ | refine inb_r ?_ | refine Wc.skip ?_ | refine Wc.exit ?_ | refine Wc.ret ?_ | refine Wc.cond_true rfl ?_ | refine Wc.cond_false rfl ?_ | refine WL.skp rfl rfl ?_ | refine WL.sku rfl ?_)
    all_goals try (have hp3 := (pls_len hpls).trans (hd9 rfl))
    all_goals first | (exfalso; omega) | exact absurd (by rfl) hc | skip
    repeat' (first | ((first | refine WL.p rfl ?_ | refine WL.u ?_ | refine WL.g rfl rfl ?_ | refine WL.gu rfl ?_); first | (refine opk 1 rfl ?_; (refine ost_H (A := trO tb mb rb T) H rfl (by (exact ixQ)) (fun HO => hdr _ HO) rfl ?_; clear H; rintro vk wk hfk Lk ⟨T1, d1, s1, rfl, rfl, hT1, hi1, hk1, -⟩ hle H; simp only [List.cons_append, List.nil_append, List.eraseIdx_cons_zero, List.eraseIdx_cons_succ] at H)) | refine pvQ ?_ | (refine opk 3 rfl ?_; first | (refine ost_cmp rfl rfl rfl rfl (fun hc => ?_) (fun hc => ?_) <;> (simp only [cmpP] at hc; try exact prIQ)) | (refine ost_ptEq rfl rfl rfl (fun hc => ?_) (fun hc => ?_) <;> try (simp at hc; done)) | (refine ost_ptNe rfl rfl rfl (fun hc => ?_) (fun hc => ?_) <;> try (simp at hc; done))) | (refine opk 4 rfl ?_; (refine ost_cmp rfl rfl rfl rfl (fun hc => ?_) (fun hc => ?_) <;> (simp only [cmpP] at hc; try exact prIQ))) | (refine opk 8 rfl ?_; (refine ost_storeW H rfl rfl rfl rfl lQ ixQ lQ okQ ?_; clear H; intro wk H; simp only [List.set_cons_zero, List.set_cons_succ, Nat.reduceAdd] at H)) | (refine opk 9 rfl ?_; (refine ost_allocA H rfl ?_; clear H; intro bk wk H))) | refine Wc.seq ?_ | refine then_n ?_ | refine WL.nil ?_ | refine Wc.region ?_ | refine Wc.block ?_ | refine then_r ?_ | refine then_e ?_ | refine inb_e rfl ?_ | refine inb_o rfl ?_ | refine inb_n ?_ | refine inb_r ?_ | refine Wc.skip ?_ | refine Wc.exit ?_ | refine Wc.ret ?_ | refine Wc.cond_true rfl ?_ | refine Wc.cond_false rfl ?_ | refine WL.skp rfl rfl ?_ | refine WL.sku rfl ?_)
    have hi1 : Sh.its d1 s1 = delF (xj 1).key (Sh.its d s) := hi1
    have hno : ∀ y ∈ Sh.its d1 s1, y.key ≠ (xj 1).key := fun y hy e => by
      rw [hi1] at hy
      have := (List.mem_filter.1 hy).2
      rw [e] at this
      simp at this
    have hdr2 := fun g w hT HO => tr_DropA tb mb rb T1 d1 s1 10 (xj 1).key g w hT (by decide) HO
    rw [dropI_none hno] at hdr2
    repeat' (first | ((first | refine WL.p rfl ?_ | refine WL.u ?_ | refine WL.g rfl rfl ?_ | refine WL.gu rfl ?_); first | (refine opk 1 rfl ?_; (refine ost_H (A := trO tb mb rb T1) H rfl (by (exact ixQ)) (fun HO => hdr2 _ _ hT1 HO) rfl ?_; clear H; rintro vk wk hfk Lk ⟨T2, d2, s2, rfl, rfl, hT2, hi2, hk2, -⟩ hle H; simp only [List.cons_append, List.nil_append, List.eraseIdx_cons_zero, List.eraseIdx_cons_succ] at H)) | (refine opk 9 rfl ?_; (refine ost_buildS (l := cKey (xj 1).key) rfl (evP_cons (rfl : _ = Value.int _ _) evP_nil) (by rfl) (by rfl) ?_)) | refine pvQ ?_ | (refine opk 3 rfl ?_; first | (refine ost_cmp rfl rfl rfl rfl (fun hc => ?_) (fun hc => ?_) <;> (simp only [cmpP] at hc; try exact prIQ)) | (refine ost_ptEq rfl rfl rfl (fun hc => ?_) (fun hc => ?_) <;> try (simp at hc; done)) | (refine ost_ptNe rfl rfl rfl (fun hc => ?_) (fun hc => ?_) <;> try (simp at hc; done))) | (refine opk 4 rfl ?_; (refine ost_cmp rfl rfl rfl rfl (fun hc => ?_) (fun hc => ?_) <;> (simp only [cmpP] at hc; try exact prIQ))) | (refine opk 8 rfl ?_; (refine ost_storeW H rfl rfl rfl rfl lQ ixQ lQ okQ ?_; clear H; intro wk H; simp only [List.set_cons_zero, List.set_cons_succ, Nat.reduceAdd] at H)) | (refine opk 9 rfl ?_; (refine ost_allocA H rfl ?_; clear H; intro bk wk H))) | refine Wc.seq ?_ | refine then_n ?_ | refine WL.nil ?_ | refine Wc.region ?_ | refine Wc.block ?_ | refine then_r ?_ | refine then_e ?_ | refine inb_e rfl ?_ | refine inb_o rfl ?_ | refine inb_n ?_ | refine inb_r ?_ | refine Wc.skip ?_ | refine Wc.exit ?_ | refine Wc.ret ?_ | refine Wc.cond_true rfl ?_ | refine Wc.cond_false rfl ?_ | refine WL.skp rfl rfl ?_ | refine WL.sku rfl ?_)
    have hi2 : Sh.its d2 s2 = Sh.its d1 s1 := hi2
    have e8 : Sh.its d2 s2 = delF (xj 1).key (lj 9) := by rw [hi2, hi1, hits]
    have hl8 : (Sh.its d2 s2).length = 8 := by rw [e8]; exact lj_del
    have hm0 : ∃ y ∈ Sh.its d2 s2, y.key = (xj 0).key := ⟨xj 0, by rw [e8]; exact lj_mem0, rfl⟩
    have hrg := fun w hs hF hR => tr_Range tb mb rb T2 d2 s2 leastK greatK (full w) w hs hF hT2.inv.ok hT2.inv.srt hR hT2.inv.root (by omega)
    rw [rangeI_all, hl8] at hrg
    have hpt := fun g w hT HO => tr_PutA tb mb rb T2 d2 s2 11 (xj 0) g w hT (by decide) HO
    rw [putI_has hT2.inv.srt hm0] at hpt
    repeat' (first | ((first | refine WL.p rfl ?_ | refine WL.u ?_ | refine WL.g rfl rfl ?_ | refine WL.gu rfl ?_); first | (refine opk 1 rfl ?_; first | (refine ost_V H rfl (law14_least _) rfl ?_; clear H; intro wk H) | (refine ost_V H rfl (law14_greatest _) rfl ?_; clear H; intro wk H) | (refine ost_C H rfl (hrg _ (sat_full _) (H.trF (i := 0) rfl) (hT2.inv.rep.mono H.sat.le)) rfl ?_; clear H; rintro vk wk hfk Lk ⟨a9, c9, rfl, rfl⟩ H; simp only [List.cons_append, List.nil_append] at H)) | (refine opk 9 rfl ?_; (refine ost_buildS (l := cItem (xj 0)) rfl evP_nil (by rfl) (by rfl) ?_)) | refine pvQ ?_ | (refine opk 3 rfl ?_; first | (refine ost_cmp rfl rfl rfl rfl (fun hc => ?_) (fun hc => ?_) <;> (simp only [cmpP] at hc; try exact prIQ)) | (refine ost_ptEq rfl rfl rfl (fun hc => ?_) (fun hc => ?_) <;> try (simp at hc; done)) | (refine ost_ptNe rfl rfl rfl (fun hc => ?_) (fun hc => ?_) <;> try (simp at hc; done))) | (refine opk 4 rfl ?_; (refine ost_cmp rfl rfl rfl rfl (fun hc => ?_) (fun hc => ?_) <;> (simp only [cmpP] at hc; try exact prIQ))) | (refine opk 8 rfl ?_; (refine ost_storeW H rfl rfl rfl rfl lQ ixQ lQ okQ ?_; clear H; intro wk H; simp only [List.set_cons_zero, List.set_cons_succ, Nat.reduceAdd] at H)) | (refine opk 9 rfl ?_; (refine ost_allocA H rfl ?_; clear H; intro bk wk H))) | refine Wc.seq ?_ | refine then_n ?_ | refine WL.nil ?_ | refine Wc.region ?_ | refine Wc.block ?_ | refine then_r ?_ | refine then_e ?_ | refine inb_e rfl ?_ | refine inb_o rfl ?_ | refine inb_n ?_ | refine inb_r ?_ | refine Wc.skip ?_ | refine Wc.exit ?_ | refine Wc.ret ?_ | refine Wc.cond_true rfl ?_ | refine Wc.cond_false rfl ?_ | refine WL.skp rfl rfl ?_ | refine WL.sku rfl ?_)
    all_goals first | (exfalso; omega) | exact absurd (by rfl) hc | skip
    repeat' (first | ((first | refine WL.p rfl ?_ | refine WL.u ?_ | refine WL.g rfl rfl ?_ | refine WL.gu rfl ?_); first | (refine opk 1 rfl ?_; (refine ost_H (A := trO tb mb rb T2) H rfl (by (exact ixQ)) (fun HO => hpt _ _ hT2 HO) rfl ?_; clear H; rintro vk wk hfk Lk ⟨T3, d3, s3, rfl, rfl, hT3, hi3, hk3, -⟩ hle H; simp only [List.cons_append, List.nil_append, List.eraseIdx_cons_zero, List.eraseIdx_cons_succ] at H)) | refine pvQ ?_ | (refine opk 3 rfl ?_; first | (refine ost_cmp rfl rfl rfl rfl (fun hc => ?_) (fun hc => ?_) <;> (simp only [cmpP] at hc; try exact prIQ)) | (refine ost_ptEq rfl rfl rfl (fun hc => ?_) (fun hc => ?_) <;> try (simp at hc; done)) | (refine ost_ptNe rfl rfl rfl (fun hc => ?_) (fun hc => ?_) <;> try (simp at hc; done))) | (refine opk 4 rfl ?_; (refine ost_cmp rfl rfl rfl rfl (fun hc => ?_) (fun hc => ?_) <;> (simp only [cmpP] at hc; try exact prIQ))) | (refine opk 8 rfl ?_; (refine ost_storeW H rfl rfl rfl rfl lQ ixQ lQ okQ ?_; clear H; intro wk H; simp only [List.set_cons_zero, List.set_cons_succ, Nat.reduceAdd] at H)) | (refine opk 9 rfl ?_; (refine ost_allocA H rfl ?_; clear H; intro bk wk H))) | refine Wc.seq ?_ | refine then_n ?_ | refine WL.nil ?_ | refine Wc.region ?_ | refine Wc.block ?_ | refine then_r ?_ | refine then_e ?_ | refine inb_e rfl ?_ | refine inb_o rfl ?_ | refine inb_n ?_ | refine inb_r ?_ | refine Wc.skip ?_ | refine Wc.exit ?_ | refine Wc.ret ?_ | refine Wc.cond_true rfl ?_ | refine Wc.cond_false rfl ?_ | refine WL.skp rfl rfl ?_ | refine WL.sku rfl ?_)
    (first | refine fn_ret1 (v := .bool _) rfl rfl ⟨?_, H.fr⟩ | refine fn_ret1 (v := .int _ _) rfl rfl ⟨?_, H.fr⟩ | refine fn_ret1 (v := .string _) rfl rfl ⟨?_, H.fr⟩); rfl
end Go.Tg

