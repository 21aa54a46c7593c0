/- Contracts of Go functions that the laws reach: what each call answers and leaves in memory, for all arguments within the bounds that each theorem names. -/
import Derived.Test.YtajfhoeejeadkaaDoorInst
import Derived.Test.YtajfhoeejeadkaaDoorAuto
import Derived.Test.YtajfhoeejeadkaaDoorVec1
import Derived.Test.YtajfhoeejeadkaaDoorC1
import Derived.Test.YtajfhoeejeadkaaDoorF4
set_option linter.unusedVariables false
set_option linter.unusedSimpArgs false
set_option maxRecDepth 100000
set_option maxHeartbeats 4000000
namespace Go.Tg
open Go Go.Proofs
def cStr (x : List UInt8) : List Value := [.string (bstr x)]
theorem rows_cStr (l : List (List UInt8)) : ∀ r, r ∈ l.map cStr → r.length = 1 := by simp [cStr]
theorem cStr_one (l : List (List UInt8)) : ∀ u ∈ (l.map cStr).flatten, u.oneCell' = true := by
  intro u hu
  obtain ⟨r, h1, h2⟩ := List.mem_flatten.1 hu
  obtain ⟨x, -, rfl⟩ := List.mem_map.1 h1
  simp [cStr] at h2
  subst h2; rfl
theorem contains_str (h0 : FH) (a : Option Addr) (c n : Nat) (l : List (List UInt8)) (x : List UInt8) (w : World) (hs : Sat h0 w) (hn : n = l.length) (hP : Sl h0 1 a c (l.map cStr)) :
    SpecV Tryd.prog 106 #[.slice a n c, .string (bstr x)] w (.bool (decide (x ∈ l))) := by
  subst hn
  by_cases hx : 0 < l.length
  · obtain ⟨b, off, L, T, fr, e1, eb, eg⟩ := hP.getM (by decide) hx
    subst e1
    have hL := hP.lenM
    have hb := hs _ _ eb
    have hz : (l.map bstr).length = l.length := List.length_map ..
    have := Tryd.slices_Contains_string b off l.length c (l.map bstr) (bstr x) w (by omega) (by omega) (by
      intro j hj
      rw [hz] at hj
      rw [cell_of_row w b (off + j) L.toArray T _ hb, List.getElem?_toArray]
      have := row_cell (eg j j hj rfl) (q := 0) (by simp [cStr])
      rw [Nat.mul_one, Nat.add_zero] at this
      rw [this]
      simp [cStr, List.getD_eq_getElem?_getD, hj])
    refine Calls.mono this fun e w' ⟨h1, h2⟩ => ⟨_, h1, ?_, by subst h2; exact Fr.refl _ _⟩
    rw [show (l.map bstr).take l.length = l.map bstr by rw [← hz, List.take_length]]
    congr 1
    rw [Bool.eq_iff_iff, Lib.containsS_iff, decide_eq_true_eq]
    constructor
    · intro h
      obtain ⟨y, h1, h2⟩ := List.mem_map.1 h
      rw [← bstr_inj.1 h2]; exact h1
    · exact fun h => List.mem_map.2 ⟨x, h, rfl⟩
  · have : l = [] := List.eq_nil_of_length_eq_zero (by omega)
    subst this
    exact Calls.mono (Tryd.slices_Contains_string_empty a c (bstr x) w) fun e w' ⟨h1, h2⟩ => ⟨_, h1, by simp, by subst h2; exact Fr.refl _ _⟩
theorem clone_str (h0 : FH) (a : Option Addr) (c n : Nat) (l : List (List UInt8)) (w : World) (hs : Sat h0 w) (hn : n = (l.map cStr).length) (hP : Sl h0 1 a c (l.map cStr)) (hb : l.length ≤ 1000000) :
    Spec Tryd.prog 104 #[.slice a n c] w [] h0 (fun v h' L' => ∃ a' c', v = .slice a' n c' ∧ h' = h0 ∧ L' = [.own v 9 1 n (l.map cStr).flatten]) := by
  subst hn
  have H := St.start hs
  have hl : (l.map cStr).length = l.length := List.length_map ..
  have hone := cStr_one l
  unfold Spec
  refine calls_of Tryd.func104 rfl Tryd.ntmps104 (by simp) ?_
  cases a with
  | none =>
    obtain ⟨e, rfl⟩ := hP.empty
    have : l = [] := List.map_eq_nil_iff.1 e
    subst this
    repeat' (first | ((first | refine WL.p rfl ?_ | refine WL.u ?_); first | refine pvQ ?_ | (refine opk 3 rfl ?_; first | (refine ost_slEq rfl rfl rfl (fun hc => ?_) (fun hc => ?_) <;> try (simp at hc; done)) | (refine ost_slNe rfl rfl rfl (fun hc => ?_) (fun hc => ?_) <;> try (simp at hc; done))) | (refine opk 9 rfl ?_; (refine ost_build1 H rfl rfl rfl evQ lsQ rfl ?_; clear H; intro bk wk H))) | refine Wc.seq ?_ | refine then_n ?_ | refine WL.nil ?_ | refine Wc.region ?_ | refine Wc.block ?_ | refine then_r ?_ | refine then_e ?_ | refine inb_e rfl ?_ | refine inb_o rfl ?_ | refine inb_n ?_ | refine inb_r ?_ | refine Wc.skip ?_ | refine Wc.exit ?_ | refine Wc.ret ?_ | refine Wc.cond_true rfl ?_ | refine Wc.cond_false rfl ?_)
    all_goals exact fn_ret1 (v := .slice _ _ _) rfl rfl ⟨_, _, (H.nilOwn 9 1).pick 0 rfl, _, _, rfl, rfl, rfl⟩
  | some ad =>
    repeat' (first | ((first | refine WL.p rfl ?_ | refine WL.u ?_); first | (refine opk 1 rfl ?_; (refine ost_appRs (rows := []) (more := l.map cStr) H rfl rfl rfl (by (exact ixQ)) (hP.full H) (by rfl) (by decide) hone rfl (by simp only [List.length_nil]; omega) ?_; clear H; intro aa ca wk H; simp only [List.set_cons_zero, List.nil_append] at H)) | refine pvQ ?_ | (refine opk 3 rfl ?_; first | (refine ost_slEq rfl rfl rfl (fun hc => ?_) (fun hc => ?_) <;> try (simp at hc; done)) | (refine ost_slNe rfl rfl rfl (fun hc => ?_) (fun hc => ?_) <;> try (simp at hc; done))) | (refine opk 9 rfl ?_; (refine ost_build1 H rfl rfl rfl evQ lsQ rfl ?_; clear H; intro bk wk H))) | refine Wc.seq ?_ | refine then_n ?_ | refine WL.nil ?_ | refine Wc.region ?_ | refine Wc.block ?_ | refine then_r ?_ | refine then_e ?_ | refine inb_e rfl ?_ | refine inb_o rfl ?_ | refine inb_n ?_ | refine inb_r ?_ | refine Wc.skip ?_ | refine Wc.exit ?_ | refine Wc.ret ?_ | refine Wc.cond_true rfl ?_ | refine Wc.cond_false rfl ?_)
    exact fn_ret1 (v := .slice _ _ _) rfl rfl ⟨_, _, H.pick 0 rfl, _, _, rfl, rfl, rfl⟩
end Go.Tg

set_option linter.unusedVariables false
set_option linter.unusedSimpArgs false
set_option maxRecDepth 100000
set_option maxHeartbeats 4000000
namespace Go.Tg
open Go Go.Proofs
theorem ost_clear {P : Program} {o : Oper} {s : Env} {w : World} {K : Value → World → Prop} {ws : World} {S : List Nat} {h0 h : FH} {L : List HA} {t e : TypeId} {x : Operand} {sz' bytes' bytes : Nat} {z' z : Value} {d : TypeDesc} {a : Option Addr} {b off n c : Nat} {l : List Value} {T : TypeId} {i : Nat}
    [Ty P t (.slice e) sz' bytes' z'] [Ty P e d 1 bytes z] (H : St ws S h0 h L w) (ho : o.op = .call { callee := .builtin .clear, args := #[x], argTypes := #[t] }) (hx : ev s x = .slice a n c) (ha : 0 < n → a = some ⟨b, off, none⟩)
    (h1 : z.oneCell' = true) (hi : L[i]? = some (.blk b (.cells l.toArray T (0, 0)))) (hlt : off + n ≤ l.length)
    (hk : ∀ w', St ws S h0 h (L.set i (.blk b (.cells (l.take off ++ List.replicate n z ++ l.drop (off + n)).toArray T (0, 0)))) w' → K (.tuple #[]) w') : Ost P o s w K := by
  have hb := H.blk hi
  by_cases hn : 0 < n
  · have he := ha hn
    subst he
    have hcs : z.cells = #[z] := by cases z <;> simp_all [Value.cells, Value.oneCell']
    have hzc : (Builtin.zeroCells #[z] n).toList = List.replicate n z := by
      apply List.ext_getElem
      · simp [Builtin.zeroCells]
      · intro i g1 g2
        simp [Builtin.zeroCells, Nat.mod_one]
    have hst := run_storeCells_at P b off T (List.replicate n z) 0 l.toArray w hb (by simpa using hlt) (by intro v hv; rw [List.eq_of_mem_replicate hv]; exact h1)
    simp only [Nat.add_zero] at hst
    rw [List.length_replicate] at hst
    refine .val (v := .tuple #[]) (w' := w.setRow b (l.take off ++ List.replicate n z ++ l.drop (off + n)).toArray) ?_ (hk _ ?_)
    · obtain ⟨m, rfl⟩ : ∃ m, n = m + 1 := ⟨n - 1, by omega⟩
      simp only [execOp, ho, hx, resolve, invoke, builtin, Builtin.clear_]
      simp [hx, Ty.run_und, Ty.run_zero, hcs, hzc]
      rw [hst, List.append_assoc]; rfl
    · refine H.repl hi ⟨rfl, rfl, rfl, by simp, fun k _ hS => setRow_other w b k _ (by simpa [HA.fp] using hS)⟩ ?_ (by simp [HA.fp])
      exact setRow_heap w b _ _ T _ hb
  · obtain rfl : n = 0 := by omega
    refine .val (v := .tuple #[]) (w' := w) ?_ (hk _ ?_)
    · cases a <;> simp [execOp, ho, hx, resolve, invoke, builtin, Builtin.clear_, Ty.run_und]
    · have : L.set i (.blk b (.cells (l.take off ++ List.replicate 0 z ++ l.drop (off + 0)).toArray T (0, 0))) = L := by
        rw [List.replicate_zero, List.append_nil, Nat.add_zero, List.take_append_drop]
        apply List.ext_getElem?
        intro q
        rw [List.getElem?_set]
        split
        · rename_i hq
          subst hq
          rw [hi, if_pos (List.getElem?_eq_some_iff.1 hi).1]
        · rfl
      rw [this]; exact H
theorem St.blkOwnT {ws w : World} {S : List Nat} {h0 h : FH} {L : List HA} (H : St ws S h0 h L w) {i b : Nat} {l : List Value} {e : TypeId} {n c : Nat} (hi : L[i]? = some (.blk b (.cells l.toArray e (0, 0)))) (hl : l.length = c) (hn : n ≤ c) (hm : c ≤ maxLen) :
    St ws S h0 h (L.set i (.own (.slice (some ⟨b, 0, none⟩) n c) e 1 n (l.take n))) w :=
  H.repl hi (Fr.refl _ _) ⟨by rw [List.length_take]; omega, .inr ⟨b, c, l.toArray, rfl, Nat.zero_le _, H.blk hi, hn, hm, by simpa using hl, by simp⟩⟩ (by simp [HA.fp, Value.ownBlock])
def sV (l : List (List UInt8)) : List Value := l.map fun x => Value.string (bstr x)
theorem sV_flat (l : List (List UInt8)) : (l.map cStr).flatten = sV l := by
  induction l with
  | nil => rfl
  | cons x l ih => rw [List.map_cons, List.flatten_cons, ih]; rfl
theorem sV_len (l : List (List UInt8)) : (sV l).length = l.length := List.length_map ..
def idxF (p : List UInt8 → Bool) (l : List (List UInt8)) : Int := if l.findIdx p = l.length then -1 else (l.findIdx p : Nat)
theorem idx_func (p : List UInt8 → Bool) (b5 : Nat) (h0 : FH) (a : Option Addr) (c n : Nat) (l : List (List UInt8)) (w : World) (hs : Sat h0 w) (hn : n = l.length) (hP : Sl h0 1 a c (l.map cStr))
    (hp : ∀ x w, Sat h0 w → SpecV Tryd.prog 105 #[.string (bstr x), pt b5] w (.bool (p x))) :
    SpecV Tryd.prog 134 #[.slice a n c, .func (.func 105) #[] #[pt b5]] w (.int .i64 (idxF p l)) := by
  subst hn
  have H := St.start hs
  have hc := hP.lenM
  unfold SpecV
  refine calls_of Tryd.func134 rfl Tryd.ntmps134 (by simp) ?_
  repeat' (first | ((first | refine WL.p rfl ?_ | refine WL.u ?_); first | refine pvQ ?_ | (refine opk 3 rfl ?_; (refine ost_cmp rfl rfl rfl rfl (fun hc => ?_) (fun hc => ?_) <;> (simp only [cmpP] at hc; try exact prIQ))) | (refine opk 4 rfl ?_; (refine ost_cmp rfl rfl rfl rfl (fun hc => ?_) (fun hc => ?_) <;> (simp only [cmpP] at hc; try exact prIQ)))) | refine Wc.seq ?_ | refine then_n ?_ | refine WL.nil ?_ | refine Wc.region ?_ | refine Wc.block ?_ | refine then_r ?_ | refine then_e ?_ | refine inb_e rfl ?_ | refine inb_o rfl ?_ | refine inb_n ?_ | refine inb_r ?_ | refine Wc.skip ?_ | refine Wc.exit ?_ | refine Wc.ret ?_ | refine Wc.cond_true rfl ?_ | refine Wc.cond_false rfl ?_)
  refine Wc.loopE (fun s0 m s w' => ∃ k : Nat, m = l.length - k ∧ k ≤ l.length ∧ Agree [4, 5, 8, 9, 10, 11, 12, 13, 14, 15, 16, 17, 18] s s0 ∧ s 8 = .int .i64 k ∧ l.findIdx p = k + (l.drop k).findIdx p ∧ St w [] h0 h0 [] w') l.length ⟨0, rfl, by omega, Agree.refl _ _, rfl, by simp, H⟩ ?_
  clear H
  rintro m s w' ⟨k, rfl, hk, hA9, e1, hf, H⟩
  obtain ⟨j, rfl⟩ := hA9.env1 e1
  clear hA9 e1
  by_cases hlt : k < l.length
  · obtain ⟨b', off, L, T, fr, e1, eb, eg⟩ := hP.getM (by decide) (Nat.lt_of_le_of_lt (Nat.zero_le _) hlt)
    subst e1
    have g1 : L[off + (k : Int).toNat * 1]? = some (.string (bstr l[k])) := row_cell (eg (k : Int).toNat k hlt (by omega)) (q := 0) (by simp [cStr])
    have hpk := hp l[k]
    rw [List.drop_eq_getElem_cons hlt, List.findIdx_cons] at hf
    cases hq : p l[k] with
    | true =>
      rw [hq] at hpk hf
      repeat' (first | ((first | refine WL.p rfl ?_ | refine WL.u ?_); first | (refine opk 1 rfl ?_; (refine ost_VE (vs := [.string (bstr l[k]), pt b5]) H (ent_v rfl rfl rfl) (hpk _ H.sat) ?_; clear H; intro wk H)) | refine pvQ ?_ | (refine opk 3 rfl ?_; (refine ost_cmp rfl rfl rfl rfl (fun hc => ?_) (fun hc => ?_) <;> (simp only [cmpP] at hc; try exact prIQ))) | (refine opk 4 rfl ?_; (refine ost_cmp rfl rfl rfl rfl (fun hc => ?_) (fun hc => ?_) <;> (simp only [cmpP] at hc; try exact prIQ)))) | refine Wc.seq ?_ | refine then_n ?_ | refine WL.nil ?_ | refine Wc.region ?_ | refine Wc.block ?_ | refine then_r ?_ | refine then_e ?_ | refine inb_e rfl ?_ | refine inb_o rfl ?_ | refine inb_n ?_ | refine inb_r ?_ | refine Wc.skip ?_ | refine Wc.exit ?_ | refine Wc.ret ?_ | refine Wc.cond_true rfl ?_ | refine Wc.cond_false rfl ?_)
      exact fn_ret1 (v := .int _ _) rfl rfl ⟨by unfold idxF; rw [hf]; simp; omega, H.fr⟩
    | false =>
      rw [hq] at hpk hf
      repeat' (first | ((first | refine WL.p rfl ?_ | refine WL.u ?_); first | (refine opk 1 rfl ?_; (refine ost_VE (vs := [.string (bstr l[k]), pt b5]) H (ent_v rfl rfl rfl) (hpk _ H.sat) ?_; clear H; intro wk H)) | refine pvQ ?_ | (refine opk 3 rfl ?_; (refine ost_cmp rfl rfl rfl rfl (fun hc => ?_) (fun hc => ?_) <;> (simp only [cmpP] at hc; try exact prIQ))) | (refine opk 4 rfl ?_; (refine ost_cmp rfl rfl rfl rfl (fun hc => ?_) (fun hc => ?_) <;> (simp only [cmpP] at hc; try exact prIQ)))) | refine Wc.seq ?_ | refine then_n ?_ | refine WL.nil ?_ | refine Wc.region ?_ | refine Wc.block ?_ | refine then_r ?_ | refine then_e ?_ | refine inb_e rfl ?_ | refine inb_o rfl ?_ | refine inb_n ?_ | refine inb_r ?_ | refine Wc.skip ?_ | refine Wc.exit ?_ | refine Wc.ret ?_ | refine Wc.cond_true rfl ?_ | refine Wc.cond_false rfl ?_)
      exact ⟨l.length - (k + 1), by omega, k + 1, rfl, by omega, by (repeat' (first | exact Agree.refl _ _ | exact Agree.havoc | refine Agree.upd rfl ?_ | refine Agree.hav2 rfl ?_)), rfl, by rw [hf]; simp; omega, H⟩
  · obtain rfl : k = l.length := by omega
    repeat' (first | ((first | refine WL.p rfl ?_ | refine WL.u ?_); first | refine pvQ ?_ | (refine opk 3 rfl ?_; (refine ost_cmp rfl rfl rfl rfl (fun hc => ?_) (fun hc => ?_) <;> (simp only [cmpP] at hc; try exact prIQ))) | (refine opk 4 rfl ?_; (refine ost_cmp rfl rfl rfl rfl (fun hc => ?_) (fun hc => ?_) <;> (simp only [cmpP] at hc; try exact prIQ)))) | refine Wc.seq ?_ | refine then_n ?_ | refine WL.nil ?_ | refine Wc.region ?_ | refine Wc.block ?_ | refine then_r ?_ | refine then_e ?_ | refine inb_e rfl ?_ | refine inb_o rfl ?_ | refine inb_n ?_ | refine inb_r ?_ | refine Wc.skip ?_ | refine Wc.exit ?_ | refine Wc.ret ?_ | refine Wc.cond_true rfl ?_ | refine Wc.cond_false rfl ?_)
    exact fn_ret1 (v := .int _ _) rfl rfl ⟨by unfold idxF; rw [hf]; simp, H.fr⟩
end Go.Tg

set_option linter.unusedVariables false
set_option linter.unusedSimpArgs false
set_option maxRecDepth 100000
set_option maxHeartbeats 4000000
namespace Go.Tg
open Go Go.Proofs
theorem filter_none {p : List UInt8 → Bool} : ∀ {l : List (List UInt8)}, l.findIdx p = l.length → l.filter (fun x => !p x) = l
  | [], _ => rfl
  | x :: l, h => by
    rw [List.findIdx_cons] at h
    cases hx : p x with
    | true => rw [hx] at h; simp at h
    | false =>
      rw [hx] at h
      simp only [cond_false, List.length_cons, Nat.add_right_cancel_iff] at h
      rw [List.filter_cons, hx, filter_none h]; rfl
theorem filter_at {p : List UInt8 → Bool} : ∀ {l : List (List UInt8)}, (h : l.findIdx p < l.length) → (l.take (l.findIdx p + 1)).filter (fun x => !p x) = l.take (l.findIdx p)
  | [], h => by simp at h
  | x :: l, h => by
    rw [List.findIdx_cons] at h ⊢
    cases hx : p x with
    | true => simp [hx]
    | false =>
      rw [hx] at h
      simp only [cond_false, List.length_cons] at h ⊢
      rw [List.take_succ_cons, List.filter_cons, hx, filter_at (by omega)]; rfl
abbrev ownS (v : Value) (l : List (List UInt8)) : HA := .own v 9 1 l.length (sV l)
theorem fl_succ {q : List UInt8 → Bool} {l : List (List UInt8)} {k : Nat} (h : k < l.length) : (l.take (k + 1)).filter q = (l.take k).filter q ++ (if q l[k] = true then [l[k]] else []) := by
  rw [List.take_add_one, List.getElem?_eq_getElem h, List.filter_append]
  simp [List.filter_cons]
theorem fl_le (q : List UInt8 → Bool) (l : List (List UInt8)) (k : Nat) : ((l.take k).filter q).length ≤ k :=
  Nat.le_trans (List.length_filter_le _ _) (by rw [List.length_take]; omega)
theorem take_set {l : List Value} {i : Nat} {v : Value} {xs : List Value} (hi : i < l.length) (h : l.take i = xs) : (l.set i v).take (i + 1) = xs ++ [v] := by
  rw [List.take_add_one, List.getElem?_set_self hi, List.take_set_of_le (Nat.le_refl _), h]; rfl
theorem sV_get {l : List (List UInt8)} {k : Nat} (h : k < l.length) : (sV l)[k]? = some (.string (bstr l[k])) := by simp [sV, h]
theorem del_func (p : List UInt8 → Bool) (b5 : Nat) (a : Option Addr) (c : Nat) (l : List (List UInt8)) (g : FH) (w : World) (HO : St w (ownS (.slice a l.length c) l).fp g g [ownS (.slice a l.length c) l] w) (hb : l.length ≤ 1000000)
    (hp : ∀ x w, Sat g w → SpecV Tryd.prog 105 #[.string (bstr x), pt b5] w (.bool (p x))) :
    Spec Tryd.prog 103 #[.slice a l.length c, .func (.func 105) #[] #[pt b5]] w (ownS (.slice a l.length c) l).fp g (fun v' h' L' => h' = g ∧ ∃ a' c', v' = .slice a' (l.filter fun x => !p x).length c' ∧ L' = [ownS v' (l.filter fun x => !p x)]) := by
  have H := HO
  have hI : SpecV Tryd.prog 134 #[.slice a l.length c, .func (.func 105) #[] #[pt b5]] w (.int .i64 (idxF p l)) := by
    have H2 : St w (ownS (.slice a l.length c) l).fp g g [ownR (.slice a l.length c) 9 1 (l.map cStr)] w := by
      unfold ownR; rw [sV_flat, List.length_map]; exact HO
    obtain ⟨a1, c1, e1, hS⟩ := H2.ownSl (i := 0) rfl (rows_cStr l)
    injection e1 with e1 e2 e3
    rw [← e1, ← e3] at hS
    exact idx_func p b5 (full w) a c l.length l w (sat_full w) rfl hS fun x w9 h9 => hp x w9 fun k o e => h9 k o (HO.sat k o e)
  have hle := List.findIdx_le_length (p := p) (xs := l)
  unfold Spec
  refine calls_of Tryd.func103 rfl Tryd.ntmps103 (by simp) ?_
  by_cases hx : l.findIdx p = l.length
  · have hi : idxF p l = -1 := by unfold idxF; rw [if_pos hx]
    rw [hi] at hI
    rw [filter_none hx]
    repeat' (first | ((first | refine WL.p rfl ?_ | refine WL.u ?_); first | (refine opk 1 rfl ?_; (refine ost_V H rfl (hI) rfl ?_; clear H; intro wk H)) | refine pvQ ?_ | (refine opk 3 rfl ?_; (refine ost_cmp rfl rfl rfl rfl (fun hc => ?_) (fun hc => ?_) <;> (simp only [cmpP] at hc; try exact prIQ))) | (refine opk 4 rfl ?_; (refine ost_cmp rfl rfl rfl rfl (fun hc => ?_) (fun hc => ?_) <;> (simp only [cmpP] at hc; try exact prIQ))) | (refine opk 8 rfl ?_; (refine ost_store1 H rfl rfl vlQ gvQ ixQ (by first | decide | (simp; omega) | (simp; done) | omega) ?_; clear H; intro wk H; simp only [List.set_cons_zero, List.set_cons_succ, Nat.reduceAdd] at H))) | refine Wc.seq ?_ | refine then_n ?_ | refine WL.nil ?_ | refine Wc.region ?_ | refine Wc.block ?_ | refine then_r ?_ | refine then_e ?_ | refine inb_e rfl ?_ | refine inb_o rfl ?_ | refine inb_n ?_ | refine inb_r ?_ | refine Wc.skip ?_ | refine Wc.exit ?_ | refine Wc.ret ?_ | refine Wc.cond_true rfl ?_ | refine Wc.cond_false rfl ?_)
    exact fn_ret1 (v := .slice _ _ _) rfl rfl ⟨_, _, H, rfl, _, _, rfl, rfl⟩
  · have hi : idxF p l = (l.findIdx p : Nat) := by unfold idxF; rw [if_neg hx]
    rw [hi] at hI
    have hf := filter_at (p := p) (l := l) (by omega)
    generalize l.findIdx p = i0 at hI hf hle hx
    have hin : i0 < l.length := by omega
    repeat' (first | ((first | refine WL.p rfl ?_ | refine WL.u ?_); first | (refine opk 1 rfl ?_; (refine ost_V H rfl (hI) rfl ?_; clear H; intro wk H)) | refine pvQ ?_ | (refine opk 3 rfl ?_; (refine ost_cmp rfl rfl rfl rfl (fun hc => ?_) (fun hc => ?_) <;> (simp only [cmpP] at hc; try exact prIQ))) | (refine opk 4 rfl ?_; (refine ost_cmp rfl rfl rfl rfl (fun hc => ?_) (fun hc => ?_) <;> (simp only [cmpP] at hc; try exact prIQ))) | (refine opk 8 rfl ?_; (refine ost_store1 H rfl rfl vlQ gvQ ixQ (by first | decide | (simp; omega) | (simp; done) | omega) ?_; clear H; intro wk H; simp only [List.set_cons_zero, List.set_cons_succ, Nat.reduceAdd] at H))) | refine Wc.seq ?_ | refine then_n ?_ | refine WL.nil ?_ | refine Wc.region ?_ | refine Wc.block ?_ | refine then_r ?_ | refine then_e ?_ | refine inb_e rfl ?_ | refine inb_o rfl ?_ | refine inb_n ?_ | refine inb_r ?_ | refine Wc.skip ?_ | refine Wc.exit ?_ | refine Wc.ret ?_ | refine Wc.cond_true rfl ?_ | refine Wc.cond_false rfl ?_)
    obtain ⟨g0, cur, rfl, hnc, hcl, hct, H9⟩ := H.ownBlk (i := 0) rfl (Nat.lt_of_le_of_lt (Nat.zero_le _) hin)
    clear H; have H := H9; clear H9
    rw [Nat.mul_one] at hcl hct
    have hmx : c ≤ maxLen := by
      obtain ⟨_, h2⟩ := HO.ok 0 _ rfl
      rcases h2 with ⟨h2, h3⟩ | ⟨g2, cap, cur2, h2, _, hg, hnc, hm, hs, ht⟩
      · omega
      · cases h2; exact hm
    have h9 : (maxLen : Nat) ≤ 9223372036854775807 := by decide
    have hget : ∀ r, r < l.length → cur[r]? = (sV l)[r]? := fun r hr => by rw [← hct, List.getElem?_take, if_pos hr]
    generalize hF9 : (ownS (.slice (some ⟨g0, 0, none⟩) l.length c) l).fp = F9 at H ⊢
    refine Wc.loopE (fun s0 m s w' => ∃ (k : Nat) (cur : List Value), m = l.length - k ∧ k ≤ l.length ∧ Agree [5, 6, 7, 16, 17, 18, 19, 20, 21, 22, 23, 24, 25, 26, 27, 28, 29, 30, 31, 32, 33, 34, 35] s s0 ∧ s 5 = .int .i64 ((l.take k).filter fun x => !p x).length ∧ s 6 = .int .i64 k ∧ cur.length = c ∧
      cur.take ((l.take k).filter fun x => !p x).length = sV ((l.take k).filter fun x => !p x) ∧ (∀ r, k ≤ r → r < l.length → cur[r]? = (sV l)[r]?) ∧
      St w F9 g g [.blk g0 (.cells cur.toArray 9 (0, 0))] w') (l.length - (i0 + 1)) ⟨i0 + 1, cur, rfl, by omega, Agree.refl _ _, by rw [hf, List.length_take, Nat.min_eq_left hle]; rfl, rfl, hcl, by rw [hf, List.length_take, Nat.min_eq_left hle]; rw [show sV (l.take i0) = (sV l).take i0 by unfold sV; rw [List.map_take], ← hct, List.take_take, Nat.min_eq_left hle], fun r h1 h2 => hget r h2, H⟩ ?_
    clear H hget hcl hct
    rintro m s w' ⟨k, cur, rfl, hk, hA9, e5, e6, hcl, hct, hget, H⟩
    obtain ⟨j, rfl⟩ := hA9.env2 e5 e6
    clear hA9 e5 e6
    have hfk := fl_le (fun x => !p x) l k
    by_cases hlt : k < l.length
    · have g1 : cur[0 + (k : Int).toNat * 1]? = some (.string (bstr l[k])) := by
        have : 0 + (k : Int).toNat * 1 = k := by omega
        rw [this, hget k (Nat.le_refl _) hlt, sV_get hlt]
      have hpk := hp l[k]
      have hfs := fl_succ (q := fun x => !p x) hlt
      generalize hy : (l.take k).filter (fun x => !p x) = y at hfs hct hfk
      cases hq : p l[k] with
      | true =>
        rw [hq] at hpk hfs
        repeat' (first | ((first | refine WL.p rfl ?_ | refine WL.u ?_); first | (refine opk 1 rfl ?_; (refine ost_VE (vs := [.string (bstr l[k]), pt b5]) H (ent_v rfl rfl rfl) (hpk _ H.sat) ?_; clear H; intro wk H)) | refine pvQ ?_ | (refine opk 3 rfl ?_; (refine ost_cmp rfl rfl rfl rfl (fun hc => ?_) (fun hc => ?_) <;> (simp only [cmpP] at hc; try exact prIQ))) | (refine opk 4 rfl ?_; (refine ost_cmp rfl rfl rfl rfl (fun hc => ?_) (fun hc => ?_) <;> (simp only [cmpP] at hc; try exact prIQ))) | (refine opk 8 rfl ?_; (refine ost_store1 H rfl rfl vlQ gvQ ixQ (by first | decide | (simp; omega) | (simp; done) | omega) ?_; clear H; intro wk H; simp only [List.set_cons_zero, List.set_cons_succ, Nat.reduceAdd] at H))) | refine Wc.seq ?_ | refine then_n ?_ | refine WL.nil ?_ | refine Wc.region ?_ | refine Wc.block ?_ | refine then_r ?_ | refine then_e ?_ | refine inb_e rfl ?_ | refine inb_o rfl ?_ | refine inb_n ?_ | refine inb_r ?_ | refine Wc.skip ?_ | refine Wc.exit ?_ | refine Wc.ret ?_ | refine Wc.cond_true rfl ?_ | refine Wc.cond_false rfl ?_)
        have hfs : (l.take (k + 1)).filter (fun x => !p x) = y := by rw [hfs]; simp
        exact ⟨l.length - (k + 1), by omega, k + 1, cur, rfl, by omega, by (repeat' (first | exact Agree.refl _ _ | exact Agree.havoc | refine Agree.upd rfl ?_ | refine Agree.hav2 rfl ?_)), by rw [hfs]; rfl, rfl, hcl, by rw [hfs]; exact hct, fun r h1 h2 => hget r (by omega) h2, H⟩
      | false =>
        rw [hq] at hpk hfs
        repeat' (first | ((first | refine WL.p rfl ?_ | refine WL.u ?_); first | (refine opk 1 rfl ?_; (refine ost_VE (vs := [.string (bstr l[k]), pt b5]) H (ent_v rfl rfl rfl) (hpk _ H.sat) ?_; clear H; intro wk H)) | refine pvQ ?_ | (refine opk 3 rfl ?_; (refine ost_cmp rfl rfl rfl rfl (fun hc => ?_) (fun hc => ?_) <;> (simp only [cmpP] at hc; try exact prIQ))) | (refine opk 4 rfl ?_; (refine ost_cmp rfl rfl rfl rfl (fun hc => ?_) (fun hc => ?_) <;> (simp only [cmpP] at hc; try exact prIQ))) | (refine opk 8 rfl ?_; (refine ost_store1 H rfl rfl vlQ gvQ ixQ (by first | decide | (simp; omega) | (simp; done) | omega) ?_; clear H; intro wk H; simp only [List.set_cons_zero, List.set_cons_succ, Nat.reduceAdd] at H))) | refine Wc.seq ?_ | refine then_n ?_ | refine WL.nil ?_ | refine Wc.region ?_ | refine Wc.block ?_ | refine then_r ?_ | refine then_e ?_ | refine inb_e rfl ?_ | refine inb_o rfl ?_ | refine inb_n ?_ | refine inb_r ?_ | refine Wc.skip ?_ | refine Wc.exit ?_ | refine Wc.ret ?_ | refine Wc.cond_true rfl ?_ | refine Wc.cond_false rfl ?_)
        have hfs : (l.take (k + 1)).filter (fun x => !p x) = y ++ [l[k]] := by rw [hfs]; simp
        have hz9 : 0 + (y.length : Int).toNat * 1 = y.length := by omega
        rw [hz9] at H
        exact ⟨l.length - (k + 1), by omega, k + 1, _, rfl, by omega, by (repeat' (first | exact Agree.refl _ _ | exact Agree.havoc | refine Agree.upd rfl ?_ | refine Agree.hav2 rfl ?_)), by rw [hfs, List.length_append]; rfl, rfl, by rw [List.length_set]; exact hcl, by rw [hfs, List.length_append, List.length_singleton, take_set (by omega) hct]; simp [sV], fun r h1 h2 => by rw [List.getElem?_set_ne (by omega)]; exact hget r (by omega) h2, H⟩
    · obtain rfl : k = l.length := by omega
      rw [List.take_length] at *
      generalize l.filter (fun x => !p x) = y at *
      have hadr : 0 < l.length - (y.length : Int).toNat → (if c = (y.length : Int).toNat then some (⟨g0, 0, none⟩ : Addr) else Option.map (fun x : Addr => x.add ((y.length : Int).toNat * 1)) (some (⟨g0, 0, none⟩ : Addr))) = some ⟨g0, y.length, none⟩ := fun h => by
        rw [if_neg (by omega)]; simp [Addr.add]; try (intro h; rw [h]; rfl)
      repeat' (first | ((first | refine WL.p rfl ?_ | refine WL.u ?_); first | (refine opk 1 rfl ?_; (refine ost_clear (b := g0) (off := y.length) H rfl rfl hadr rfl (by (exact ixQ)) (by omega) ?_; clear H; intro wk H)) | refine pvQ ?_ | (refine opk 3 rfl ?_; (refine ost_cmp rfl rfl rfl rfl (fun hc => ?_) (fun hc => ?_) <;> (simp only [cmpP] at hc; try exact prIQ))) | (refine opk 4 rfl ?_; (refine ost_cmp rfl rfl rfl rfl (fun hc => ?_) (fun hc => ?_) <;> (simp only [cmpP] at hc; try exact prIQ))) | (refine opk 8 rfl ?_; (refine ost_store1 H rfl rfl vlQ gvQ ixQ (by first | decide | (simp; omega) | (simp; done) | omega) ?_; clear H; intro wk H; simp only [List.set_cons_zero, List.set_cons_succ, Nat.reduceAdd] at H))) | refine Wc.seq ?_ | refine then_n ?_ | refine WL.nil ?_ | refine Wc.region ?_ | refine Wc.block ?_ | refine then_r ?_ | refine then_e ?_ | refine inb_e rfl ?_ | refine inb_o rfl ?_ | refine inb_n ?_ | refine inb_r ?_ | refine Wc.skip ?_ | refine Wc.exit ?_ | refine Wc.ret ?_ | refine Wc.cond_true rfl ?_ | refine Wc.cond_false rfl ?_)
      have hz9 : (y.length : Int).toNat = y.length := by omega
      rw [hz9] at H
      have hty : (cur.take y.length ++ List.replicate (l.length - y.length) (Value.string ⟨#[]⟩) ++ cur.drop (y.length + (l.length - y.length))).take y.length = sV y := by
        rw [hct, List.append_assoc]; exact List.take_left' (sV_len y)
      have hcl2 : (cur.take y.length ++ List.replicate (l.length - y.length) (Value.string ⟨#[]⟩) ++ cur.drop (y.length + (l.length - y.length))).length = c := by
        simp; omega
      have H2 := H.blkOwnT (i := 0) rfl hcl2 (n := y.length) (by omega) hmx
      rw [hty] at H2
      exact fn_ret1 (v := .slice _ _ _) rfl rfl ⟨_, _, H2, rfl, _, _, by rw [hz9], rfl⟩
end Go.Tg

