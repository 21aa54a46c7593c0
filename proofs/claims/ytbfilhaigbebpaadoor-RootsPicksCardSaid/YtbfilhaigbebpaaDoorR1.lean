/- Contracts of Go functions that the laws reach: what each call answers and leaves in memory, for all arguments within the bounds that each theorem names. -/
import Derived.Test.YtbfilhaigbebpaaDoorInst
import Derived.Test.YtbfilhaigbebpaaDoorAuto
import Derived.Test.YtbfilhaigbebpaaDoorQB
import Derived.Test.YtbfilhaigbebpaaDoorL2
import Derived.Test.YtbfilhaigbebpaaDoorW2
import Derived.Test.YtbfilhaigbebpaaDoorW6
import Derived.Test.YtbfilhaigbebpaaDoorArgs
import Derived.Test.YtbfilhaigbebpaaDoorCards
import Derived.Test.YtbfilhaigbebpaaDoorTie
import Derived.SevenTiedAt
import Derived.Test.YtbfilhaigbebpaaDoorChn
set_option linter.unusedVariables false
set_option linter.unusedSimpArgs false
set_option maxRecDepth 100000
set_option maxHeartbeats 4000000
namespace Go.Tg
open Go Go.Proofs
def PGv (h : FH) (v : Value) (p : PageT) : Prop := ∃ A, v = .agg (pgV p A).toArray ∧ PgR h p A
theorem PGv.mono {h h' : FH} {v : Value} {p : PageT} (hle : FLe h h') (r : PGv h v p) : PGv h' v p := by
  obtain ⟨A, e, r⟩ := r; exact ⟨A, e, r.mono hle⟩
section
variable {P : Program} {o : Oper} {s : Env} {w : World} {K : Value → World → Prop}
end
end Go.Tg
set_option linter.unusedVariables false
set_option linter.unusedSimpArgs false
set_option maxRecDepth 100000
set_option maxHeartbeats 4000000
namespace Go.Tg
open Go Go.Proofs
theorem cLoc_len (k : LocT) : (cLoc k).length = 2 := rfl
end Go.Tg

set_option linter.unusedVariables false
set_option linter.unusedSimpArgs false
set_option maxRecDepth 100000
set_option maxHeartbeats 4000000
namespace Go.Tg
open Go Go.Proofs
structure ItemT where
  key : KeyT
  loc : LocT
def cItem (i : ItemT) : List Value := cKey i.key ++ cLoc i.loc
theorem cItem_len (i : ItemT) : (cItem i).length = 5 := rfl
theorem cItem_one (i : ItemT) : (cItem i).all Value.oneCell' = true := rfl
theorem cItem_key (i : ItemT) : ((cItem i).drop (0 + 0)).take 3 = cKey i.key := rfl
theorem cItem_loc (i : ItemT) : ((cItem i).drop (0 + 3)).take 2 = cLoc i.loc := rfl
theorem rows_len5 (l : List ItemT) : ∀ r, r ∈ l.map cItem → r.length = 5 := by simp [cItem_len]
theorem row_part {l : List Value} {o sz : Nat} {row : List Value} (h : (l.drop o).take sz = row) {q n : Nat} (hq : q + n ≤ sz) : (l.drop (o + q)).take n = (row.drop q).take n := by
  rw [← h, List.drop_take, List.take_take, List.drop_drop, Nat.min_eq_left (by omega)]
noncomputable def riseL (l : List ItemT) : Bool := dcd (sortedK (l.map (·.key)))
theorem riseL_iff {l : List ItemT} : riseL l = true ↔ ∀ j (h : j + 1 < l.length), keyN (l[j]'(by omega)).key < keyN l[j + 1].key := by
  unfold riseL
  rw [dcd_iff]
  unfold sortedK
  constructor
  · intro h j hj
    have := h j (by simpa using hj)
    simpa using this
  · intro h j hj
    have := h j (by simpa using hj)
    simpa using this
theorem riseL_no {l : List ItemT} : riseL l = false ↔ ¬ ∀ j (h : j + 1 < l.length), keyN (l[j]'(by omega)).key < keyN l[j + 1].key := by
  rw [← riseL_iff]; simp
theorem ro_rise (h0 : FH) (w : World) (hs : Sat h0 w) (a : Option Addr) (c : Nat) (l : List ItemT) (hN : Sl h0 5 a c (l.map cItem)) : SpecV Tryd.prog 21 #[.slice a l.length c] w (.bool (riseL l)) := by
  have H := St.start hs
  have q1 := hN.lenM
  unfold SpecV
  refine calls_of Tryd.func21 rfl Tryd.ntmps21 (by simp) ?_
  repeat' (first | ((first | refine WL.p rfl ?_ | refine WL.u ?_); first | refine pvQ ?_ | (refine opk 3 rfl ?_; (refine ost_cmp rfl rfl rfl rfl (fun hc => ?_) (fun hc => ?_) <;> (simp only [cmpP] at hc; try exact prIQ))) | (refine opk 4 rfl ?_; (refine ost_cmp rfl rfl rfl rfl (fun hc => ?_) (fun hc => ?_) <;> (simp only [cmpP] at hc; try exact prIQ)))) | refine Wc.seq ?_ | refine then_n ?_ | refine WL.nil ?_ | refine Wc.region ?_ | refine Wc.block ?_ | refine then_r ?_ | refine then_e ?_ | refine inb_e rfl ?_ | refine inb_o rfl ?_ | refine inb_n ?_ | refine inb_r ?_ | refine Wc.skip ?_ | refine Wc.exit ?_ | refine Wc.ret ?_ | refine Wc.cond_true rfl ?_ | refine Wc.cond_false rfl ?_ | (refine Wc.drawn (id := 4) 11 (by kernel_rfl) ?_) | (refine rgs_nil ?_; intro vs wk hE; replace H := H.ext hE; clear hE) | (refine RGs.bq (fun _ => rfl) rfl (by intro vs w hE hP; have H := H.ext hE; first | exact dbQ | fail) (fun hc => ?_) (fun hc => ?_) <;> ((try simp only [cmpP, decide_eq_true_eq, decide_eq_false_iff_not, dcd_iff, dcd_no] at hc); try exact prDQ)) | refine RGs.pq (fun _ => rfl) rfl (by intro vs w hE hP; have H := H.ext hE; first | exact dvQ | fail) ?_)
  refine Wc.loopE (fun s0 m s w' => ∃ i : Nat, m = l.length + 1 - i ∧ 1 ≤ i ∧ i ≤ l.length + 1 ∧ Agree [2, 3, 4, 5, 6, 7, 8, 9, 10, 11, 12, 13, 14, 15, 16, 17, 18, 19, 20, 21, 22] s s0 ∧ s 3 = .int .i64 i ∧ (∀ j (h : j + 1 < l.length), j + 1 < i → keyN (l[j]'(by omega)).key < keyN l[j + 1].key) ∧
    St w [] h0 h0 [] w') l.length ⟨1, rfl, by omega, by omega, Agree.refl _ _, rfl, fun j h hj => absurd hj (by omega), H⟩ ?_
  clear H
  rintro m s w' ⟨i, rfl, h1, h2, hA, e1, hsrt, H⟩
  obtain ⟨j, rfl⟩ := hA.env1 e1
  clear hA e1
  by_cases hlt : i < l.length
  · obtain ⟨b, off, L9, T, fr, e1, eb, eg⟩ := hN.getM (by decide) (Nat.lt_of_le_of_lt (Nat.zero_le _) hlt)
    subst e1
    have g1 : (L9.drop (off + ((i : Int) - 1).toNat * 5 + 0)).take 3 = cKey l[i - 1].key := row_part (eg ((i : Int) - 1).toNat (i - 1) (by omega) (by omega)) (q := 0) (n := 3) (by omega)
    have g2 : (L9.drop (off + (i : Int).toNat * 5 + 0)).take 3 = cKey l[i].key := row_part (eg (i : Int).toNat i hlt (by omega)) (q := 0) (n := 3) (by omega)
    have hq : lessK l[i - 1].key l[i].key = true ↔ keyN l[i - 1].key < keyN l[i].key := by simp [lessK]
    have l1 := cKey_len l[i - 1].key
    have l2 := cKey_len l[i].key
    have hyes : lessK l[i - 1].key l[i].key = true → ∀ j (h : j + 1 < l.length), j + 1 < i + 1 → keyN (l[j]'(by omega)).key < keyN l[j + 1].key := fun hlq j h hj => by
      by_cases hji : j + 1 < i
      · exact hsrt j h hji
      · obtain rfl : j + 1 = i := by omega
        exact hq.1 hlq
    have hnot : lessK l[i - 1].key l[i].key = false → riseL l = false := fun hlq => riseL_no.2 fun h => by
      have h3 := h (i - 1) (by omega)
      have e9 : (l[i - 1 + 1]'(by omega)) = l[i] := by congr 1; omega
      rw [e9] at h3
      rw [hq.2 h3] at hlq; cases hlq
    clear hq hsrt
    generalize l[i - 1].key = k1 at *
    generalize l[i].key = k2 at *
    cases hlq : lessK k1 k2 with
    | true =>
      have c1 : ∀ w, SpecV Tryd.prog 43 #[.agg (cKey k1).toArray, .agg (cKey k2).toArray] w (.bool true) := fun w => by
        have := page_Less k1 k2 w; rw [hlq] at this; exact this
      repeat' (first | ((first | refine WL.p rfl ?_ | refine WL.u ?_); first | (refine opk 1 rfl ?_; (refine ost_V H rfl (c1 _) rfl ?_; clear H; intro wk H)) | refine pvQ ?_ | (refine opk 3 rfl ?_; (refine ost_cmp rfl rfl rfl rfl (fun hc => ?_) (fun hc => ?_) <;> (simp only [cmpP] at hc; try exact prIQ))) | (refine opk 4 rfl ?_; (refine ost_cmp rfl rfl rfl rfl (fun hc => ?_) (fun hc => ?_) <;> (simp only [cmpP] at hc; try exact prIQ)))) | refine Wc.seq ?_ | refine then_n ?_ | refine WL.nil ?_ | refine Wc.region ?_ | refine Wc.block ?_ | refine then_r ?_ | refine then_e ?_ | refine inb_e rfl ?_ | refine inb_o rfl ?_ | refine inb_n ?_ | refine inb_r ?_ | refine Wc.skip ?_ | refine Wc.exit ?_ | refine Wc.ret ?_ | refine Wc.cond_true rfl ?_ | refine Wc.cond_false rfl ?_ | (refine Wc.drawn (id := 4) 11 (by kernel_rfl) ?_) | (refine rgs_nil ?_; intro vs wk hE; replace H := H.ext hE; clear hE) | (refine RGs.bq (fun _ => rfl) rfl (by intro vs w hE hP; have H := H.ext hE; first | exact dbQ | fail) (fun hc => ?_) (fun hc => ?_) <;> ((try simp only [cmpP, decide_eq_true_eq, decide_eq_false_iff_not, dcd_iff, dcd_no] at hc); try exact prDQ)) | refine RGs.pq (fun _ => rfl) rfl (by intro vs w hE hP; have H := H.ext hE; first | (refine opk 1 rfl ?_; (exact ost_V0d rfl (c1 _) rfl)) | exact dvQ | fail) ?_)
      exact ⟨l.length + 1 - (i + 1), by omega, i + 1, rfl, by omega, by omega, by (repeat' (first | exact Agree.refl _ _ | exact Agree.havoc | refine Agree.upd rfl ?_ | refine Agree.hav2 rfl ?_)), rfl, hyes hlq, H⟩
    | false =>
      have c1 : ∀ w, SpecV Tryd.prog 43 #[.agg (cKey k1).toArray, .agg (cKey k2).toArray] w (.bool false) := fun w => by
        have := page_Less k1 k2 w; rw [hlq] at this; exact this
      repeat' (first | ((first | refine WL.p rfl ?_ | refine WL.u ?_); first | (refine opk 1 rfl ?_; (refine ost_V H rfl (c1 _) rfl ?_; clear H; intro wk H)) | refine pvQ ?_ | (refine opk 3 rfl ?_; (refine ost_cmp rfl rfl rfl rfl (fun hc => ?_) (fun hc => ?_) <;> (simp only [cmpP] at hc; try exact prIQ))) | (refine opk 4 rfl ?_; (refine ost_cmp rfl rfl rfl rfl (fun hc => ?_) (fun hc => ?_) <;> (simp only [cmpP] at hc; try exact prIQ)))) | refine Wc.seq ?_ | refine then_n ?_ | refine WL.nil ?_ | refine Wc.region ?_ | refine Wc.block ?_ | refine then_r ?_ | refine then_e ?_ | refine inb_e rfl ?_ | refine inb_o rfl ?_ | refine inb_n ?_ | refine inb_r ?_ | refine Wc.skip ?_ | refine Wc.exit ?_ | refine Wc.ret ?_ | refine Wc.cond_true rfl ?_ | refine Wc.cond_false rfl ?_ | (refine Wc.drawn (id := 4) 11 (by kernel_rfl) ?_) | (refine rgs_nil ?_; intro vs wk hE; replace H := H.ext hE; clear hE) | (refine RGs.bq (fun _ => rfl) rfl (by intro vs w hE hP; have H := H.ext hE; first | exact dbQ | fail) (fun hc => ?_) (fun hc => ?_) <;> ((try simp only [cmpP, decide_eq_true_eq, decide_eq_false_iff_not, dcd_iff, dcd_no] at hc); try exact prDQ)) | refine RGs.pq (fun _ => rfl) rfl (by intro vs w hE hP; have H := H.ext hE; first | (refine opk 1 rfl ?_; (exact ost_V0d rfl (c1 _) rfl)) | exact dvQ | fail) ?_)
      (first | refine fn_ret1 (v := .bool _) rfl rfl ⟨?_, H.fr⟩ | refine fn_ret1 (v := .int _ _) rfl rfl ⟨?_, H.fr⟩ | refine fn_ret1 (v := .string _) rfl rfl ⟨?_, H.fr⟩); congr 1; exact (hnot hlq).symm
  · repeat' (first | ((first | refine WL.p rfl ?_ | refine WL.u ?_); first | refine pvQ ?_ | (refine opk 3 rfl ?_; (refine ost_cmp rfl rfl rfl rfl (fun hc => ?_) (fun hc => ?_) <;> (simp only [cmpP] at hc; try exact prIQ))) | (refine opk 4 rfl ?_; (refine ost_cmp rfl rfl rfl rfl (fun hc => ?_) (fun hc => ?_) <;> (simp only [cmpP] at hc; try exact prIQ)))) | refine Wc.seq ?_ | refine then_n ?_ | refine WL.nil ?_ | refine Wc.region ?_ | refine Wc.block ?_ | refine then_r ?_ | refine then_e ?_ | refine inb_e rfl ?_ | refine inb_o rfl ?_ | refine inb_n ?_ | refine inb_r ?_ | refine Wc.skip ?_ | refine Wc.exit ?_ | refine Wc.ret ?_ | refine Wc.cond_true rfl ?_ | refine Wc.cond_false rfl ?_ | (refine Wc.drawn (id := 4) 11 (by kernel_rfl) ?_) | (refine rgs_nil ?_; intro vs wk hE; replace H := H.ext hE; clear hE) | (refine RGs.bq (fun _ => rfl) rfl (by intro vs w hE hP; have H := H.ext hE; first | exact dbQ | fail) (fun hc => ?_) (fun hc => ?_) <;> ((try simp only [cmpP, decide_eq_true_eq, decide_eq_false_iff_not, dcd_iff, dcd_no] at hc); try exact prDQ)) | refine RGs.pq (fun _ => rfl) rfl (by intro vs w hE hP; have H := H.ext hE; first | exact dvQ | fail) ?_)
    (first | refine fn_ret1 (v := .bool _) rfl rfl ⟨?_, H.fr⟩ | refine fn_ret1 (v := .int _ _) rfl rfl ⟨?_, H.fr⟩ | refine fn_ret1 (v := .string _) rfl rfl ⟨?_, H.fr⟩); congr 1; exact (riseL_iff.2 fun j h => hsrt j h (by omega)).symm
end Go.Tg

