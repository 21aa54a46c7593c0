/- Contracts of Go functions that the laws reach: what each call answers and leaves in memory, for all arguments within the bounds that each theorem names. -/
import Derived.Test.YtajfhoeejeadkaaDoorInst
import Derived.Test.YtajfhoeejeadkaaDoorAuto
import Derived.Test.YtajfhoeejeadkaaDoorMov
import Derived.Test.YtajfhoeejeadkaaDoorW2
import Derived.Test.YtajfhoeejeadkaaDoorChecked
import Derived.Test.YtajfhoeejeadkaaDoorRows
import Derived.Test.YtajfhoeejeadkaaDoorLift
import Derived.Test.YtajfhoeejeadkaaDoorArgs
set_option linter.unusedVariables false
set_option linter.unusedSimpArgs false
set_option maxRecDepth 100000
set_option maxHeartbeats 4000000
namespace Go.Tg
open Go Go.Proofs
def allE (made : Bool) (e : Int) (xs : List UInt8) : List UInt8 × Int := if made = true ∧ e = 0 then (xs, 0) else ([], if made then e else 1)
theorem pack_AllO (b : Nat) (made : Bool) (e : Int) (v : Value) (xs : List UInt8) (g : FH) (w : World) (HO : St w (wr b made e v xs).fp g g [wr b made e v xs] w) (hx : xs.length ≤ 65536) :
    Spec Tryd.prog 66 #[pt b] w (wr b made e v xs).fp g (fun v' h' L' => ∃ a' c', v' = .tuple #[.slice a' (allE made e xs).1.length c', .int .i64 (allE made e xs).2] ∧ h' = g ∧ L' = [own8 (.slice a' (allE made e xs).1.length c') 5 (allE made e xs).1, wr b made e v xs]) := by
  have H := HO.split
  obtain ⟨av, cv, rfl, -⟩ := H.own8BS (i := 1) rfl
  unfold Spec
  refine calls_of Tryd.func66 rfl Tryd.ntmps66 (by simp) ?_
  cases made
  · repeat' (first | ((first | refine WL.p rfl ?_ | refine WL.u ?_ | refine WL.g rfl rfl ?_ | refine WL.gu rfl ?_); first | refine pvQ ?_ | (refine opk 3 rfl ?_; first | (refine ost_cmp rfl rfl rfl rfl (fun hc => ?_) (fun hc => ?_) <;> (simp only [cmpP] at hc; try exact prIQ)) | (refine ost_ptEq rfl rfl rfl (fun hc => ?_) (fun hc => ?_) <;> try (simp at hc; done)) | (refine ost_ptNe rfl rfl rfl (fun hc => ?_) (fun hc => ?_) <;> try (simp at hc; done))) | (refine opk 4 rfl ?_; (refine ost_cmp rfl rfl rfl rfl (fun hc => ?_) (fun hc => ?_) <;> (simp only [cmpP] at hc; try exact prIQ)))) | refine Wc.seq ?_ | refine then_n ?_ | refine WL.nil ?_ | refine Wc.region ?_ | refine Wc.block ?_ | refine then_r ?_ | refine then_e ?_ | refine inb_e rfl ?_ | refine inb_o rfl ?_ | refine inb_n ?_ | refine inb_r ?_ | refine Wc.skip ?_ | refine Wc.exit ?_ | refine Wc.ret ?_ | refine Wc.cond_true rfl ?_ | refine Wc.cond_false rfl ?_ | (refine Wc.drawn (id := 4) 6 (by kernel_rfl) ?_) | refine WL.skp rfl rfl ?_ | refine WL.sku rfl ?_ | (refine rgs_nil ?_; intro vs wk hE; replace H := H.ext hE; clear hE) | refine RGs.skp (fun _ => rfl) rfl ?_ | (refine RGs.bq (fun _ => rfl) rfl (by intro vs w hE hP; have H := H.ext hE; first | exact dbQ | fail) (fun hc => ?_) (fun hc => ?_) <;> ((try simp only [cmpP, decide_eq_true_eq, decide_eq_false_iff_not, dcd_iff, dcd_no] at hc); try exact prDQ)) | refine RGs.pq (fun _ => rfl) rfl (by intro vs w hE hP; have H := H.ext hE; first | exact dvQ | fail) ?_)
    exact fn_ret2 (v1 := .slice _ _ _) (v2 := .int _ _) rfl rfl rfl ⟨_, _, HO.nil8 5, _, _, rfl, rfl, rfl⟩
  · by_cases he : e = 0
    · subst he
      have e1 : allE true 0 xs = (xs, 0) := by simp [allE]
      rw [e1]
      repeat' (first | ((first | refine WL.p rfl ?_ | refine WL.u ?_ | refine WL.g rfl rfl ?_ | refine WL.gu rfl ?_); first | (refine opk 1 rfl ?_; (refine ost_C H rfl (clone8 _ _ _ _ _ (sat_full _) (H.own8rd (i := 1) rfl) (by omega)) rfl ?_; clear H; rintro vk wk hfk Lk ⟨a1, c1, rfl, _, rfl⟩ H; simp only [List.cons_append, List.nil_append] at H)) | refine pvQ ?_ | (refine opk 3 rfl ?_; first | (refine ost_cmp rfl rfl rfl rfl (fun hc => ?_) (fun hc => ?_) <;> (simp only [cmpP] at hc; try exact prIQ)) | (refine ost_ptEq rfl rfl rfl (fun hc => ?_) (fun hc => ?_) <;> try (simp at hc; done)) | (refine ost_ptNe rfl rfl rfl (fun hc => ?_) (fun hc => ?_) <;> try (simp at hc; done))) | (refine opk 4 rfl ?_; (refine ost_cmp rfl rfl rfl rfl (fun hc => ?_) (fun hc => ?_) <;> (simp only [cmpP] at hc; try exact prIQ)))) | refine Wc.seq ?_ | refine then_n ?_ | refine WL.nil ?_ | refine Wc.region ?_ | refine Wc.block ?_ | refine then_r ?_ | refine then_e ?_ | refine inb_e rfl ?_ | refine inb_o rfl ?_ | refine inb_n ?_ | refine inb_r ?_ | refine Wc.skip ?_ | refine Wc.exit ?_ | refine Wc.ret ?_ | refine Wc.cond_true rfl ?_ | refine Wc.cond_false rfl ?_ | (refine Wc.drawn (id := 4) 6 (by kernel_rfl) ?_) | refine WL.skp rfl rfl ?_ | refine WL.sku rfl ?_ | (refine rgs_nil ?_; intro vs wk hE; replace H := H.ext hE; clear hE) | refine RGs.skp (fun _ => rfl) rfl ?_ | (refine RGs.bq (fun _ => rfl) rfl (by intro vs w hE hP; have H := H.ext hE; first | exact dbQ | fail) (fun hc => ?_) (fun hc => ?_) <;> ((try simp only [cmpP, decide_eq_true_eq, decide_eq_false_iff_not, dcd_iff, dcd_no] at hc); try exact prDQ)) | refine RGs.pq (fun _ => rfl) rfl (by intro vs w hE hP; have H := H.ext hE; first | exact dvQ | fail) ?_)
      exact fn_ret2 (v1 := .slice _ _ _) (v2 := .int _ _) rfl rfl rfl ⟨_, _, ((H.front 2 rfl).front 2 rfl).join.front 1 rfl, _, _, rfl, rfl, rfl⟩
    · have e1 : allE true e xs = ([], e) := by simp [allE, he]
      rw [e1]
      repeat' (first | ((first | refine WL.p rfl ?_ | refine WL.u ?_ | refine WL.g rfl rfl ?_ | refine WL.gu rfl ?_); first | refine pvQ ?_ | (refine opk 3 rfl ?_; first | (refine ost_cmp rfl rfl rfl rfl (fun hc => ?_) (fun hc => ?_) <;> (simp only [cmpP] at hc; try exact prIQ)) | (refine ost_ptEq rfl rfl rfl (fun hc => ?_) (fun hc => ?_) <;> try (simp at hc; done)) | (refine ost_ptNe rfl rfl rfl (fun hc => ?_) (fun hc => ?_) <;> try (simp at hc; done))) | (refine opk 4 rfl ?_; (refine ost_cmp rfl rfl rfl rfl (fun hc => ?_) (fun hc => ?_) <;> (simp only [cmpP] at hc; try exact prIQ)))) | refine Wc.seq ?_ | refine then_n ?_ | refine WL.nil ?_ | refine Wc.region ?_ | refine Wc.block ?_ | refine then_r ?_ | refine then_e ?_ | refine inb_e rfl ?_ | refine inb_o rfl ?_ | refine inb_n ?_ | refine inb_r ?_ | refine Wc.skip ?_ | refine Wc.exit ?_ | refine Wc.ret ?_ | refine Wc.cond_true rfl ?_ | refine Wc.cond_false rfl ?_ | (refine Wc.drawn (id := 4) 6 (by kernel_rfl) ?_) | refine WL.skp rfl rfl ?_ | refine WL.sku rfl ?_ | (refine rgs_nil ?_; intro vs wk hE; replace H := H.ext hE; clear hE) | refine RGs.skp (fun _ => rfl) rfl ?_ | (refine RGs.bq (fun _ => rfl) rfl (by intro vs w hE hP; have H := H.ext hE; first | exact dbQ | fail) (fun hc => ?_) (fun hc => ?_) <;> ((try simp only [cmpP, decide_eq_true_eq, decide_eq_false_iff_not, dcd_iff, dcd_no] at hc); try exact prDQ)) | refine RGs.pq (fun _ => rfl) rfl (by intro vs w hE hP; have H := H.ext hE; first | exact dvQ | fail) ?_)
      exact fn_ret2 (v1 := .slice _ _ _) (v2 := .int _ _) rfl rfl rfl ⟨_, _, H.join.nil8 5, _, _, rfl, rfl, rfl⟩
end Go.Tg

set_option linter.unusedVariables false
set_option maxRecDepth 100000
namespace Go.Tg
open Go Go.Proofs
theorem own_ : ownKnob Tryd.prog.godebug = none := by kernel_rfl
theorem laid_ : laidOutB Tryd.prog = true := by kernel_rfl
end Go.Tg

set_option linter.unusedVariables false
set_option linter.unusedSimpArgs false
set_option maxRecDepth 100000
set_option maxHeartbeats 4000000
namespace Go.Tg
open Go Go.Proofs
structure ActT where
  k : Nat
  n : Nat
  bs : List UInt8
  hk : k < 256
  hn : n < 18446744073709551616
structure ActR (h : FH) (row : List Value) (x : ActT) : Prop where
  row : ∃ a c, row = [.int .u8 x.k, .int .u64 x.n, .slice a x.bs.length c] ∧ BS h a c x.bs
structure ActsR (h : FH) (a : Option Addr) (c : Nat) (acts : List ActT) : Prop where
  row : ∃ rows, Sl h 3 a c rows ∧ rows.length = acts.length ∧ ∀ i (h1 : i < rows.length) (h2 : i < acts.length), ActR h rows[i] acts[i]
theorem ActsR.get {h : FH} {a : Option Addr} {c : Nat} {acts : List ActT} (r : ActsR h a c acts) {i : Nat} (hi : i < acts.length) :
    ∃ b off l T fr a' c', a = some ⟨b, off, none⟩ ∧ h b = some (.cells (List.toArray l) T fr) ∧ l[off + (i : Int).toNat * 3 + 0]? = some (.int .u8 acts[i].k) ∧ l[off + (i : Int).toNat * 3 + 1]? = some (.int .u64 acts[i].n) ∧ l[off + (i : Int).toNat * 3 + 2]? = some (.slice a' acts[i].bs.length c') ∧
      (l.drop (off + (i : Int).toNat * 3)).take 3 = [.int .u8 acts[i].k, .int .u64 acts[i].n, .slice a' acts[i].bs.length c'] ∧ BS h a' c' acts[i].bs := by
  obtain ⟨rows, hS, hl, hR⟩ := r.row
  have hi' : i < rows.length := by omega
  obtain ⟨b, off, l, T, fr, h1, h2, h3⟩ := hS.get (by decide) hi'
  obtain ⟨a', c', h4, h5⟩ := (hR i hi' hi).row
  have h6 := h3 i hi'
  rw [h4] at h6
  have e : (i : Int).toNat = i := by omega
  rw [e]
  exact ⟨b, off, l, T, fr, a', c', h1, h2, row_cell h6 (q := 0) (by simp), row_cell h6 (q := 1) (by simp), row_cell h6 (q := 2) (by simp), h6, h5⟩
section
variable {H : Type} {enc : TypeId × Value → H} {W : World} {sp : Nat → Bool}
end
theorem val_of1 {v : Value} {a : Option Addr} {n c : Nat} (e : v.cells.toList = [.slice a n c]) (h : ∃ a n c, v = .slice a n c) : v = .slice a n c := by
  obtain ⟨a', n', c', rfl⟩ := h
  simp [Value.cells] at e
  obtain ⟨rfl, rfl, rfl⟩ := e; rfl
theorem pack_All0 (b : Nat) (e : Int) (v : Value) (xs : List UInt8) (g : FH) (w : World) (HO : St w (wr b true e v xs).fp g g [wr b true e v xs] w) (hx : xs.length ≤ 65536) (he : e = 0) :
    Spec Tryd.prog 66 #[pt b] w (wr b true e v xs).fp g (fun v' h' L' => ∃ a' c', v' = .tuple #[.slice a' xs.length c', .int .i64 0] ∧ h' = g ∧ L' = [own8 (.slice a' xs.length c') 5 xs, wr b true e v xs]) := by
  have := pack_AllO b true e v xs g w HO hx
  rw [show allE true e xs = (xs, 0) by simp [allE, he]] at this; exact this
theorem val_ofA {v : Value} {row : List Value} {n : Nat} (e : v.cells.toList = row) (h : ∃ cs, v = .agg cs ∧ cs.size = n) : v = .agg row.toArray := by
  obtain ⟨cs, rfl, _⟩ := h
  simp only [Value.cells] at e
  rw [← e]
end Go.Tg

