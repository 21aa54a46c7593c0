/- Contracts of Go functions that the laws reach: what each call answers and leaves in memory, for all arguments within the bounds that each theorem names. -/
import Derived.Test.YtajfhoeejeadkaaInst
import Derived.Test.YtajfhoeejeadkaaAuto
import Derived.Test.YtajfhoeejeadkaaLZ
import Derived.Test.YtajfhoeejeadkaaArgs
import Derived.Test.YtajfhoeejeadkaaLift
set_option linter.unusedVariables false
set_option linter.unusedSimpArgs false
set_option maxRecDepth 100000
set_option maxHeartbeats 4000000
namespace Go.Tg
open Go Go.Proofs
structure AcT where
  kd : UInt8
  k : LkT
  n : Int
  how : Int
  at_ : UInt16
  by_ : UInt8
  v : Value
  b : List UInt8
def acL (x : AcT) : List Value := [.int .u8 x.kd.toNat, .int .u8 x.k.1.toNat, .int .u8 x.k.2.toNat, .int .i64 x.n, .int .i64 x.how, .int .u16 x.at_.toNat, .int .u8 x.by_.toNat, x.v]
def AcV (h : FH) (x : AcT) : Prop := BSv h x.v x.b ∧ -9223372036854775808 ≤ x.n ∧ x.n ≤ 9223372036854775807
section
variable {H : Type} {enc : TypeId × Value → H} {W : World} {sp : Nat → Bool}
theorem val_ofA {v : Value} {row : List Value} {n : Nat} (e : v.cells.toList = row) (h : ∃ cs, v = .agg cs ∧ cs.size = n) : v = .agg row.toArray := by
  obtain ⟨cs, rfl, _⟩ := h
  simp only [Value.cells] at e
  rw [← e]
theorem u8_of {n : Nat} (h : inK .u8 n) : ∃ x : UInt8, x.toNat = n := ⟨UInt8.ofNat n, by simp only [inK] at h; simp; omega⟩
theorem u16_of {n : Nat} (h : inK .u16 n) : ∃ x : UInt16, x.toNat = n := ⟨UInt16.ofNat n, by simp only [inK] at h; simp; omega⟩
theorem ac21_of {row : List Value} (h : Td enc Try.prog W sp 33 row) : ∃ x : AcT, row = acL x ∧ AcV (full W) x := by
  obtain ⟨hl, hf⟩ := h.struct (fs := [{ name := "Kind", type := 5, offset := 0, embedded := false, tag := "", pkgPath := "", byteOffset := 0 }, { name := "From", type := 5, offset := 1, embedded := false, tag := "", pkgPath := "", byteOffset := 1 }, { name := "To", type := 5, offset := 2, embedded := false, tag := "", pkgPath := "", byteOffset := 2 }, { name := "N", type := 3, offset := 3, embedded := false, tag := "", pkgPath := "", byteOffset := 8 }, { name := "How", type := 3, offset := 4, embedded := false, tag := "", pkgPath := "", byteOffset := 16 }, { name := "At", type := 30, offset := 5, embedded := false, tag := "", pkgPath := "", byteOffset := 24 }, { name := "By", type := 5, offset := 6, embedded := false, tag := "", pkgPath := "", byteOffset := 26 }, { name := "B", type := 31, offset := 7, embedded := false, tag := "", pkgPath := "", byteOffset := 32 }]) Try.underlying33
  rw [show Program.cellsOf Try.prog 33 = 8 from by kernel_rfl] at hl
  match row, hl with
  | [v0, v1, v2, v3, v4, v5, v6, v7], _ =>
    have m := @List.mem_cons_of_mem Field
    have z := fun (a : Field) (l : List Field) => List.mem_cons_self (a := a) (l := l)
    have h0 := hf _ (z _ _)
    have h1 := hf _ (m _ (z _ _))
    have h2 := hf _ (m _ (m _ (z _ _)))
    have h3 := hf _ (m _ (m _ (m _ (z _ _))))
    have h4 := hf _ (m _ (m _ (m _ (m _ (z _ _)))))
    have h5 := hf _ (m _ (m _ (m _ (m _ (m _ (z _ _))))))
    have h6 := hf _ (m _ (m _ (m _ (m _ (m _ (m _ (z _ _)))))))
    have h7 := hf _ (m _ (m _ (m _ (m _ (m _ (m _ (m _ (z _ _))))))))
    rw [show Program.cellsOf Try.prog _ = 1 from by kernel_rfl] at h0 h1 h2 h3 h4 h5 h6 h7
    obtain ⟨n0, e0, k0⟩ := h0.nat Try.underlying5 rfl
    obtain ⟨n1, e1, k1⟩ := h1.nat Try.underlying5 rfl
    obtain ⟨n2, e2, k2⟩ := h2.nat Try.underlying5 rfl
    obtain ⟨n3, e3, k3⟩ := h3.int Try.underlying3
    obtain ⟨n4, e4, k4⟩ := h4.int Try.underlying3
    obtain ⟨n5, e5, k5⟩ := h5.nat Try.underlying30 rfl
    obtain ⟨n6, e6, k6⟩ := h6.nat Try.underlying5 rfl
    obtain ⟨a, c, bs, e7, hr⟩ := h7.bytes Try.underlying31 Try.underlying5 (by kernel_rfl)
    simp at e0 e1 e2 e3 e4 e5 e6 e7
    subst e0; subst e1; subst e2; subst e3; subst e4; subst e5; subst e6; subst e7
    obtain ⟨x0, rfl⟩ := u8_of k0
    obtain ⟨x1, rfl⟩ := u8_of k1
    obtain ⟨x2, rfl⟩ := u8_of k2
    obtain ⟨x5, rfl⟩ := u16_of k5
    obtain ⟨x6, rfl⟩ := u8_of k6
    simp only [inK] at k3
    exact ⟨⟨x0, (x1, x2), n3, n4, x5, x6, .slice a bs.length c, bs⟩, rfl, ⟨a, c, rfl, hr⟩, by show _ ≤ n3; omega, by show n3 ≤ _; omega⟩
end
end Go.Tg

set_option linter.unusedVariables false
set_option linter.unusedSimpArgs false
set_option maxRecDepth 100000
set_option maxHeartbeats 8000000
namespace Go.Tg
open Go Go.Proofs
structure NoPo (h : FH) (v : Value) : Prop where
  is : v = .pointer none ∨ ∃ pb, v = pt pb ∧ h pb = some (.cells [.int .i64 0, .int .i64 0, .int .i64 0, .map none].toArray 57 (0, 0))
theorem NoPo.mono {h h' : FH} {v : Value} (hle : FLe h h') (r : NoPo h v) : NoPo h' v := ⟨r.is.imp id fun ⟨pb, e, h1⟩ => ⟨pb, e, hle _ _ h1⟩⟩
theorem no_fault {h : FH} {p : Value} (hp : NoPo h p) (k : LkT) (w : World) (hs : Sat h w) : SpecV Try.prog 20 #[p, .agg (lkL k).toArray] w (.int .i64 1) := by
  rcases hp.is with rfl | ⟨pb, rfl, hb⟩
  · exact po_faultNil k w
  · exact po_faultZ pb k h w hs hb
theorem no_Len {h : FH} {p : Value} (hp : NoPo h p) (w : World) (hs : Sat h w) : SpecV Try.prog 16 #[p] w (.int .i64 0) := by
  rcases hp.is with rfl | ⟨pb, rfl, hb⟩
  · exact po_LenNil w
  · exact po_LenL pb _ _ _ 0 h w hs hb
theorem no_Arrive {h0 : FH} {p : Value} (hp : NoPo h0 p) (k : LkT) (q : Int) (w : World) (hs : Sat h0 w) : Spec Try.prog 10 #[p, .int .u8 k.1.toNat, .int .u8 k.2.toNat, .int .i64 q] w [] h0 (fun v h' L' => h' = h0 ∧ v = .tuple #[.agg zeroL.toArray, .int .i64 1] ∧ L' = []) := by
  have H := St.start hs
  have lz : zeroL.length = 3 := rfl
  have hf := fun w hs => no_fault hp k w hs
  have hpp : ∃ ao, p = .pointer ao := by
    rcases hp.is with rfl | ⟨pb, rfl, hb⟩
    · exact ⟨_, rfl⟩
    · exact ⟨_, rfl⟩
  obtain ⟨ao, rfl⟩ := hpp
  unfold Spec
  refine calls_of Try.func10 rfl Try.ntmps10 (by simp) ?_
  repeat' (first | ((first | refine WL.p rfl ?_ | refine WL.u ?_); first | (refine opk 1 rfl ?_; (refine ost_V H rfl (hf _ H.sat) rfl ?_; clear H; intro wk H)) | refine pvQ ?_ | (refine opk 3 rfl ?_; (refine ost_cmp rfl rfl rfl rfl (fun hc => ?_) (fun hc => ?_) <;> (simp only [cmpP] at hc; try exact prIQ))) | (refine opk 4 rfl ?_; (refine ost_cmp rfl rfl rfl rfl (fun hc => ?_) (fun hc => ?_) <;> (simp only [cmpP] at hc; try exact prIQ))) | (refine opk 8 rfl ?_; (refine ost_storeW H rfl rfl rfl rfl lQ ixQ lQ okQ ?_; clear H; intro wk H; simp only [List.set_cons_zero, List.set_cons_succ, Nat.reduceAdd] at H)) | (refine opk 9 rfl ?_; (refine ost_allocA H rfl ?_; clear H; intro bk wk H))) | refine Wc.seq ?_ | refine then_n ?_ | refine WL.nil ?_ | refine Wc.region ?_ | refine Wc.block ?_ | refine then_r ?_ | refine then_e ?_ | refine inb_e rfl ?_ | refine inb_o rfl ?_ | refine inb_n ?_ | refine inb_r ?_ | refine Wc.skip ?_ | refine Wc.exit ?_ | refine Wc.ret ?_ | refine Wc.cond_true rfl ?_ | refine Wc.cond_false rfl ?_)
  exact fn_ret2 (v2 := .int _ _) rfl (rv_cellA rfl rfl H.bI lQ) rfl ⟨_, _, H.picks (L' := []) [] rfl (by decide), rfl, rfl, rfl⟩
theorem no_Send {h0 : FH} {p : Value} (hp : NoPo h0 p) (k : LkT) (v : Value) (hv : v.oneCell' = true) (w : World) (hs : Sat h0 w) : SpecV Try.prog 15 #[p, .agg (ltL k v).toArray] w (.int .i64 1) := by
  have H := St.start hs
  have hf := fun w hs => no_fault hp k w hs
  have q0 : (ltL k v)[0 + 0]? = some (.int .u8 k.1.toNat) := rfl
  have q1 : (ltL k v)[0 + 1]? = some (.int .u8 k.2.toNat) := rfl
  have q2 : (ltL k v)[0 + 2]? = some v := rfl
  have lk2 : (lkL k).length = 2 := rfl
  have hpp : ∃ ao, p = .pointer ao := by
    rcases hp.is with rfl | ⟨pb, rfl, hb⟩
    · exact ⟨_, rfl⟩
    · exact ⟨_, rfl⟩
  obtain ⟨ao, rfl⟩ := hpp
  unfold SpecV
  refine calls_of Try.func15 rfl Try.ntmps15 (by simp) ?_
  repeat' (first | ((first | refine WL.p rfl ?_ | refine WL.u ?_); first | (refine opk 1 rfl ?_; (refine ost_V H rfl (hf _ H.sat) rfl ?_; clear H; intro wk H)) | refine pvQ ?_ | (refine opk 3 rfl ?_; (refine ost_cmp rfl rfl rfl rfl (fun hc => ?_) (fun hc => ?_) <;> (simp only [cmpP] at hc; try exact prIQ))) | (refine opk 4 rfl ?_; (refine ost_cmp rfl rfl rfl rfl (fun hc => ?_) (fun hc => ?_) <;> (simp only [cmpP] at hc; try exact prIQ))) | (refine opk 8 rfl ?_; first | (refine ost_store1 H rfl rfl vlQ gvQ ixQ (by first | decide | (simp; omega) | (simp; done) | omega) ?_; clear H; intro wk H; simp only [List.set_cons_zero, List.set_cons_succ, Nat.reduceAdd] at H) | (refine ost_storeW H rfl rfl rfl rfl lQ ixQ lQ okQ ?_; clear H; intro wk H; simp only [List.set_cons_zero, List.set_cons_succ, Nat.reduceAdd] at H)) | (refine opk 9 rfl ?_; first | (refine ost_boxq H rfl ?_; clear H; intro bk wk H) | (refine ost_allocA H rfl ?_; clear H; intro bk wk H) | (refine ost_build1 H rfl rfl rfl evQ lsQ rfl ?_; clear H; intro bk wk H))) | refine Wc.seq ?_ | refine then_n ?_ | refine WL.nil ?_ | refine Wc.region ?_ | refine Wc.block ?_ | refine then_r ?_ | refine then_e ?_ | refine inb_e rfl ?_ | refine inb_o rfl ?_ | refine inb_n ?_ | refine inb_r ?_ | refine Wc.skip ?_ | refine Wc.exit ?_ | refine Wc.ret ?_ | refine Wc.cond_true rfl ?_ | refine Wc.cond_false rfl ?_ | (refine Wc.drawn (id := 7) 8 (by kernel_rfl) ?_) | (refine Wc.drawn (id := 9) 13 (by kernel_rfl) ?_) | (refine rgs_nil ?_; intro vs wk hE; replace H := H.ext hE; clear hE) | (refine RGs.bq (fun _ => rfl) rfl (by intro vs w hE hP; have H := H.ext hE; first | exact dbQ | fail) (fun hc => ?_) (fun hc => ?_) <;> ((try simp only [cmpP, decide_eq_true_eq, decide_eq_false_iff_not, dcd_iff, dcd_no] at hc); try exact prDQ)) | refine RGs.pq (fun _ => rfl) rfl (by intro vs w hE hP; have H := H.ext hE; first | exact dvQ | fail) ?_)
  (first | refine fn_ret1 (v := .bool _) rfl rfl ⟨?_, H.fr⟩ | refine fn_ret1 (v := .int _ _) rfl rfl ⟨?_, H.fr⟩ | refine fn_ret1 (v := .string _) rfl rfl ⟨?_, H.fr⟩); rfl
theorem no_Harm {h0 : FH} {p : Value} (hp : NoPo h0 p) (k : LkT) (q kind : Int) (at_ : UInt16) (by_ : UInt8) (w : World) (hs : Sat h0 w) : SpecV Try.prog 13 #[p, .int .u8 k.1.toNat, .int .u8 k.2.toNat, .int .i64 q, .agg (hmL kind at_ by_).toArray] w (.int .i64 1) := by
  have H := St.start hs
  have hf := fun w hs => no_fault hp k w hs
  have q0 : (hmL kind at_ by_)[0 + 0]? = some (.int .i64 kind) := rfl
  have lk2 : (lkL k).length = 2 := rfl
  have hpp : ∃ ao, p = .pointer ao := by
    rcases hp.is with rfl | ⟨pb, rfl, hb⟩
    · exact ⟨_, rfl⟩
    · exact ⟨_, rfl⟩
  obtain ⟨ao, rfl⟩ := hpp
  unfold SpecV
  refine calls_of Try.func13 rfl Try.ntmps13 (by simp) ?_
  repeat' (first | ((first | refine WL.p rfl ?_ | refine WL.u ?_ | refine WL.g rfl rfl ?_ | refine WL.gu rfl ?_); first | (refine opk 1 rfl ?_; (refine ost_V H rfl (hf _ H.sat) rfl ?_; clear H; intro wk H)) | refine pvQ ?_ | (refine opk 3 rfl ?_; (refine ost_cmp rfl rfl rfl rfl (fun hc => ?_) (fun hc => ?_) <;> (simp only [cmpP] at hc; try exact prIQ))) | (refine opk 4 rfl ?_; (refine ost_cmp rfl rfl rfl rfl (fun hc => ?_) (fun hc => ?_) <;> (simp only [cmpP] at hc; try exact prIQ))) | (refine opk 8 rfl ?_; first | (refine ost_store1 H rfl rfl vlQ gvQ ixQ (by first | decide | (simp; omega) | (simp; done) | omega) ?_; clear H; intro wk H; simp only [List.set_cons_zero, List.set_cons_succ, Nat.reduceAdd] at H) | (refine ost_storeW H rfl rfl rfl rfl lQ ixQ lQ okQ ?_; clear H; intro wk H; simp only [List.set_cons_zero, List.set_cons_succ, Nat.reduceAdd] at H)) | (refine opk 9 rfl ?_; first | (refine ost_boxq H rfl ?_; clear H; intro bk wk H) | (refine ost_allocA H rfl ?_; clear H; intro bk wk H) | (refine ost_build1 H rfl rfl rfl evQ lsQ rfl ?_; clear H; intro bk wk H))) | refine Wc.seq ?_ | refine then_n ?_ | refine WL.nil ?_ | refine Wc.region ?_ | refine Wc.block ?_ | refine then_r ?_ | refine then_e ?_ | refine inb_e rfl ?_ | refine inb_o rfl ?_ | refine inb_n ?_ | refine inb_r ?_ | refine Wc.skip ?_ | refine Wc.exit ?_ | refine Wc.ret ?_ | refine Wc.cond_true rfl ?_ | refine Wc.cond_false rfl ?_ | (refine Wc.drawn (id := 7) 5 (by kernel_rfl) ?_) | (refine Wc.drawn (id := 13) 12 (by kernel_rfl) ?_) | (refine Wc.drawn (id := 16) 15 (by kernel_rfl) ?_) | (refine Wc.drawn (id := 19) 17 (by kernel_rfl) ?_) | refine WL.skp rfl rfl ?_ | refine WL.sku rfl ?_ | (refine rgs_nil ?_; intro vs wk hE; replace H := H.ext hE; clear hE) | refine RGs.skp (fun _ => rfl) rfl ?_ | (refine RGs.bq (fun _ => rfl) rfl (by intro vs w hE hP; have H := H.ext hE; first | exact dbQ | fail) (fun hc => ?_) (fun hc => ?_) <;> ((try simp only [cmpP, decide_eq_true_eq, decide_eq_false_iff_not, dcd_iff, dcd_no] at hc); try exact prDQ)) | refine RGs.pq (fun _ => rfl) rfl (by intro vs w hE hP; have H := H.ext hE; first | exact dvQ | fail) ?_)
  (first | refine fn_ret1 (v := .bool _) rfl rfl ⟨?_, H.fr⟩ | refine fn_ret1 (v := .int _ _) rfl rfl ⟨?_, H.fr⟩ | refine fn_ret1 (v := .string _) rfl rfl ⟨?_, H.fr⟩); rfl
theorem no_Waits {h0 : FH} {p : Value} (hp : NoPo h0 p) (k : LkT) (w : World) (hs : Sat h0 w) : SpecV Try.prog 18 #[p, .int .u8 k.1.toNat, .int .u8 k.2.toNat] w (.slice none 0 0) := by
  have H := St.start hs
  have lk2 : (lkL k).length = 2 := rfl
  rcases hp.is with rfl | ⟨pb, rfl, hb⟩
  · unfold SpecV
    refine calls_of Try.func18 rfl Try.ntmps18 (by simp) ?_
    repeat' (first | ((first | refine WL.p rfl ?_ | refine WL.u ?_); first | refine pvQ ?_ | (refine opk 3 rfl ?_; first | (refine ost_cmp rfl rfl rfl rfl (fun hc => ?_) (fun hc => ?_) <;> (simp only [cmpP] at hc; try exact prIQ)) | (refine ost_ptEq rfl rfl rfl (fun hc => ?_) (fun hc => ?_) <;> try (simp at hc; done)) | (refine ost_ptNe rfl rfl rfl (fun hc => ?_) (fun hc => ?_) <;> try (simp at hc; done))) | (refine opk 4 rfl ?_; (refine ost_cmp rfl rfl rfl rfl (fun hc => ?_) (fun hc => ?_) <;> (simp only [cmpP] at hc; try exact prIQ))) | (refine opk 9 rfl ?_; (refine ost_build1 H rfl rfl rfl evQ lsQ rfl ?_; clear H; intro bk wk H))) | refine Wc.seq ?_ | refine then_n ?_ | refine WL.nil ?_ | refine Wc.region ?_ | refine Wc.block ?_ | refine then_r ?_ | refine then_e ?_ | refine inb_e rfl ?_ | refine inb_o rfl ?_ | refine inb_n ?_ | refine inb_r ?_ | refine Wc.skip ?_ | refine Wc.exit ?_ | refine Wc.ret ?_ | refine Wc.cond_true rfl ?_ | refine Wc.cond_false rfl ?_)
    exact fn_ret1 (v := .slice _ _ _) rfl rfl ⟨rfl, H.fr⟩
  · have g3 : [Value.int .i64 0, .int .i64 0, .int .i64 0, .map none][0 + 3]? = some (.map none) := rfl
    unfold SpecV
    refine calls_of Try.func18 rfl Try.ntmps18 (by simp) ?_
    repeat' (first | ((first | refine WL.p rfl ?_ | refine WL.u ?_); first | (refine opk 13 rfl ?_; (refine ost_lookupNil (k := k) rfl rfl rfl ?_)) | refine pvQ ?_ | (refine opk 3 rfl ?_; first | (refine ost_cmp rfl rfl rfl rfl (fun hc => ?_) (fun hc => ?_) <;> (simp only [cmpP] at hc; try exact prIQ)) | (refine ost_ptEq rfl rfl rfl (fun hc => ?_) (fun hc => ?_) <;> try (simp at hc; done)) | (refine ost_ptNe rfl rfl rfl (fun hc => ?_) (fun hc => ?_) <;> try (simp at hc; done))) | (refine opk 4 rfl ?_; (refine ost_cmp rfl rfl rfl rfl (fun hc => ?_) (fun hc => ?_) <;> (simp only [cmpP] at hc; try exact prIQ))) | (refine opk 9 rfl ?_; (refine ost_build1 H rfl rfl rfl evQ lsQ rfl ?_; clear H; intro bk wk H))) | refine Wc.seq ?_ | refine then_n ?_ | refine WL.nil ?_ | refine Wc.region ?_ | refine Wc.block ?_ | refine then_r ?_ | refine then_e ?_ | refine inb_e rfl ?_ | refine inb_o rfl ?_ | refine inb_n ?_ | refine inb_r ?_ | refine Wc.skip ?_ | refine Wc.exit ?_ | refine Wc.ret ?_ | refine Wc.cond_true rfl ?_ | refine Wc.cond_false rfl ?_)
    refine Wc.loopE (fun s0 m s w' => m = 0 ∧ Agree [7, 9, 21, 22, 23, 24, 25, 26, 27, 28, 29, 30] s s0 ∧ s 21 = .int .i64 0 ∧ s 7 = .slice none 0 0 ∧ St w [] h0 h0 [] w') 0 ⟨rfl, Agree.refl _ _, rfl, rfl, H⟩ ?_
    clear H
    rintro m s w' ⟨rfl, hA9, e1, e2, H⟩
    obtain ⟨j, rfl⟩ := hA9.env2 e1 e2
    clear hA9 e1 e2
    repeat' (first | ((first | refine WL.p rfl ?_ | refine WL.u ?_); first | refine pvQ ?_ | (refine opk 3 rfl ?_; first | (refine ost_cmp rfl rfl rfl rfl (fun hc => ?_) (fun hc => ?_) <;> (simp only [cmpP] at hc; try exact prIQ)) | (refine ost_ptEq rfl rfl rfl (fun hc => ?_) (fun hc => ?_) <;> try (simp at hc; done)) | (refine ost_ptNe rfl rfl rfl (fun hc => ?_) (fun hc => ?_) <;> try (simp at hc; done))) | (refine opk 4 rfl ?_; (refine ost_cmp rfl rfl rfl rfl (fun hc => ?_) (fun hc => ?_) <;> (simp only [cmpP] at hc; try exact prIQ))) | (refine opk 9 rfl ?_; (refine ost_build1 H rfl rfl rfl evQ lsQ rfl ?_; clear H; intro bk wk H))) | refine Wc.seq ?_ | refine then_n ?_ | refine WL.nil ?_ | refine Wc.region ?_ | refine Wc.block ?_ | refine then_r ?_ | refine then_e ?_ | refine inb_e rfl ?_ | refine inb_o rfl ?_ | refine inb_n ?_ | refine inb_r ?_ | refine Wc.skip ?_ | refine Wc.exit ?_ | refine Wc.ret ?_ | refine Wc.cond_true rfl ?_ | refine Wc.cond_false rfl ?_)
    exact fn_ret1 (v := .slice _ _ _) rfl rfl ⟨rfl, H.fr⟩
end Go.Tg

