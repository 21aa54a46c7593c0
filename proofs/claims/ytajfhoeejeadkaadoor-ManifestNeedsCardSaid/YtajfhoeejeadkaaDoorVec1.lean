/- Contracts of Go functions that the laws reach: what each call answers and leaves in memory, for all arguments within the bounds that each theorem names. -/
import Derived.Test.YtajfhoeejeadkaaDoorInst
import Derived.Test.YtajfhoeejeadkaaDoorAuto
import Derived.Test.YtajfhoeejeadkaaDoorShl
import Derived.Test.YtajfhoeejeadkaaDoorSl
import Derived.Lib.ItoaMem
set_option linter.unusedVariables false
set_option linter.unusedSimpArgs false
set_option maxRecDepth 100000
set_option maxHeartbeats 1000000
namespace Go.Tg
open Go Go.Proofs
def pow10V : List Value := Lib.pow10Tab.map fun z => Value.int .u64 z
def Pow (h : FH) : Prop := ∃ T fr, h 0 = some (.cells pow10V.toArray T fr)
theorem Pow.mono {h h' : FH} (hle : FLe h h') (r : Pow h) : Pow h' := by
  obtain ⟨T, fr, e⟩ := r; exact ⟨T, fr, hle _ _ e⟩
theorem Pow.full {ws w : World} {S : List Nat} {h0 h : FH} {L : List HA} (r : Pow h) (H : St ws S h0 h L w) : Pow (full w) := r.mono H.sat.le
theorem Pow.tab {h : FH} {w : World} (r : Pow h) (hs : Sat h w) : Lib.TabIs Tryd.prog w "internal/strconv.uint64pow10" .u64 Lib.pow10Tab := by
  obtain ⟨T, fr, e⟩ := r
  have hg : Program.globalNamed Tryd.prog "internal/strconv.uint64pow10" = some 0 := by kernel_rfl
  unfold Lib.TabIs World.var?
  rw [hg]
  show (match w.heap[(0 : Nat)]? with | some (.cells cs _ _) => some cs | _ => none) = _
  rw [hs _ _ e]
  rfl
theorem str_small (i : Nat) (h : i < 100) (w : World) : SpecV Tryd.prog 146 #[.int .i64 i] w (.string (bstr (Lib.decDigits i))) :=
  Calls.mono (Tryd.internal_strconv_small i h w) fun e w' ⟨h1, h2⟩ => ⟨_, h1, rfl, by subst h2; exact Fr.refl _ _⟩
theorem str_num (u : Nat) (h1 : 1 ≤ u) (h2 : u < 18446744073709551616) (h : FH) (w : World) (hs : Sat h w) (hT : Pow h) : SpecV Tryd.prog 147 #[.int .u64 u] w (.int .i64 (Lib.nDigits u)) :=
  Calls.mono (Tryd.internal_strconv_numDigits u h1 h2 w (hT.tab hs)) fun e w' ⟨h1, h2⟩ => ⟨_, h1, rfl, by subst h2; exact Fr.refl _ _⟩
theorem nDig20 {u : Nat} (h1 : 1 ≤ u) (h2 : u < 18446744073709551616) : Lib.nDigits u ≤ 20 := by
  have := Lib.numDigits_eq u h1 h2
  split at this <;> omega
theorem putRow_heap {w : World} {b n : Nat} {dk : Array UInt8} {l : List Value} {T : TypeId} (hb : w.heap[b]? = some (.cells l.toArray T (0, 0))) :
    ((Go.Sort.putRow (fun (x : UInt8) => Value.int .u8 (x.toNat : Int)) w b 0 dk).drewN n).heap[b]? = some (.cells (Go.Sort.putCells (fun (x : UInt8) => Value.int .u8 (x.toNat : Int)) 0 dk l.toArray) T (0, 0)) := by
  show (w.heap.modify b _)[b]? = _
  rw [Array.getElem?_modify, if_pos rfl, hb]; rfl
theorem fmt10 (b u : Nat) (T : TypeId) (g : FH) (w : World) (HO : St w [b] g g [.blk b (.cells (List.replicate 24 (Value.int .u8 0)).toArray T (0, 0))] w) (h1 : 1 ≤ u) (hu : u < 18446744073709551616) :
    Spec Tryd.prog 148 #[.slice (some ⟨b, 0, none⟩) (Lib.nDigits u) 24, .int .u64 u] w [b] g (fun v' h' L' => v' = .tuple #[] ∧ h' = g ∧ ∃ l : List Value, l.length = 24 ∧ l.take (Lib.decDigits u).length = cB (Lib.decDigits u) ∧ L' = [.blk b (.cells l.toArray T (0, 0))]) := by
  have hb := HO.blk (i := 0) rfl
  have h20 := nDig20 h1 hu
  have hH : Go.Sort.Holds (fun (x : UInt8) => Value.int .u8 (x.toNat : Int)) w b 0 (Array.replicate (Lib.nDigits u) 0) := by
    intro j hj
    rw [Array.size_replicate] at hj
    have hd : (Array.replicate (Lib.nDigits u) (0 : UInt8))[j]! = 0 := by
      rw [getElem!_pos _ j (by rw [Array.size_replicate]; exact hj)]; simp
    refine ⟨?_, frozen_of_row w b (0 + j) _ T hb⟩
    rw [hd, cell_of_row w b (0 + j) _ T _ hb]
    rw [List.getElem?_toArray, List.getElem?_replicate, if_pos (by omega)]; rfl
  have := Tryd.internal_strconv_formatBase10 b 0 24 u (Array.replicate (Lib.nDigits u) 0) w hH (by rw [Array.size_replicate]; exact Lib.lt_pow_nDigits u) hu (by rw [Array.size_replicate]; omega)
  rw [Array.size_replicate] at this
  refine Calls.mono this fun e w' ⟨h3, n, v', dk, h4, h5⟩ => ?_
  have hx := putRow_heap (n := n) (dk := dk) hb
  have hsz := h5.size
  have hl := Lib.decDigits_length u
  have hnum := fun i hi => Lib.row_is_numeral h5 i hi
  have hc1 : (Go.Sort.putCells (fun (x : UInt8) => Value.int .u8 (x.toNat : Int)) 0 dk (List.replicate 24 (Value.int .u8 0)).toArray).toList.length = 24 := by simp [Go.Sort.putCells]
  have hc2 : ∀ i : Nat, i < Lib.nDigits u → (Go.Sort.putCells (fun (x : UInt8) => Value.int .u8 (x.toNat : Int)) 0 dk (List.replicate 24 (Value.int .u8 0)).toArray).toList[i]? = some (Value.int .u8 ((dk[i]!).toNat : Int)) := by
    intro i hi
    rw [Array.getElem?_toList]
    unfold Go.Sort.putCells
    rw [Array.getElem?_mapIdx, List.getElem?_toArray, List.getElem?_replicate, if_pos (by omega)]
    simp only [Option.map_some]
    rw [if_pos (by omega)]; rfl
  rw [← Array.toArray_toList (xs := Go.Sort.putCells (fun (x : UInt8) => Value.int .u8 (x.toNat : Int)) 0 dk (List.replicate 24 (Value.int .u8 0)).toArray)] at hx
  generalize (Go.Sort.putCells (fun (x : UInt8) => Value.int .u8 (x.toNat : Int)) 0 dk (List.replicate 24 (Value.int .u8 0)).toArray).toList = l at hx hc1 hc2
  have hF : Fr [b] w w' := by
    subst h4
    refine ⟨rfl, rfl, rfl, ?_, ?_⟩
    · show w.heap.size ≤ (w.heap.modify b _).size
      rw [Array.size_modify]; exact Nat.le_refl _
    · intro k hk hS
      show (w.heap.modify b _)[k]? = _
      rw [Array.getElem?_modify, if_neg fun e => hS (by simp [e])]
  rw [← h4] at hx
  have hS := HO.repl (i := 0) (A' := .blk b (.cells l.toArray T (0, 0))) rfl hF hx (by simp [HA.fp])
  refine ⟨_, h3, g, _, hS, rfl, rfl, l, hc1, ?_, rfl⟩
  apply List.ext_getElem?
  intro i
  by_cases hi : i < Lib.nDigits u
  · rw [List.getElem?_take, if_pos (by omega), hc2 i hi, cB_get (by omega), hnum i (by omega)]; rfl
  · rw [List.getElem?_eq_none (by rw [List.length_take]; omega), List.getElem?_eq_none (by rw [cB_len]; omega)]
end Go.Tg

set_option linter.unusedVariables false
set_option linter.unusedSimpArgs false
set_option maxRecDepth 100000
set_option maxHeartbeats 4000000
namespace Go.Tg
open Go Go.Proofs
theorem wrap_i64 {n : Nat} (h : n < 9223372036854775808) : IntKind.i64.wrap (n : Int) = n := by
  simp [IntKind.wrap, IntKind.bits, IntKind.signed]; omega
theorem fmt_uint (n : Nat) (hn : n < 18446744073709551616) (h0 : FH) (w : World) (hs : Sat h0 w) (hT : Pow h0) : SpecV Tryd.prog 136 #[.int .u64 n, .int .i64 10] w (.string (bstr (Lib.decDigits n))) := by
  have H := St.start hs
  unfold SpecV
  refine calls_of Tryd.func136 rfl Tryd.ntmps136 (by simp) ?_
  by_cases hlt : n < 100
  · have hw := wrap_i64 (n := n) (by omega)
    repeat' (first | ((first | refine WL.p rfl ?_ | refine WL.u ?_); first | (refine opk 1 rfl ?_; (refine ost_V H rfl (str_small n hlt _) rfl ?_; clear H; intro wk H)) | (refine opk 6 rfl ?_; (refine ost_conv rfl rfl ?_; rw [hw])) | refine pvQ ?_ | (refine opk 3 rfl ?_; (refine ost_cmp rfl rfl rfl rfl (fun hc => ?_) (fun hc => ?_) <;> (simp only [cmpP] at hc; try exact prIQ))) | (refine opk 4 rfl ?_; (refine ost_cmp rfl rfl rfl rfl (fun hc => ?_) (fun hc => ?_) <;> (simp only [cmpP] at hc; try exact prIQ))) | (refine opk 9 rfl ?_; (refine ost_allocA H rfl ?_; clear H; intro bk wk H))) | refine Wc.seq ?_ | refine then_n ?_ | refine WL.nil ?_ | refine Wc.region ?_ | refine Wc.block ?_ | refine then_r ?_ | refine then_e ?_ | refine inb_e rfl ?_ | refine inb_o rfl ?_ | refine inb_n ?_ | refine inb_r ?_ | refine Wc.skip ?_ | refine Wc.exit ?_ | refine Wc.ret ?_ | refine Wc.cond_true rfl ?_ | refine Wc.cond_false rfl ?_)
    exact fn_ret1 (v := .string _) rfl rfl ⟨rfl, H.fr⟩
  · have h1 : 1 ≤ n := by omega
    have h20 := nDig20 h1 hn
    have hl := Lib.decDigits_length n
    repeat' (first | ((first | refine WL.p rfl ?_ | refine WL.u ?_); first | (refine opk 1 rfl ?_; (refine ost_V H rfl (str_num n h1 hn _ _ H.sat hT) rfl ?_; clear H; intro wk H)) | refine pvQ ?_ | (refine opk 3 rfl ?_; (refine ost_cmp rfl rfl rfl rfl (fun hc => ?_) (fun hc => ?_) <;> (simp only [cmpP] at hc; try exact prIQ))) | (refine opk 4 rfl ?_; (refine ost_cmp rfl rfl rfl rfl (fun hc => ?_) (fun hc => ?_) <;> (simp only [cmpP] at hc; try exact prIQ))) | (refine opk 9 rfl ?_; (refine ost_allocA H rfl ?_; clear H; intro bk wk H))) | refine Wc.seq ?_ | refine then_n ?_ | refine WL.nil ?_ | refine Wc.region ?_ | refine Wc.block ?_ | refine then_r ?_ | refine then_e ?_ | refine inb_e rfl ?_ | refine inb_o rfl ?_ | refine inb_n ?_ | refine inb_r ?_ | refine Wc.skip ?_ | refine Wc.exit ?_ | refine Wc.ret ?_ | refine Wc.cond_true rfl ?_ | refine Wc.cond_false rfl ?_)
    obtain ⟨b, eb⟩ := H.nameB idx0
    subst eb
    replace H : St w [] h0 h0 [.blk b (.cells (List.replicate 24 (Value.int .u8 0)).toArray 221 (0, 0))] wk := H
    repeat' (first | ((first | refine WL.p rfl ?_ | refine WL.u ?_); first | (refine opk 1 rfl ?_; (refine ost_H (A := HA.blk _ _) H rfl (by (exact ixQ)) (fun HO => fmt10 b n _ _ _ HO h1 hn) rfl ?_; clear H; rintro vk wk hfk Lk ⟨rfl, e9, l, hl1, hl2, rfl⟩ hle H; simp only [List.cons_append, List.nil_append, List.eraseIdx_cons_zero, List.eraseIdx_cons_succ] at H)) | refine pvQ ?_ | (refine opk 3 rfl ?_; (refine ost_cmp rfl rfl rfl rfl (fun hc => ?_) (fun hc => ?_) <;> (simp only [cmpP] at hc; try exact prIQ))) | (refine opk 4 rfl ?_; (refine ost_cmp rfl rfl rfl rfl (fun hc => ?_) (fun hc => ?_) <;> (simp only [cmpP] at hc; try exact prIQ))) | (refine opk 9 rfl ?_; (refine ost_allocA H rfl ?_; clear H; intro bk wk H))) | refine Wc.seq ?_ | refine then_n ?_ | refine WL.nil ?_ | refine Wc.region ?_ | refine Wc.block ?_ | refine then_r ?_ | refine then_e ?_ | refine inb_e rfl ?_ | refine inb_o rfl ?_ | refine inb_n ?_ | refine inb_r ?_ | refine Wc.skip ?_ | refine Wc.exit ?_ | refine Wc.ret ?_ | refine Wc.cond_true rfl ?_ | refine Wc.cond_false rfl ?_)
    subst e9
    obtain ⟨h7, hle7, hb7, H⟩ := H.freezeB
    have hB : BS h7 (some ⟨b, 0, none⟩) 24 (Lib.decDigits n) := ⟨.inr ⟨b, 0, l, _, _, rfl, hb7, by rw [List.drop_zero, cB_len]; exact hl2⟩, by omega, by decide, by simp⟩
    repeat' (first | ((first | refine WL.p rfl ?_ | refine WL.u ?_); first | (refine opk 6 rfl ?_; (refine ost_toStrN (xs := Lib.decDigits n) rfl rfl (by first | rfl | (simp; omega)) (hB.mono H.sat.le) ?_)) | refine pvQ ?_ | (refine opk 3 rfl ?_; (refine ost_cmp rfl rfl rfl rfl (fun hc => ?_) (fun hc => ?_) <;> (simp only [cmpP] at hc; try exact prIQ))) | (refine opk 4 rfl ?_; (refine ost_cmp rfl rfl rfl rfl (fun hc => ?_) (fun hc => ?_) <;> (simp only [cmpP] at hc; try exact prIQ))) | (refine opk 9 rfl ?_; (refine ost_allocA H rfl ?_; clear H; intro bk wk H))) | refine Wc.seq ?_ | refine then_n ?_ | refine WL.nil ?_ | refine Wc.region ?_ | refine Wc.block ?_ | refine then_r ?_ | refine then_e ?_ | refine inb_e rfl ?_ | refine inb_o rfl ?_ | refine inb_n ?_ | refine inb_r ?_ | refine Wc.skip ?_ | refine Wc.exit ?_ | refine Wc.ret ?_ | refine Wc.cond_true rfl ?_ | refine Wc.cond_false rfl ?_)
    exact fn_ret1 (v := .string _) rfl rfl ⟨rfl, H.fr⟩
theorem fmt_pub (n : Nat) (hn : n < 18446744073709551616) (h0 : FH) (w : World) (hs : Sat h0 w) (hT : Pow h0) : SpecV Tryd.prog 109 #[.int .u64 n, .int .i64 10] w (.string (bstr (Lib.decDigits n))) := by
  have H := St.start hs
  unfold SpecV
  refine calls_of Tryd.func109 rfl Tryd.ntmps109 (by simp) ?_
  repeat' (first | ((first | refine WL.p rfl ?_ | refine WL.u ?_); first | (refine opk 1 rfl ?_; (refine ost_V H rfl (fmt_uint n hn _ _ H.sat hT) rfl ?_; clear H; intro wk H)) | refine pvQ ?_) | refine Wc.seq ?_ | refine then_n ?_ | refine WL.nil ?_ | refine Wc.region ?_ | refine Wc.block ?_ | refine then_r ?_ | refine then_e ?_ | refine inb_e rfl ?_ | refine inb_o rfl ?_ | refine inb_n ?_ | refine inb_r ?_ | refine Wc.skip ?_ | refine Wc.exit ?_ | refine Wc.ret ?_ | refine Wc.cond_true rfl ?_ | refine Wc.cond_false rfl ?_)
  exact fn_ret1 (v := .string _) rfl rfl ⟨rfl, H.fr⟩
def segW (n : Nat) : List UInt8 := [115, 101, 103, 45] ++ Lib.decDigits n
def baseW (n : Nat) : List UInt8 := [98, 97, 115, 101, 45] ++ Lib.decDigits n
theorem dec_len {n : Nat} (hn : n < 4294967296) : (Lib.decDigits n).length ≤ 20 := by
  rw [Lib.decDigits_length]
  by_cases h : 1 ≤ n
  · exact nDig20 h (by omega)
  · have : n = 0 := by omega
    subst this
    rw [Lib.nDigits_small (by decide)]; decide
theorem man_name (k : List UInt8) (n : UInt32) (hk : k.length ≤ 100) (h0 : FH) (w : World) (hs : Sat h0 w) (hT : Pow h0) : SpecV Tryd.prog 108 #[.string (bstr k), .int .u32 n.toNat] w (.string (bstr (k ++ [45] ++ Lib.decDigits n.toNat))) := by
  have H := St.start hs
  have hn := n.toNat_lt
  have hl := dec_len hn
  unfold SpecV
  refine calls_of Tryd.func108 rfl Tryd.ntmps108 (by simp) ?_
  repeat' (first | ((first | refine WL.p rfl ?_ | refine WL.u ?_); first | (refine opk 1 rfl ?_; (refine ost_V H rfl (fmt_pub n.toNat (by omega) _ _ H.sat hT) rfl ?_; clear H; intro wk H)) | (refine opk 5 rfl ?_; first | (refine ost_straddB (a := k) (b := [45]) rfl rfl rfl (by simp; omega) ?_) | (refine ost_straddB (a := k ++ [45]) (b := Lib.decDigits n.toNat) rfl rfl rfl (by simp; omega) ?_)) | refine pvQ ?_) | refine Wc.seq ?_ | refine then_n ?_ | refine WL.nil ?_ | refine Wc.region ?_ | refine Wc.block ?_ | refine then_r ?_ | refine then_e ?_ | refine inb_e rfl ?_ | refine inb_o rfl ?_ | refine inb_n ?_ | refine inb_r ?_ | refine Wc.skip ?_ | refine Wc.exit ?_ | refine Wc.ret ?_ | refine Wc.cond_true rfl ?_ | refine Wc.cond_false rfl ?_)
  exact fn_ret1 (v := .string _) rfl rfl ⟨rfl, H.fr⟩
theorem man_SegName (n : UInt32) (h0 : FH) (w : World) (hs : Sat h0 w) (hT : Pow h0) : SpecV Tryd.prog 57 #[.int .u32 n.toNat] w (.string (bstr (segW n.toNat))) := by
  have H := St.start hs
  unfold SpecV
  refine calls_of Tryd.func57 rfl Tryd.ntmps57 (by simp) ?_
  repeat' (first | ((first | refine WL.p rfl ?_ | refine WL.u ?_); first | (refine opk 1 rfl ?_; (refine ost_V H rfl (man_name [115, 101, 103] n (by decide) _ _ H.sat hT) rfl ?_; clear H; intro wk H)) | refine pvQ ?_) | refine Wc.seq ?_ | refine then_n ?_ | refine WL.nil ?_ | refine Wc.region ?_ | refine Wc.block ?_ | refine then_r ?_ | refine then_e ?_ | refine inb_e rfl ?_ | refine inb_o rfl ?_ | refine inb_n ?_ | refine inb_r ?_ | refine Wc.skip ?_ | refine Wc.exit ?_ | refine Wc.ret ?_ | refine Wc.cond_true rfl ?_ | refine Wc.cond_false rfl ?_)
  exact fn_ret1 (v := .string _) rfl rfl ⟨rfl, H.fr⟩
theorem man_BaseName (n : UInt32) (h0 : FH) (w : World) (hs : Sat h0 w) (hT : Pow h0) : SpecV Tryd.prog 59 #[.int .u32 n.toNat] w (.string (bstr (baseW n.toNat))) := by
  have H := St.start hs
  unfold SpecV
  refine calls_of Tryd.func59 rfl Tryd.ntmps59 (by simp) ?_
  repeat' (first | ((first | refine WL.p rfl ?_ | refine WL.u ?_); first | (refine opk 1 rfl ?_; (refine ost_V H rfl (man_name [98, 97, 115, 101] n (by decide) _ _ H.sat hT) rfl ?_; clear H; intro wk H)) | refine pvQ ?_) | refine Wc.seq ?_ | refine then_n ?_ | refine WL.nil ?_ | refine Wc.region ?_ | refine Wc.block ?_ | refine then_r ?_ | refine then_e ?_ | refine inb_e rfl ?_ | refine inb_o rfl ?_ | refine inb_n ?_ | refine inb_r ?_ | refine Wc.skip ?_ | refine Wc.exit ?_ | refine Wc.ret ?_ | refine Wc.cond_true rfl ?_ | refine Wc.cond_false rfl ?_)
  exact fn_ret1 (v := .string _) rfl rfl ⟨rfl, H.fr⟩
end Go.Tg

set_option linter.unusedVariables false
set_option linter.unusedSimpArgs false
set_option maxRecDepth 100000
set_option maxHeartbeats 4000000
namespace Go.Tg
open Go Go.Proofs
abbrev V16 := Fin 16 → UInt32
def u32 (x : UInt32) : Value := .int .u32 x.toNat
def cV (a : V16) : List Value := List.ofFn fun i => u32 (a i)
theorem cV_len (a : V16) : (cV a).length = 16 := by simp [cV]
theorem cV_get (a : V16) (k : Nat) (h : k < 16) : (cV a)[k]? = some (u32 (a ⟨k, h⟩)) := by rw [cV, List.getElem?_ofFn, dif_pos h]
theorem cV_getI (a : V16) (k : Nat) (h : k < 16) : (cV a)[(k : Int).toNat]? = some (u32 (a ⟨k, h⟩)) := cV_get a k h
theorem cV_getO (a : V16) (k : Nat) (h : k < 16) : (cV a)[0 + (k : Int).toNat * 1]? = some (u32 (a ⟨k, h⟩)) := by simpa using cV_get a k h
theorem cV_set (a : V16) (k : Nat) (h : k < 16) (x : UInt32) : (cV a).set k (u32 x) = cV (fun i => if i.val = k then x else a i) := by
  apply List.ext_getElem?
  intro i
  rw [List.getElem?_set]
  by_cases hi : i < 16
  · rw [cV_get _ i hi, cV_get _ i hi, cV_len]
    by_cases e : k = i
    · subst e; simp [h]
    · simp [e, Ne.symm e]
  · rw [List.getElem?_eq_none (by rw [cV_len]; omega), List.getElem?_eq_none (by rw [cV_len]; omega)]
    split
    · rename_i e; subst e; simp [cV_len, hi]
    · rfl
theorem cV_one (a : V16) : ∀ v ∈ cV a, v.oneCell' = true := by
  intro v hv
  rw [cV, List.mem_ofFn] at hv
  obtain ⟨i, rfl⟩ := hv; rfl
theorem u32_inj {a b : UInt32} (h : u32 a = u32 b) : a = b := by
  unfold u32 at h; injection h with _ h; exact UInt32.toNat_inj.1 (by omega)
theorem cV_inj {a b : V16} : cV a = cV b ↔ a = b := by
  constructor
  · intro h; funext i
    have h1 := cV_get a i.val i.isLt
    rw [h, cV_get b i.val i.isLt] at h1
    exact (u32_inj (Option.some.inj h1)).symm
  · intro h; rw [h]
theorem typed_cV (a : V16) : Typed [.i .u32, .i .u32, .i .u32, .i .u32, .i .u32, .i .u32, .i .u32, .i .u32, .i .u32, .i .u32, .i .u32, .i .u32, .i .u32, .i .u32, .i .u32, .i .u32] (cV a) := by
  simp [Typed, cV, shp, u32]
def atV (a : V16) (i : Nat) : UInt32 := if h : i < 16 then a ⟨i, h⟩ else 0
structure DotT where
  rep : UInt8
  seq : UInt32
def dotB (d : DotT) : Bool := decide (d.rep.toNat < 16) && decide (1 ≤ d.seq.toNat) && decide (d.seq.toNat ≤ 1048576)
theorem atV_lt (a : V16) {i : Nat} (h : i < 16) : atV a i = a ⟨i, h⟩ := by simp [atV, h]
theorem cV_at (a : V16) {i : Nat} (h : i < 16) : (cV a)[0 + (i : Int).toNat * 1]? = some (u32 (atV a i)) := by rw [atV_lt a h]; exact cV_getO a i h
theorem cV_zero : cV (fun _ => 0) = List.replicate 16 (.int .u32 0) := rfl
end Go.Tg

