import Derived.Test.YthpeejcmkhglmaaChecked
import Derived.Test.YthpeejcmkhglmaaRows
import Derived.Test.YthpeejcmkhglmaaLift
import Derived.Test.YthpeejcmkhglmaaVec5
set_option linter.unusedVariables false
set_option linter.unusedSimpArgs false
set_option maxRecDepth 100000
set_option maxHeartbeats 4000000
namespace Go.Tg
open Go Go.Proofs
theorem own_ : ownKnob Try.prog.godebug = none := by kernel_rfl
theorem laid_ : laidOutB Try.prog = true := by kernel_rfl
theorem vec_ok {w : World} {r : Reach} {b : Nat} {v : Value} (h : Value.okWide Try.prog w r b 64 v) : ∃ a : V16, v = .agg (cV a).toArray := by
  obtain ⟨l, rfl, hl, hc⟩ := cells_of_ok (ts := List.replicate 16 62) Try.underlying64 rfl (by kernel_rfl) (by kernel_rfl) h
  have hl : l.length = 16 := by simpa using hl
  have hx : ∀ i : Fin 16, ∃ x : UInt32, l[i.val] = u32 x := fun i => by
    have h1 := hc i.val (by omega) (by simp)
    simp only [List.getElem_replicate] at h1
    obtain ⟨n, e, h2, h3⟩ := int_of_ok Try.underlying62 h1
    have h2 : 0 ≤ n := h2
    have h3 : n ≤ 4294967295 := h3
    exact ⟨UInt32.ofNat n.toNat, by rw [e, u32]; simp; omega⟩
  refine ⟨fun i => (hx i).choose, ?_⟩
  congr 2
  apply List.ext_getElem
  · rw [cV_len, hl]
  · intro i h1 h2
    rw [(hx ⟨i, by omega⟩).choose_spec]
    simp only [cV, List.getElem_ofFn]
end Go.Tg
namespace Go.Proofs.Ythpeejcmkhglmaa
open Go.ChangeShapes Go.WideShapes Go.ChangeAt Go.RowKit Go.Tg
theorem vecOrders_lifted (os : Os) (started : os.Started) (H : Type) (enc : TypeId × Value → H) :
    ReturnsInHanded {} Try.checked os 8 .any (Rows.vecOrdersSpec.pre6 enc Try.prog Try.f8 Rows.vecOrdersRow.domain false) (Rows.vecOrdersSpec.post enc Try.prog Try.f8 false true false false) := by
  refine returnsInHanded_of_change (C := Try.checked) own_ started (by kernel_rfl) Try.func8
    (ChangeSpec.witness6 (enc := enc) (C := Try.checked) false ⟨#[], #[.agg (List.replicate 16 (Value.int .u32 0)).toArray, .agg (List.replicate 16 (Value.int .u32 0)).toArray, .int .i64 0], []⟩ 8 (by kernel_rfl) (by kernel_rfl) (by kernel_rfl) (by kernel_rfl)) ?_
  intro W base args ds gs before hval0 hW hcnd _
  have hval : ∀ (j : Nat) t v, Try.f8.params[j]? = some t → args[j]? = some v → Value.okWide Try.prog W .any base t v := hval0
  have hW' := hW
  obtain ⟨p, q, hA0, -, -, -, -⟩ := hW'
  have hA : DataW.TrodAll enc Try.prog W 0 (fun _ => true) true Try.f8.params.toList args.toList ds p := hA0
  rw [Try.params8] at hA hval
  obtain ⟨v0, v1, v2, d0, d1, d2, p0, p1, p2, rfl, rfl, rfl, h0, h1, h2⟩ := trodAll_three hA
  obtain ⟨a, rfl⟩ := vec_ok (hval 0 _ v0 rfl rfl)
  obtain ⟨b, rfl⟩ := vec_ok (hval 1 _ v1 rfl rfl)
  obtain ⟨n, rfl, hn1, hn2⟩ := int_of_okV Try.underlying3 (hval 2 _ v2 rfl rfl)
  refine (law_VecOrders a b n W).mono fun e W' ⟨v, he, hv, hE⟩ => ⟨v, he, ?_⟩
  subst hv
  exact law_post rfl hW hE rfl (by kernel_rfl) Try.underlying4 laid_ (by kernel_rfl)
theorem vecOrders_holds : Rows.VecOrdersSaid :=
  OpenClaim.holds_of_wide 8 Try.f8 rfl rfl rfl rfl rfl rfl rfl ⟨rfl, rfl, rfl, rfl, rfl⟩ rfl rfl rfl rfl rfl (by kernel_rfl) Try.func8 (by kernel_rfl)
    (of_decide_eq_true (by kernel_rfl)) (by unfold Func.isWrapper; first | (rw [if_pos (by decide +kernel)]; kernel_rfl) | (rw [if_neg (by decide +kernel)]; exact ⟨rfl, rfl⟩))
    (fun os started H enc _ => vecOrders_lifted os started H enc)
end Go.Proofs.Ythpeejcmkhglmaa
