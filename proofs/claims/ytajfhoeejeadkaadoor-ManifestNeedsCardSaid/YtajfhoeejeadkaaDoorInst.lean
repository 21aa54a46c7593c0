/- The types and functions of this program, as the walks want them. Printed by a program of this claim (geninst.py). -/
import Derived.KernelRfl
import Derived.Test.YtajfhoeejeadkaaDoorProg
import Derived.Test.YtajfhoeejeadkaaDoorOps2
set_option maxRecDepth 100000
namespace Go.Tg
open Go Go.Proofs
theorem info_of {P : Program} {t : TypeId} {i : TypeInfo} (h : ∀ w, (typeInfo t).run P w = .ok i w) : P.info? t = some i := by
  have h1 := h default
  unfold typeInfo at h1
  simp only [Sem.run_bind, run_program, Result.andThen_ok] at h1
  cases hi : P.info? t with
  | none => rw [hi] at h1; cases h1
  | some j =>
    rw [hi] at h1
    have h2 : (Result.ok j default : Result TypeInfo) = .ok i default := h1
    injection h2 with h3 h4; rw [h3]
instance : Ty Tryd.prog 0 (TypeDesc.tuple #[]) 1 0 (Value.tuple #[]) := ⟨Tryd.underlying0, Tryd.t0, info_of Tryd.typeInfo0, rfl, rfl, rfl⟩
instance : Ty Tryd.prog 1 (TypeDesc.func #[] #[] false) 1 8 Value.nilFunc := ⟨Tryd.underlying1, Tryd.t1, info_of Tryd.typeInfo1, rfl, rfl, rfl⟩
instance : Ty Tryd.prog 2 (TypeDesc.int IntKind.i64) 1 8 (Value.int IntKind.i64 0) := ⟨Tryd.underlying2, Tryd.t2, info_of Tryd.typeInfo2, rfl, rfl, rfl⟩
instance : Ty Tryd.prog 3 (TypeDesc.int IntKind.i64) 1 8 (Value.int IntKind.i64 0) := ⟨Tryd.underlying3, Tryd.t3, info_of Tryd.typeInfo3, rfl, rfl, rfl⟩
instance : Ty Tryd.prog 4 (TypeDesc.bool) 1 1 (Value.bool false) := ⟨Tryd.underlying4, Tryd.t4, info_of Tryd.typeInfo4, rfl, rfl, rfl⟩
instance : Ty Tryd.prog 5 (TypeDesc.int IntKind.u8) 1 1 (Value.int IntKind.u8 0) := ⟨Tryd.underlying5, Tryd.t5, info_of Tryd.typeInfo5, rfl, rfl, rfl⟩
instance : Ty Tryd.prog 6 (TypeDesc.int IntKind.u8) 1 1 (Value.int IntKind.u8 0) := ⟨Tryd.underlying6, Tryd.t6, info_of Tryd.typeInfo6, rfl, rfl, rfl⟩
instance : Ty Tryd.prog 7 (TypeDesc.struct #[{ name := "x", type := 2, offset := 0, embedded := false, tag := "", pkgPath := "runtime", byteOffset := 0 }, { name := "y", type := 3, offset := 1, embedded := false, tag := "", pkgPath := "runtime", byteOffset := 8 }, { name := "signed", type := 4, offset := 2, embedded := false, tag := "", pkgPath := "runtime", byteOffset := 16 }, { name := "code", type := 6, offset := 3, embedded := false, tag := "", pkgPath := "runtime", byteOffset := 17 }]) 4 24 (Value.agg #[Value.int IntKind.i64 0, Value.int IntKind.i64 0, Value.bool false, Value.int IntKind.u8 0]) := ⟨Tryd.underlying7, Tryd.t7, info_of Tryd.typeInfo7, rfl, rfl, rfl⟩
instance : Fld Tryd.prog 7 0 0 2 := ⟨_, _, Tryd.underlying7, rfl, rfl, rfl⟩
instance : Fld Tryd.prog 7 1 1 3 := ⟨_, _, Tryd.underlying7, rfl, rfl, rfl⟩
instance : Fld Tryd.prog 7 2 2 4 := ⟨_, _, Tryd.underlying7, rfl, rfl, rfl⟩
instance : Fld Tryd.prog 7 3 3 6 := ⟨_, _, Tryd.underlying7, rfl, rfl, rfl⟩
instance : EqG Tryd.prog 7 := ⟨Tryd.eqGuardType7⟩
instance : Ty Tryd.prog 8 (TypeDesc.struct #[{ name := "x", type := 2, offset := 0, embedded := false, tag := "", pkgPath := "runtime", byteOffset := 0 }, { name := "y", type := 3, offset := 1, embedded := false, tag := "", pkgPath := "runtime", byteOffset := 8 }, { name := "signed", type := 4, offset := 2, embedded := false, tag := "", pkgPath := "runtime", byteOffset := 16 }, { name := "code", type := 6, offset := 3, embedded := false, tag := "", pkgPath := "runtime", byteOffset := 17 }]) 4 24 (Value.agg #[Value.int IntKind.i64 0, Value.int IntKind.i64 0, Value.bool false, Value.int IntKind.u8 0]) := ⟨Tryd.underlying8, Tryd.t8, info_of Tryd.typeInfo8, rfl, rfl, rfl⟩
instance : Fld Tryd.prog 8 0 0 2 := ⟨_, _, Tryd.underlying8, rfl, rfl, rfl⟩
instance : Fld Tryd.prog 8 1 1 3 := ⟨_, _, Tryd.underlying8, rfl, rfl, rfl⟩
instance : Fld Tryd.prog 8 2 2 4 := ⟨_, _, Tryd.underlying8, rfl, rfl, rfl⟩
instance : Fld Tryd.prog 8 3 3 6 := ⟨_, _, Tryd.underlying8, rfl, rfl, rfl⟩
instance : EqG Tryd.prog 8 := ⟨Tryd.eqGuardType8⟩
instance : Ty Tryd.prog 9 (TypeDesc.string) 1 16 (Value.string { data := #[] }) := ⟨Tryd.underlying9, Tryd.t9, info_of Tryd.typeInfo9, rfl, rfl, rfl⟩
instance : Ty Tryd.prog 10 (TypeDesc.string) 1 16 (Value.string { data := #[] }) := ⟨Tryd.underlying10, Tryd.t10, info_of Tryd.typeInfo10, rfl, rfl, rfl⟩
instance : Ty Tryd.prog 11 (TypeDesc.string) 1 16 (Value.string { data := #[] }) := ⟨Tryd.underlying11, Tryd.t11, info_of Tryd.typeInfo11, rfl, rfl, rfl⟩
instance : Ty Tryd.prog 12 (TypeDesc.int IntKind.u64) 1 8 (Value.int IntKind.u64 0) := ⟨Tryd.underlying12, Tryd.t12, info_of Tryd.typeInfo12, rfl, rfl, rfl⟩
instance : Ty Tryd.prog 13 (TypeDesc.struct #[{ name := "msg", type := 9, offset := 0, embedded := false, tag := "", pkgPath := "runtime", byteOffset := 0 }, { name := "addr", type := 12, offset := 1, embedded := false, tag := "", pkgPath := "runtime", byteOffset := 16 }]) 2 24 (Value.agg #[Value.string { data := #[] }, Value.int IntKind.u64 0]) := ⟨Tryd.underlying13, Tryd.t13, info_of Tryd.typeInfo13, rfl, rfl, rfl⟩
instance : Fld Tryd.prog 13 0 0 9 := ⟨_, _, Tryd.underlying13, rfl, rfl, rfl⟩
instance : Fld Tryd.prog 13 1 1 12 := ⟨_, _, Tryd.underlying13, rfl, rfl, rfl⟩
instance : EqG Tryd.prog 13 := ⟨Tryd.eqGuardType13⟩
instance : Ty Tryd.prog 14 (TypeDesc.struct #[{ name := "msg", type := 9, offset := 0, embedded := false, tag := "", pkgPath := "runtime", byteOffset := 0 }, { name := "addr", type := 12, offset := 1, embedded := false, tag := "", pkgPath := "runtime", byteOffset := 16 }]) 2 24 (Value.agg #[Value.string { data := #[] }, Value.int IntKind.u64 0]) := ⟨Tryd.underlying14, Tryd.t14, info_of Tryd.typeInfo14, rfl, rfl, rfl⟩
instance : Fld Tryd.prog 14 0 0 9 := ⟨_, _, Tryd.underlying14, rfl, rfl, rfl⟩
instance : Fld Tryd.prog 14 1 1 12 := ⟨_, _, Tryd.underlying14, rfl, rfl, rfl⟩
instance : EqG Tryd.prog 14 := ⟨Tryd.eqGuardType14⟩
instance : Ty Tryd.prog 15 (TypeDesc.pointer 239) 1 8 (Value.pointer none) := ⟨Tryd.underlying15, Tryd.t15, info_of Tryd.typeInfo15, rfl, rfl, rfl⟩
instance : Ty Tryd.prog 16 (TypeDesc.pointer 242) 1 8 (Value.pointer none) := ⟨Tryd.underlying16, Tryd.t16, info_of Tryd.typeInfo16, rfl, rfl, rfl⟩
instance : Ty Tryd.prog 17 (TypeDesc.pointer 251) 1 8 (Value.pointer none) := ⟨Tryd.underlying17, Tryd.t17, info_of Tryd.typeInfo17, rfl, rfl, rfl⟩
instance : Ty Tryd.prog 18 (TypeDesc.struct #[{ name := "typ", type := 17, offset := 0, embedded := false, tag := "", pkgPath := "internal/runtime/maps", byteOffset := 0 }]) 1 8 (Value.agg #[Value.pointer none]) := ⟨Tryd.underlying18, Tryd.t18, info_of Tryd.typeInfo18, rfl, rfl, rfl⟩
instance : Fld Tryd.prog 18 0 0 17 := ⟨_, _, Tryd.underlying18, rfl, rfl, rfl⟩
instance : EqG Tryd.prog 18 := ⟨Tryd.eqGuardType18⟩
instance : Ty Tryd.prog 19 (TypeDesc.struct #[{ name := "typ", type := 17, offset := 0, embedded := false, tag := "", pkgPath := "internal/runtime/maps", byteOffset := 0 }]) 1 8 (Value.agg #[Value.pointer none]) := ⟨Tryd.underlying19, Tryd.t19, info_of Tryd.typeInfo19, rfl, rfl, rfl⟩
instance : Fld Tryd.prog 19 0 0 17 := ⟨_, _, Tryd.underlying19, rfl, rfl, rfl⟩
instance : EqG Tryd.prog 19 := ⟨Tryd.eqGuardType19⟩
instance : Ty Tryd.prog 20 (TypeDesc.interface #[]) 1 16 Value.nilIface := ⟨Tryd.underlying20, Tryd.t20, info_of Tryd.typeInfo20, rfl, rfl, rfl⟩
instance : Ty Tryd.prog 21 (TypeDesc.int IntKind.i32) 1 4 (Value.int IntKind.i32 0) := ⟨Tryd.underlying21, Tryd.t21, info_of Tryd.typeInfo21, rfl, rfl, rfl⟩
instance : Ty Tryd.prog 22 (TypeDesc.slice 32) 1 24 (Value.slice none 0 0) := ⟨Tryd.underlying22, Tryd.t22, info_of Tryd.typeInfo22, rfl, rfl, rfl⟩
instance : Ty Tryd.prog 23 (TypeDesc.slice 117) 1 24 (Value.slice none 0 0) := ⟨Tryd.underlying23, Tryd.t23, info_of Tryd.typeInfo23, rfl, rfl, rfl⟩
instance : Ty Tryd.prog 24 (TypeDesc.slice 28) 1 24 (Value.slice none 0 0) := ⟨Tryd.underlying24, Tryd.t24, info_of Tryd.typeInfo24, rfl, rfl, rfl⟩
instance : Ty Tryd.prog 25 (TypeDesc.struct #[{ name := "Leaf", type := 4, offset := 0, embedded := false, tag := "", pkgPath := "", byteOffset := 0 }, { name := "Keys", type := 22, offset := 1, embedded := false, tag := "", pkgPath := "", byteOffset := 8 }, { name := "Locs", type := 23, offset := 2, embedded := false, tag := "", pkgPath := "", byteOffset := 32 }, { name := "Kids", type := 24, offset := 3, embedded := false, tag := "", pkgPath := "", byteOffset := 56 }]) 4 80 (Value.agg #[Value.bool false, Value.slice none 0 0, Value.slice none 0 0, Value.slice none 0 0]) := ⟨Tryd.underlying25, Tryd.t25, info_of Tryd.typeInfo25, rfl, rfl, rfl⟩
instance : Fld Tryd.prog 25 0 0 4 := ⟨_, _, Tryd.underlying25, rfl, rfl, rfl⟩
instance : Fld Tryd.prog 25 1 1 22 := ⟨_, _, Tryd.underlying25, rfl, rfl, rfl⟩
instance : Fld Tryd.prog 25 2 2 23 := ⟨_, _, Tryd.underlying25, rfl, rfl, rfl⟩
instance : Fld Tryd.prog 25 3 3 24 := ⟨_, _, Tryd.underlying25, rfl, rfl, rfl⟩
instance : EqG Tryd.prog 25 := ⟨Tryd.eqGuardType25⟩
instance : Ty Tryd.prog 26 (TypeDesc.struct #[{ name := "Leaf", type := 4, offset := 0, embedded := false, tag := "", pkgPath := "", byteOffset := 0 }, { name := "Keys", type := 22, offset := 1, embedded := false, tag := "", pkgPath := "", byteOffset := 8 }, { name := "Locs", type := 23, offset := 2, embedded := false, tag := "", pkgPath := "", byteOffset := 32 }, { name := "Kids", type := 24, offset := 3, embedded := false, tag := "", pkgPath := "", byteOffset := 56 }]) 4 80 (Value.agg #[Value.bool false, Value.slice none 0 0, Value.slice none 0 0, Value.slice none 0 0]) := ⟨Tryd.underlying26, Tryd.t26, info_of Tryd.typeInfo26, rfl, rfl, rfl⟩
instance : Fld Tryd.prog 26 0 0 4 := ⟨_, _, Tryd.underlying26, rfl, rfl, rfl⟩
instance : Fld Tryd.prog 26 1 1 22 := ⟨_, _, Tryd.underlying26, rfl, rfl, rfl⟩
instance : Fld Tryd.prog 26 2 2 23 := ⟨_, _, Tryd.underlying26, rfl, rfl, rfl⟩
instance : Fld Tryd.prog 26 3 3 24 := ⟨_, _, Tryd.underlying26, rfl, rfl, rfl⟩
instance : EqG Tryd.prog 26 := ⟨Tryd.eqGuardType26⟩
instance : Ty Tryd.prog 27 (TypeDesc.int IntKind.u16) 1 2 (Value.int IntKind.u16 0) := ⟨Tryd.underlying27, Tryd.t27, info_of Tryd.typeInfo27, rfl, rfl, rfl⟩
instance : Ty Tryd.prog 28 (TypeDesc.int IntKind.u32) 1 4 (Value.int IntKind.u32 0) := ⟨Tryd.underlying28, Tryd.t28, info_of Tryd.typeInfo28, rfl, rfl, rfl⟩
instance : Ty Tryd.prog 29 (TypeDesc.struct #[{ name := "Rep", type := 5, offset := 0, embedded := false, tag := "", pkgPath := "", byteOffset := 0 }, { name := "Seq", type := 28, offset := 1, embedded := false, tag := "", pkgPath := "", byteOffset := 4 }]) 2 8 (Value.agg #[Value.int IntKind.u8 0, Value.int IntKind.u32 0]) := ⟨Tryd.underlying29, Tryd.t29, info_of Tryd.typeInfo29, rfl, rfl, rfl⟩
instance : Fld Tryd.prog 29 0 0 5 := ⟨_, _, Tryd.underlying29, rfl, rfl, rfl⟩
instance : Fld Tryd.prog 29 1 1 28 := ⟨_, _, Tryd.underlying29, rfl, rfl, rfl⟩
instance : EqG Tryd.prog 29 := ⟨Tryd.eqGuardType29⟩
instance : Ty Tryd.prog 30 (TypeDesc.struct #[{ name := "Rep", type := 5, offset := 0, embedded := false, tag := "", pkgPath := "", byteOffset := 0 }, { name := "Seq", type := 28, offset := 1, embedded := false, tag := "", pkgPath := "", byteOffset := 4 }]) 2 8 (Value.agg #[Value.int IntKind.u8 0, Value.int IntKind.u32 0]) := ⟨Tryd.underlying30, Tryd.t30, info_of Tryd.typeInfo30, rfl, rfl, rfl⟩
instance : Fld Tryd.prog 30 0 0 5 := ⟨_, _, Tryd.underlying30, rfl, rfl, rfl⟩
instance : Fld Tryd.prog 30 1 1 28 := ⟨_, _, Tryd.underlying30, rfl, rfl, rfl⟩
instance : EqG Tryd.prog 30 := ⟨Tryd.eqGuardType30⟩
instance : Ty Tryd.prog 31 (TypeDesc.struct #[{ name := "Cart", type := 27, offset := 0, embedded := false, tag := "", pkgPath := "", byteOffset := 0 }, { name := "Dot", type := 30, offset := 1, embedded := false, tag := "", pkgPath := "", byteOffset := 4 }]) 3 12 (Value.agg #[Value.int IntKind.u16 0, Value.int IntKind.u8 0, Value.int IntKind.u32 0]) := ⟨Tryd.underlying31, Tryd.t31, info_of Tryd.typeInfo31, rfl, rfl, rfl⟩
instance : Fld Tryd.prog 31 0 0 27 := ⟨_, _, Tryd.underlying31, rfl, rfl, rfl⟩
instance : Fld Tryd.prog 31 1 1 30 := ⟨_, _, Tryd.underlying31, rfl, rfl, rfl⟩
instance : EqG Tryd.prog 31 := ⟨Tryd.eqGuardType31⟩
instance : Ty Tryd.prog 32 (TypeDesc.struct #[{ name := "Cart", type := 27, offset := 0, embedded := false, tag := "", pkgPath := "", byteOffset := 0 }, { name := "Dot", type := 30, offset := 1, embedded := false, tag := "", pkgPath := "", byteOffset := 4 }]) 3 12 (Value.agg #[Value.int IntKind.u16 0, Value.int IntKind.u8 0, Value.int IntKind.u32 0]) := ⟨Tryd.underlying32, Tryd.t32, info_of Tryd.typeInfo32, rfl, rfl, rfl⟩
instance : Fld Tryd.prog 32 0 0 27 := ⟨_, _, Tryd.underlying32, rfl, rfl, rfl⟩
instance : Fld Tryd.prog 32 1 1 30 := ⟨_, _, Tryd.underlying32, rfl, rfl, rfl⟩
instance : EqG Tryd.prog 32 := ⟨Tryd.eqGuardType32⟩
instance : Ty Tryd.prog 33 (TypeDesc.func #[] #[4] false) 1 8 Value.nilFunc := ⟨Tryd.underlying33, Tryd.t33, info_of Tryd.typeInfo33, rfl, rfl, rfl⟩
instance : Ty Tryd.prog 34 (TypeDesc.func #[26] #[4] false) 1 8 Value.nilFunc := ⟨Tryd.underlying34, Tryd.t34, info_of Tryd.typeInfo34, rfl, rfl, rfl⟩
instance : Ty Tryd.prog 35 (TypeDesc.tuple #[3, 4]) 1 0 (Value.tuple #[Value.int IntKind.i64 0, Value.bool false]) := ⟨Tryd.underlying35, Tryd.t35, info_of Tryd.typeInfo35, rfl, rfl, rfl⟩
instance : Ty Tryd.prog 36 (TypeDesc.func #[40, 42] #[3, 4] false) 1 8 Value.nilFunc := ⟨Tryd.underlying36, Tryd.t36, info_of Tryd.typeInfo36, rfl, rfl, rfl⟩
instance : Ty Tryd.prog 37 (TypeDesc.slice 42) 1 24 (Value.slice none 0 0) := ⟨Tryd.underlying37, Tryd.t37, info_of Tryd.typeInfo37, rfl, rfl, rfl⟩
instance : Ty Tryd.prog 38 (TypeDesc.slice 114) 1 24 (Value.slice none 0 0) := ⟨Tryd.underlying38, Tryd.t38, info_of Tryd.typeInfo38, rfl, rfl, rfl⟩
instance : Ty Tryd.prog 39 (TypeDesc.struct #[{ name := "Leaf", type := 4, offset := 0, embedded := false, tag := "", pkgPath := "", byteOffset := 0 }, { name := "Keys", type := 37, offset := 1, embedded := false, tag := "", pkgPath := "", byteOffset := 8 }, { name := "Locs", type := 38, offset := 2, embedded := false, tag := "", pkgPath := "", byteOffset := 32 }, { name := "Kids", type := 24, offset := 3, embedded := false, tag := "", pkgPath := "", byteOffset := 56 }]) 4 80 (Value.agg #[Value.bool false, Value.slice none 0 0, Value.slice none 0 0, Value.slice none 0 0]) := ⟨Tryd.underlying39, Tryd.t39, info_of Tryd.typeInfo39, rfl, rfl, rfl⟩
instance : Fld Tryd.prog 39 0 0 4 := ⟨_, _, Tryd.underlying39, rfl, rfl, rfl⟩
instance : Fld Tryd.prog 39 1 1 37 := ⟨_, _, Tryd.underlying39, rfl, rfl, rfl⟩
instance : Fld Tryd.prog 39 2 2 38 := ⟨_, _, Tryd.underlying39, rfl, rfl, rfl⟩
instance : Fld Tryd.prog 39 3 3 24 := ⟨_, _, Tryd.underlying39, rfl, rfl, rfl⟩
instance : EqG Tryd.prog 39 := ⟨Tryd.eqGuardType39⟩
instance : Ty Tryd.prog 40 (TypeDesc.struct #[{ name := "Leaf", type := 4, offset := 0, embedded := false, tag := "", pkgPath := "", byteOffset := 0 }, { name := "Keys", type := 37, offset := 1, embedded := false, tag := "", pkgPath := "", byteOffset := 8 }, { name := "Locs", type := 38, offset := 2, embedded := false, tag := "", pkgPath := "", byteOffset := 32 }, { name := "Kids", type := 24, offset := 3, embedded := false, tag := "", pkgPath := "", byteOffset := 56 }]) 4 80 (Value.agg #[Value.bool false, Value.slice none 0 0, Value.slice none 0 0, Value.slice none 0 0]) := ⟨Tryd.underlying40, Tryd.t40, info_of Tryd.typeInfo40, rfl, rfl, rfl⟩
instance : Fld Tryd.prog 40 0 0 4 := ⟨_, _, Tryd.underlying40, rfl, rfl, rfl⟩
instance : Fld Tryd.prog 40 1 1 37 := ⟨_, _, Tryd.underlying40, rfl, rfl, rfl⟩
instance : Fld Tryd.prog 40 2 2 38 := ⟨_, _, Tryd.underlying40, rfl, rfl, rfl⟩
instance : Fld Tryd.prog 40 3 3 24 := ⟨_, _, Tryd.underlying40, rfl, rfl, rfl⟩
instance : EqG Tryd.prog 40 := ⟨Tryd.eqGuardType40⟩
instance : Ty Tryd.prog 41 (TypeDesc.func #[26] #[40] false) 1 8 Value.nilFunc := ⟨Tryd.underlying41, Tryd.t41, info_of Tryd.typeInfo41, rfl, rfl, rfl⟩
instance : Ty Tryd.prog 42 (TypeDesc.struct #[{ name := "Cart", type := 27, offset := 0, embedded := false, tag := "", pkgPath := "", byteOffset := 0 }, { name := "Dot", type := 30, offset := 1, embedded := false, tag := "", pkgPath := "", byteOffset := 4 }]) 3 12 (Value.agg #[Value.int IntKind.u16 0, Value.int IntKind.u8 0, Value.int IntKind.u32 0]) := ⟨Tryd.underlying42, Tryd.t42, info_of Tryd.typeInfo42, rfl, rfl, rfl⟩
instance : Fld Tryd.prog 42 0 0 27 := ⟨_, _, Tryd.underlying42, rfl, rfl, rfl⟩
instance : Fld Tryd.prog 42 1 1 30 := ⟨_, _, Tryd.underlying42, rfl, rfl, rfl⟩
instance : EqG Tryd.prog 42 := ⟨Tryd.eqGuardType42⟩
instance : Ty Tryd.prog 43 (TypeDesc.func #[26, 32] #[3, 4] false) 1 8 Value.nilFunc := ⟨Tryd.underlying43, Tryd.t43, info_of Tryd.typeInfo43, rfl, rfl, rfl⟩
instance : Ty Tryd.prog 44 (TypeDesc.func #[40] #[4] false) 1 8 Value.nilFunc := ⟨Tryd.underlying44, Tryd.t44, info_of Tryd.typeInfo44, rfl, rfl, rfl⟩
instance : Ty Tryd.prog 45 (TypeDesc.func #[42, 42] #[4] false) 1 8 Value.nilFunc := ⟨Tryd.underlying45, Tryd.t45, info_of Tryd.typeInfo45, rfl, rfl, rfl⟩
instance : Ty Tryd.prog 46 (TypeDesc.func #[32, 32] #[4] false) 1 8 Value.nilFunc := ⟨Tryd.underlying46, Tryd.t46, info_of Tryd.typeInfo46, rfl, rfl, rfl⟩
instance : Ty Tryd.prog 47 (TypeDesc.func #[26, 32, 32] #[4] false) 1 8 Value.nilFunc := ⟨Tryd.underlying47, Tryd.t47, info_of Tryd.typeInfo47, rfl, rfl, rfl⟩
instance : Ty Tryd.prog 48 (TypeDesc.slice 5) 1 24 (Value.slice none 0 0) := ⟨Tryd.underlying48, Tryd.t48, info_of Tryd.typeInfo48, rfl, rfl, rfl⟩
instance : Ty Tryd.prog 49 (TypeDesc.int IntKind.i64) 1 8 (Value.int IntKind.i64 0) := ⟨Tryd.underlying49, Tryd.t49, info_of Tryd.typeInfo49, rfl, rfl, rfl⟩
instance : Ty Tryd.prog 50 (TypeDesc.tuple #[48, 49]) 1 0 (Value.tuple #[Value.slice none 0 0, Value.int IntKind.i64 0]) := ⟨Tryd.underlying50, Tryd.t50, info_of Tryd.typeInfo50, rfl, rfl, rfl⟩
instance : Ty Tryd.prog 51 (TypeDesc.func #[40] #[48, 49] false) 1 8 Value.nilFunc := ⟨Tryd.underlying51, Tryd.t51, info_of Tryd.typeInfo51, rfl, rfl, rfl⟩
instance : Ty Tryd.prog 52 (TypeDesc.tuple #[48, 3]) 1 0 (Value.tuple #[Value.slice none 0 0, Value.int IntKind.i64 0]) := ⟨Tryd.underlying52, Tryd.t52, info_of Tryd.typeInfo52, rfl, rfl, rfl⟩
instance : Ty Tryd.prog 53 (TypeDesc.func #[26] #[48, 3] false) 1 8 Value.nilFunc := ⟨Tryd.underlying53, Tryd.t53, info_of Tryd.typeInfo53, rfl, rfl, rfl⟩
instance : Ty Tryd.prog 54 (TypeDesc.tuple #[40, 49]) 1 0 (Value.tuple #[Value.agg #[Value.bool false, Value.slice none 0 0, Value.slice none 0 0, Value.slice none 0 0], Value.int IntKind.i64 0]) := ⟨Tryd.underlying54, Tryd.t54, info_of Tryd.typeInfo54, rfl, rfl, rfl⟩
instance : Ty Tryd.prog 55 (TypeDesc.func #[48] #[40, 49] false) 1 8 Value.nilFunc := ⟨Tryd.underlying55, Tryd.t55, info_of Tryd.typeInfo55, rfl, rfl, rfl⟩
instance : Ty Tryd.prog 56 (TypeDesc.tuple #[26, 3]) 1 0 (Value.tuple #[Value.agg #[Value.bool false, Value.slice none 0 0, Value.slice none 0 0, Value.slice none 0 0], Value.int IntKind.i64 0]) := ⟨Tryd.underlying56, Tryd.t56, info_of Tryd.typeInfo56, rfl, rfl, rfl⟩
instance : Ty Tryd.prog 57 (TypeDesc.func #[48] #[26, 3] false) 1 8 Value.nilFunc := ⟨Tryd.underlying57, Tryd.t57, info_of Tryd.typeInfo57, rfl, rfl, rfl⟩
instance : Ty Tryd.prog 58 (TypeDesc.func #[26, 26] #[4] false) 1 8 Value.nilFunc := ⟨Tryd.underlying58, Tryd.t58, info_of Tryd.typeInfo58, rfl, rfl, rfl⟩
instance : Ty Tryd.prog 59 (TypeDesc.func #[40] #[26] false) 1 8 Value.nilFunc := ⟨Tryd.underlying59, Tryd.t59, info_of Tryd.typeInfo59, rfl, rfl, rfl⟩
instance : Ty Tryd.prog 60 (TypeDesc.func #[26, 48] #[4] false) 1 8 Value.nilFunc := ⟨Tryd.underlying60, Tryd.t60, info_of Tryd.typeInfo60, rfl, rfl, rfl⟩
instance : Ty Tryd.prog 61 (TypeDesc.func #[32, 32, 32] #[4] false) 1 8 Value.nilFunc := ⟨Tryd.underlying61, Tryd.t61, info_of Tryd.typeInfo61, rfl, rfl, rfl⟩
instance : Ty Tryd.prog 62 (TypeDesc.func #[26, 32] #[4] false) 1 8 Value.nilFunc := ⟨Tryd.underlying62, Tryd.t62, info_of Tryd.typeInfo62, rfl, rfl, rfl⟩
instance : Ty Tryd.prog 63 (TypeDesc.func #[26, 26, 27] #[4] false) 1 8 Value.nilFunc := ⟨Tryd.underlying63, Tryd.t63, info_of Tryd.typeInfo63, rfl, rfl, rfl⟩
instance : Ty Tryd.prog 64 (TypeDesc.array 16 28) 16 64 (Value.agg #[Value.int IntKind.u32 0, Value.int IntKind.u32 0, Value.int IntKind.u32 0, Value.int IntKind.u32 0, Value.int IntKind.u32 0, Value.int IntKind.u32 0, Value.int IntKind.u32 0, Value.int IntKind.u32 0, Value.int IntKind.u32 0, Value.int IntKind.u32 0, Value.int IntKind.u32 0, Value.int IntKind.u32 0, Value.int IntKind.u32 0, Value.int IntKind.u32 0, Value.int IntKind.u32 0, Value.int IntKind.u32 0]) := ⟨Tryd.underlying64, Tryd.t64, info_of Tryd.typeInfo64, rfl, rfl, rfl⟩
instance : EqG Tryd.prog 64 := ⟨Tryd.eqGuardType64⟩
instance : Ty Tryd.prog 65 (TypeDesc.array 16 28) 16 64 (Value.agg #[Value.int IntKind.u32 0, Value.int IntKind.u32 0, Value.int IntKind.u32 0, Value.int IntKind.u32 0, Value.int IntKind.u32 0, Value.int IntKind.u32 0, Value.int IntKind.u32 0, Value.int IntKind.u32 0, Value.int IntKind.u32 0, Value.int IntKind.u32 0, Value.int IntKind.u32 0, Value.int IntKind.u32 0, Value.int IntKind.u32 0, Value.int IntKind.u32 0, Value.int IntKind.u32 0, Value.int IntKind.u32 0]) := ⟨Tryd.underlying65, Tryd.t65, info_of Tryd.typeInfo65, rfl, rfl, rfl⟩
instance : EqG Tryd.prog 65 := ⟨Tryd.eqGuardType65⟩
instance : Ty Tryd.prog 66 (TypeDesc.struct #[{ name := "Dot", type := 30, offset := 0, embedded := false, tag := "", pkgPath := "", byteOffset := 0 }, { name := "Kind", type := 5, offset := 2, embedded := false, tag := "", pkgPath := "", byteOffset := 8 }, { name := "Cart", type := 27, offset := 3, embedded := false, tag := "", pkgPath := "", byteOffset := 10 }, { name := "Item", type := 27, offset := 4, embedded := false, tag := "", pkgPath := "", byteOffset := 12 }, { name := "Qty", type := 27, offset := 5, embedded := false, tag := "", pkgPath := "", byteOffset := 14 }, { name := "Tick", type := 28, offset := 6, embedded := false, tag := "", pkgPath := "", byteOffset := 16 }, { name := "Ctx", type := 65, offset := 7, embedded := false, tag := "", pkgPath := "", byteOffset := 20 }]) 23 84 (Value.agg #[Value.int IntKind.u8 0, Value.int IntKind.u32 0, Value.int IntKind.u8 0, Value.int IntKind.u16 0, Value.int IntKind.u16 0, Value.int IntKind.u16 0, Value.int IntKind.u32 0, Value.int IntKind.u32 0, Value.int IntKind.u32 0, Value.int IntKind.u32 0, Value.int IntKind.u32 0, Value.int IntKind.u32 0, Value.int IntKind.u32 0, Value.int IntKind.u32 0, Value.int IntKind.u32 0, Value.int IntKind.u32 0, Value.int IntKind.u32 0, Value.int IntKind.u32 0, Value.int IntKind.u32 0, Value.int IntKind.u32 0, Value.int IntKind.u32 0, Value.int IntKind.u32 0, Value.int IntKind.u32 0]) := ⟨Tryd.underlying66, Tryd.t66, info_of Tryd.typeInfo66, rfl, rfl, rfl⟩
instance : Fld Tryd.prog 66 0 0 30 := ⟨_, _, Tryd.underlying66, rfl, rfl, rfl⟩
instance : Fld Tryd.prog 66 1 2 5 := ⟨_, _, Tryd.underlying66, rfl, rfl, rfl⟩
instance : Fld Tryd.prog 66 2 3 27 := ⟨_, _, Tryd.underlying66, rfl, rfl, rfl⟩
instance : Fld Tryd.prog 66 3 4 27 := ⟨_, _, Tryd.underlying66, rfl, rfl, rfl⟩
instance : Fld Tryd.prog 66 4 5 27 := ⟨_, _, Tryd.underlying66, rfl, rfl, rfl⟩
instance : Fld Tryd.prog 66 5 6 28 := ⟨_, _, Tryd.underlying66, rfl, rfl, rfl⟩
instance : Fld Tryd.prog 66 6 7 65 := ⟨_, _, Tryd.underlying66, rfl, rfl, rfl⟩
instance : EqG Tryd.prog 66 := ⟨Tryd.eqGuardType66⟩
instance : Ty Tryd.prog 67 (TypeDesc.struct #[{ name := "Dot", type := 30, offset := 0, embedded := false, tag := "", pkgPath := "", byteOffset := 0 }, { name := "Kind", type := 5, offset := 2, embedded := false, tag := "", pkgPath := "", byteOffset := 8 }, { name := "Cart", type := 27, offset := 3, embedded := false, tag := "", pkgPath := "", byteOffset := 10 }, { name := "Item", type := 27, offset := 4, embedded := false, tag := "", pkgPath := "", byteOffset := 12 }, { name := "Qty", type := 27, offset := 5, embedded := false, tag := "", pkgPath := "", byteOffset := 14 }, { name := "Tick", type := 28, offset := 6, embedded := false, tag := "", pkgPath := "", byteOffset := 16 }, { name := "Ctx", type := 65, offset := 7, embedded := false, tag := "", pkgPath := "", byteOffset := 20 }]) 23 84 (Value.agg #[Value.int IntKind.u8 0, Value.int IntKind.u32 0, Value.int IntKind.u8 0, Value.int IntKind.u16 0, Value.int IntKind.u16 0, Value.int IntKind.u16 0, Value.int IntKind.u32 0, Value.int IntKind.u32 0, Value.int IntKind.u32 0, Value.int IntKind.u32 0, Value.int IntKind.u32 0, Value.int IntKind.u32 0, Value.int IntKind.u32 0, Value.int IntKind.u32 0, Value.int IntKind.u32 0, Value.int IntKind.u32 0, Value.int IntKind.u32 0, Value.int IntKind.u32 0, Value.int IntKind.u32 0, Value.int IntKind.u32 0, Value.int IntKind.u32 0, Value.int IntKind.u32 0, Value.int IntKind.u32 0]) := ⟨Tryd.underlying67, Tryd.t67, info_of Tryd.typeInfo67, rfl, rfl, rfl⟩
instance : Fld Tryd.prog 67 0 0 30 := ⟨_, _, Tryd.underlying67, rfl, rfl, rfl⟩
instance : Fld Tryd.prog 67 1 2 5 := ⟨_, _, Tryd.underlying67, rfl, rfl, rfl⟩
instance : Fld Tryd.prog 67 2 3 27 := ⟨_, _, Tryd.underlying67, rfl, rfl, rfl⟩
instance : Fld Tryd.prog 67 3 4 27 := ⟨_, _, Tryd.underlying67, rfl, rfl, rfl⟩
instance : Fld Tryd.prog 67 4 5 27 := ⟨_, _, Tryd.underlying67, rfl, rfl, rfl⟩
instance : Fld Tryd.prog 67 5 6 28 := ⟨_, _, Tryd.underlying67, rfl, rfl, rfl⟩
instance : Fld Tryd.prog 67 6 7 65 := ⟨_, _, Tryd.underlying67, rfl, rfl, rfl⟩
instance : EqG Tryd.prog 67 := ⟨Tryd.eqGuardType67⟩
instance : Ty Tryd.prog 68 (TypeDesc.func #[67] #[48, 49] false) 1 8 Value.nilFunc := ⟨Tryd.underlying68, Tryd.t68, info_of Tryd.typeInfo68, rfl, rfl, rfl⟩
instance : Ty Tryd.prog 69 (TypeDesc.func #[67] #[48, 3] false) 1 8 Value.nilFunc := ⟨Tryd.underlying69, Tryd.t69, info_of Tryd.typeInfo69, rfl, rfl, rfl⟩
instance : Ty Tryd.prog 70 (TypeDesc.func #[3] #[48, 49] false) 1 8 Value.nilFunc := ⟨Tryd.underlying70, Tryd.t70, info_of Tryd.typeInfo70, rfl, rfl, rfl⟩
instance : Ty Tryd.prog 71 (TypeDesc.func #[3] #[48, 3] false) 1 8 Value.nilFunc := ⟨Tryd.underlying71, Tryd.t71, info_of Tryd.typeInfo71, rfl, rfl, rfl⟩
instance : Ty Tryd.prog 72 (TypeDesc.func #[28] #[48] false) 1 8 Value.nilFunc := ⟨Tryd.underlying72, Tryd.t72, info_of Tryd.typeInfo72, rfl, rfl, rfl⟩
instance : Ty Tryd.prog 73 (TypeDesc.func #[28, 67, 3] #[4] false) 1 8 Value.nilFunc := ⟨Tryd.underlying73, Tryd.t73, info_of Tryd.typeInfo73, rfl, rfl, rfl⟩
instance : Ty Tryd.prog 74 (TypeDesc.slice 67) 1 24 (Value.slice none 0 0) := ⟨Tryd.underlying74, Tryd.t74, info_of Tryd.typeInfo74, rfl, rfl, rfl⟩
instance : Ty Tryd.prog 75 (TypeDesc.slice 3) 1 24 (Value.slice none 0 0) := ⟨Tryd.underlying75, Tryd.t75, info_of Tryd.typeInfo75, rfl, rfl, rfl⟩
instance : Ty Tryd.prog 76 (TypeDesc.struct #[{ name := "Id", type := 28, offset := 0, embedded := false, tag := "", pkgPath := "", byteOffset := 0 }, { name := "Ops", type := 74, offset := 1, embedded := false, tag := "", pkgPath := "", byteOffset := 8 }, { name := "At", type := 75, offset := 2, embedded := false, tag := "", pkgPath := "", byteOffset := 32 }, { name := "Sealed", type := 4, offset := 3, embedded := false, tag := "", pkgPath := "", byteOffset := 56 }, { name := "Used", type := 3, offset := 4, embedded := false, tag := "", pkgPath := "", byteOffset := 64 }]) 5 72 (Value.agg #[Value.int IntKind.u32 0, Value.slice none 0 0, Value.slice none 0 0, Value.bool false, Value.int IntKind.i64 0]) := ⟨Tryd.underlying76, Tryd.t76, info_of Tryd.typeInfo76, rfl, rfl, rfl⟩
instance : Fld Tryd.prog 76 0 0 28 := ⟨_, _, Tryd.underlying76, rfl, rfl, rfl⟩
instance : Fld Tryd.prog 76 1 1 74 := ⟨_, _, Tryd.underlying76, rfl, rfl, rfl⟩
instance : Fld Tryd.prog 76 2 2 75 := ⟨_, _, Tryd.underlying76, rfl, rfl, rfl⟩
instance : Fld Tryd.prog 76 3 3 4 := ⟨_, _, Tryd.underlying76, rfl, rfl, rfl⟩
instance : Fld Tryd.prog 76 4 4 3 := ⟨_, _, Tryd.underlying76, rfl, rfl, rfl⟩
instance : EqG Tryd.prog 76 := ⟨Tryd.eqGuardType76⟩
instance : Ty Tryd.prog 77 (TypeDesc.struct #[{ name := "Id", type := 28, offset := 0, embedded := false, tag := "", pkgPath := "", byteOffset := 0 }, { name := "Ops", type := 74, offset := 1, embedded := false, tag := "", pkgPath := "", byteOffset := 8 }, { name := "At", type := 75, offset := 2, embedded := false, tag := "", pkgPath := "", byteOffset := 32 }, { name := "Sealed", type := 4, offset := 3, embedded := false, tag := "", pkgPath := "", byteOffset := 56 }, { name := "Used", type := 3, offset := 4, embedded := false, tag := "", pkgPath := "", byteOffset := 64 }]) 5 72 (Value.agg #[Value.int IntKind.u32 0, Value.slice none 0 0, Value.slice none 0 0, Value.bool false, Value.int IntKind.i64 0]) := ⟨Tryd.underlying77, Tryd.t77, info_of Tryd.typeInfo77, rfl, rfl, rfl⟩
instance : Fld Tryd.prog 77 0 0 28 := ⟨_, _, Tryd.underlying77, rfl, rfl, rfl⟩
instance : Fld Tryd.prog 77 1 1 74 := ⟨_, _, Tryd.underlying77, rfl, rfl, rfl⟩
instance : Fld Tryd.prog 77 2 2 75 := ⟨_, _, Tryd.underlying77, rfl, rfl, rfl⟩
instance : Fld Tryd.prog 77 3 3 4 := ⟨_, _, Tryd.underlying77, rfl, rfl, rfl⟩
instance : Fld Tryd.prog 77 4 4 3 := ⟨_, _, Tryd.underlying77, rfl, rfl, rfl⟩
instance : EqG Tryd.prog 77 := ⟨Tryd.eqGuardType77⟩
instance : Ty Tryd.prog 78 (TypeDesc.tuple #[77, 49]) 1 0 (Value.tuple #[Value.agg #[Value.int IntKind.u32 0, Value.slice none 0 0, Value.slice none 0 0, Value.bool false, Value.int IntKind.i64 0], Value.int IntKind.i64 0]) := ⟨Tryd.underlying78, Tryd.t78, info_of Tryd.typeInfo78, rfl, rfl, rfl⟩
instance : Ty Tryd.prog 79 (TypeDesc.func #[48] #[77, 49] false) 1 8 Value.nilFunc := ⟨Tryd.underlying79, Tryd.t79, info_of Tryd.typeInfo79, rfl, rfl, rfl⟩
instance : Ty Tryd.prog 80 (TypeDesc.struct #[{ name := "Id", type := 28, offset := 0, embedded := false, tag := "", pkgPath := "", byteOffset := 0 }, { name := "Ops", type := 74, offset := 1, embedded := false, tag := "", pkgPath := "", byteOffset := 8 }, { name := "At", type := 75, offset := 2, embedded := false, tag := "", pkgPath := "", byteOffset := 32 }, { name := "Sealed", type := 4, offset := 3, embedded := false, tag := "", pkgPath := "", byteOffset := 56 }, { name := "Used", type := 3, offset := 4, embedded := false, tag := "", pkgPath := "", byteOffset := 64 }]) 5 72 (Value.agg #[Value.int IntKind.u32 0, Value.slice none 0 0, Value.slice none 0 0, Value.bool false, Value.int IntKind.i64 0]) := ⟨Tryd.underlying80, Tryd.t80, info_of Tryd.typeInfo80, rfl, rfl, rfl⟩
instance : Fld Tryd.prog 80 0 0 28 := ⟨_, _, Tryd.underlying80, rfl, rfl, rfl⟩
instance : Fld Tryd.prog 80 1 1 74 := ⟨_, _, Tryd.underlying80, rfl, rfl, rfl⟩
instance : Fld Tryd.prog 80 2 2 75 := ⟨_, _, Tryd.underlying80, rfl, rfl, rfl⟩
instance : Fld Tryd.prog 80 3 3 4 := ⟨_, _, Tryd.underlying80, rfl, rfl, rfl⟩
instance : Fld Tryd.prog 80 4 4 3 := ⟨_, _, Tryd.underlying80, rfl, rfl, rfl⟩
instance : EqG Tryd.prog 80 := ⟨Tryd.eqGuardType80⟩
instance : Ty Tryd.prog 81 (TypeDesc.tuple #[80, 3]) 1 0 (Value.tuple #[Value.agg #[Value.int IntKind.u32 0, Value.slice none 0 0, Value.slice none 0 0, Value.bool false, Value.int IntKind.i64 0], Value.int IntKind.i64 0]) := ⟨Tryd.underlying81, Tryd.t81, info_of Tryd.typeInfo81, rfl, rfl, rfl⟩
instance : Ty Tryd.prog 82 (TypeDesc.func #[48] #[80, 3] false) 1 8 Value.nilFunc := ⟨Tryd.underlying82, Tryd.t82, info_of Tryd.typeInfo82, rfl, rfl, rfl⟩
instance : Ty Tryd.prog 83 (TypeDesc.func #[80, 80] #[4] false) 1 8 Value.nilFunc := ⟨Tryd.underlying83, Tryd.t83, info_of Tryd.typeInfo83, rfl, rfl, rfl⟩
instance : Ty Tryd.prog 84 (TypeDesc.func #[77] #[80] false) 1 8 Value.nilFunc := ⟨Tryd.underlying84, Tryd.t84, info_of Tryd.typeInfo84, rfl, rfl, rfl⟩
instance : Ty Tryd.prog 85 (TypeDesc.func #[48] #[4] false) 1 8 Value.nilFunc := ⟨Tryd.underlying85, Tryd.t85, info_of Tryd.typeInfo85, rfl, rfl, rfl⟩
instance : Ty Tryd.prog 86 (TypeDesc.tuple #[48, 74, 75, 4]) 1 0 (Value.tuple #[Value.slice none 0 0, Value.slice none 0 0, Value.slice none 0 0, Value.bool false]) := ⟨Tryd.underlying86, Tryd.t86, info_of Tryd.typeInfo86, rfl, rfl, rfl⟩
instance : Ty Tryd.prog 87 (TypeDesc.func #[28, 74] #[48, 74, 75, 4] false) 1 8 Value.nilFunc := ⟨Tryd.underlying87, Tryd.t87, info_of Tryd.typeInfo87, rfl, rfl, rfl⟩
instance : Ty Tryd.prog 88 (TypeDesc.func #[28, 74, 27] #[4] false) 1 8 Value.nilFunc := ⟨Tryd.underlying88, Tryd.t88, info_of Tryd.typeInfo88, rfl, rfl, rfl⟩
instance : Ty Tryd.prog 89 (TypeDesc.func #[28, 74] #[4] false) 1 8 Value.nilFunc := ⟨Tryd.underlying89, Tryd.t89, info_of Tryd.typeInfo89, rfl, rfl, rfl⟩
instance : Ty Tryd.prog 90 (TypeDesc.func #[28] #[4] false) 1 8 Value.nilFunc := ⟨Tryd.underlying90, Tryd.t90, info_of Tryd.typeInfo90, rfl, rfl, rfl⟩
instance : Ty Tryd.prog 91 (TypeDesc.int IntKind.u64) 1 8 (Value.int IntKind.u64 0) := ⟨Tryd.underlying91, Tryd.t91, info_of Tryd.typeInfo91, rfl, rfl, rfl⟩
instance : Ty Tryd.prog 92 (TypeDesc.struct #[{ name := "Version", type := 91, offset := 0, embedded := false, tag := "", pkgPath := "", byteOffset := 0 }, { name := "Floor", type := 65, offset := 1, embedded := false, tag := "", pkgPath := "", byteOffset := 8 }, { name := "Base", type := 28, offset := 17, embedded := false, tag := "", pkgPath := "", byteOffset := 72 }, { name := "Segs", type := 24, offset := 18, embedded := false, tag := "", pkgPath := "", byteOffset := 80 }, { name := "Next", type := 28, offset := 19, embedded := false, tag := "", pkgPath := "", byteOffset := 104 }]) 20 112 (Value.agg #[Value.int IntKind.u64 0, Value.int IntKind.u32 0, Value.int IntKind.u32 0, Value.int IntKind.u32 0, Value.int IntKind.u32 0, Value.int IntKind.u32 0, Value.int IntKind.u32 0, Value.int IntKind.u32 0, Value.int IntKind.u32 0, Value.int IntKind.u32 0, Value.int IntKind.u32 0, Value.int IntKind.u32 0, Value.int IntKind.u32 0, Value.int IntKind.u32 0, Value.int IntKind.u32 0, Value.int IntKind.u32 0, Value.int IntKind.u32 0, Value.int IntKind.u32 0, Value.slice none 0 0, Value.int IntKind.u32 0]) := ⟨Tryd.underlying92, Tryd.t92, info_of Tryd.typeInfo92, rfl, rfl, rfl⟩
instance : Fld Tryd.prog 92 0 0 91 := ⟨_, _, Tryd.underlying92, rfl, rfl, rfl⟩
instance : Fld Tryd.prog 92 1 1 65 := ⟨_, _, Tryd.underlying92, rfl, rfl, rfl⟩
instance : Fld Tryd.prog 92 2 17 28 := ⟨_, _, Tryd.underlying92, rfl, rfl, rfl⟩
instance : Fld Tryd.prog 92 3 18 24 := ⟨_, _, Tryd.underlying92, rfl, rfl, rfl⟩
instance : Fld Tryd.prog 92 4 19 28 := ⟨_, _, Tryd.underlying92, rfl, rfl, rfl⟩
instance : EqG Tryd.prog 92 := ⟨Tryd.eqGuardType92⟩
instance : Ty Tryd.prog 93 (TypeDesc.struct #[{ name := "Version", type := 91, offset := 0, embedded := false, tag := "", pkgPath := "", byteOffset := 0 }, { name := "Floor", type := 65, offset := 1, embedded := false, tag := "", pkgPath := "", byteOffset := 8 }, { name := "Base", type := 28, offset := 17, embedded := false, tag := "", pkgPath := "", byteOffset := 72 }, { name := "Segs", type := 24, offset := 18, embedded := false, tag := "", pkgPath := "", byteOffset := 80 }, { name := "Next", type := 28, offset := 19, embedded := false, tag := "", pkgPath := "", byteOffset := 104 }]) 20 112 (Value.agg #[Value.int IntKind.u64 0, Value.int IntKind.u32 0, Value.int IntKind.u32 0, Value.int IntKind.u32 0, Value.int IntKind.u32 0, Value.int IntKind.u32 0, Value.int IntKind.u32 0, Value.int IntKind.u32 0, Value.int IntKind.u32 0, Value.int IntKind.u32 0, Value.int IntKind.u32 0, Value.int IntKind.u32 0, Value.int IntKind.u32 0, Value.int IntKind.u32 0, Value.int IntKind.u32 0, Value.int IntKind.u32 0, Value.int IntKind.u32 0, Value.int IntKind.u32 0, Value.slice none 0 0, Value.int IntKind.u32 0]) := ⟨Tryd.underlying93, Tryd.t93, info_of Tryd.typeInfo93, rfl, rfl, rfl⟩
instance : Fld Tryd.prog 93 0 0 91 := ⟨_, _, Tryd.underlying93, rfl, rfl, rfl⟩
instance : Fld Tryd.prog 93 1 1 65 := ⟨_, _, Tryd.underlying93, rfl, rfl, rfl⟩
instance : Fld Tryd.prog 93 2 17 28 := ⟨_, _, Tryd.underlying93, rfl, rfl, rfl⟩
instance : Fld Tryd.prog 93 3 18 24 := ⟨_, _, Tryd.underlying93, rfl, rfl, rfl⟩
instance : Fld Tryd.prog 93 4 19 28 := ⟨_, _, Tryd.underlying93, rfl, rfl, rfl⟩
instance : EqG Tryd.prog 93 := ⟨Tryd.eqGuardType93⟩
instance : Ty Tryd.prog 94 (TypeDesc.func #[95] #[48, 49] false) 1 8 Value.nilFunc := ⟨Tryd.underlying94, Tryd.t94, info_of Tryd.typeInfo94, rfl, rfl, rfl⟩
instance : Ty Tryd.prog 95 (TypeDesc.struct #[{ name := "Version", type := 91, offset := 0, embedded := false, tag := "", pkgPath := "", byteOffset := 0 }, { name := "Floor", type := 65, offset := 1, embedded := false, tag := "", pkgPath := "", byteOffset := 8 }, { name := "Base", type := 28, offset := 17, embedded := false, tag := "", pkgPath := "", byteOffset := 72 }, { name := "Segs", type := 24, offset := 18, embedded := false, tag := "", pkgPath := "", byteOffset := 80 }, { name := "Next", type := 28, offset := 19, embedded := false, tag := "", pkgPath := "", byteOffset := 104 }]) 20 112 (Value.agg #[Value.int IntKind.u64 0, Value.int IntKind.u32 0, Value.int IntKind.u32 0, Value.int IntKind.u32 0, Value.int IntKind.u32 0, Value.int IntKind.u32 0, Value.int IntKind.u32 0, Value.int IntKind.u32 0, Value.int IntKind.u32 0, Value.int IntKind.u32 0, Value.int IntKind.u32 0, Value.int IntKind.u32 0, Value.int IntKind.u32 0, Value.int IntKind.u32 0, Value.int IntKind.u32 0, Value.int IntKind.u32 0, Value.int IntKind.u32 0, Value.int IntKind.u32 0, Value.slice none 0 0, Value.int IntKind.u32 0]) := ⟨Tryd.underlying95, Tryd.t95, info_of Tryd.typeInfo95, rfl, rfl, rfl⟩
instance : Fld Tryd.prog 95 0 0 91 := ⟨_, _, Tryd.underlying95, rfl, rfl, rfl⟩
instance : Fld Tryd.prog 95 1 1 65 := ⟨_, _, Tryd.underlying95, rfl, rfl, rfl⟩
instance : Fld Tryd.prog 95 2 17 28 := ⟨_, _, Tryd.underlying95, rfl, rfl, rfl⟩
instance : Fld Tryd.prog 95 3 18 24 := ⟨_, _, Tryd.underlying95, rfl, rfl, rfl⟩
instance : Fld Tryd.prog 95 4 19 28 := ⟨_, _, Tryd.underlying95, rfl, rfl, rfl⟩
instance : EqG Tryd.prog 95 := ⟨Tryd.eqGuardType95⟩
instance : Ty Tryd.prog 96 (TypeDesc.func #[93] #[95] false) 1 8 Value.nilFunc := ⟨Tryd.underlying96, Tryd.t96, info_of Tryd.typeInfo96, rfl, rfl, rfl⟩
instance : Ty Tryd.prog 97 (TypeDesc.func #[93] #[48, 3] false) 1 8 Value.nilFunc := ⟨Tryd.underlying97, Tryd.t97, info_of Tryd.typeInfo97, rfl, rfl, rfl⟩
instance : Ty Tryd.prog 98 (TypeDesc.tuple #[95, 49]) 1 0 (Value.tuple #[Value.agg #[Value.int IntKind.u64 0, Value.int IntKind.u32 0, Value.int IntKind.u32 0, Value.int IntKind.u32 0, Value.int IntKind.u32 0, Value.int IntKind.u32 0, Value.int IntKind.u32 0, Value.int IntKind.u32 0, Value.int IntKind.u32 0, Value.int IntKind.u32 0, Value.int IntKind.u32 0, Value.int IntKind.u32 0, Value.int IntKind.u32 0, Value.int IntKind.u32 0, Value.int IntKind.u32 0, Value.int IntKind.u32 0, Value.int IntKind.u32 0, Value.int IntKind.u32 0, Value.slice none 0 0, Value.int IntKind.u32 0], Value.int IntKind.i64 0]) := ⟨Tryd.underlying98, Tryd.t98, info_of Tryd.typeInfo98, rfl, rfl, rfl⟩
instance : Ty Tryd.prog 99 (TypeDesc.func #[48] #[95, 49] false) 1 8 Value.nilFunc := ⟨Tryd.underlying99, Tryd.t99, info_of Tryd.typeInfo99, rfl, rfl, rfl⟩
instance : Ty Tryd.prog 100 (TypeDesc.tuple #[93, 3]) 1 0 (Value.tuple #[Value.agg #[Value.int IntKind.u64 0, Value.int IntKind.u32 0, Value.int IntKind.u32 0, Value.int IntKind.u32 0, Value.int IntKind.u32 0, Value.int IntKind.u32 0, Value.int IntKind.u32 0, Value.int IntKind.u32 0, Value.int IntKind.u32 0, Value.int IntKind.u32 0, Value.int IntKind.u32 0, Value.int IntKind.u32 0, Value.int IntKind.u32 0, Value.int IntKind.u32 0, Value.int IntKind.u32 0, Value.int IntKind.u32 0, Value.int IntKind.u32 0, Value.int IntKind.u32 0, Value.slice none 0 0, Value.int IntKind.u32 0], Value.int IntKind.i64 0]) := ⟨Tryd.underlying100, Tryd.t100, info_of Tryd.typeInfo100, rfl, rfl, rfl⟩
instance : Ty Tryd.prog 101 (TypeDesc.func #[48] #[93, 3] false) 1 8 Value.nilFunc := ⟨Tryd.underlying101, Tryd.t101, info_of Tryd.typeInfo101, rfl, rfl, rfl⟩
instance : Ty Tryd.prog 102 (TypeDesc.func #[95] #[4] false) 1 8 Value.nilFunc := ⟨Tryd.underlying102, Tryd.t102, info_of Tryd.typeInfo102, rfl, rfl, rfl⟩
instance : Ty Tryd.prog 103 (TypeDesc.func #[93] #[4] false) 1 8 Value.nilFunc := ⟨Tryd.underlying103, Tryd.t103, info_of Tryd.typeInfo103, rfl, rfl, rfl⟩
instance : Ty Tryd.prog 104 (TypeDesc.func #[93, 93] #[4] false) 1 8 Value.nilFunc := ⟨Tryd.underlying104, Tryd.t104, info_of Tryd.typeInfo104, rfl, rfl, rfl⟩
instance : Ty Tryd.prog 105 (TypeDesc.func #[95] #[93] false) 1 8 Value.nilFunc := ⟨Tryd.underlying105, Tryd.t105, info_of Tryd.typeInfo105, rfl, rfl, rfl⟩
instance : Ty Tryd.prog 106 (TypeDesc.func #[93, 48] #[4] false) 1 8 Value.nilFunc := ⟨Tryd.underlying106, Tryd.t106, info_of Tryd.typeInfo106, rfl, rfl, rfl⟩
instance : Ty Tryd.prog 107 (TypeDesc.slice 9) 1 24 (Value.slice none 0 0) := ⟨Tryd.underlying107, Tryd.t107, info_of Tryd.typeInfo107, rfl, rfl, rfl⟩
instance : Ty Tryd.prog 108 (TypeDesc.func #[95, 107] #[107] false) 1 8 Value.nilFunc := ⟨Tryd.underlying108, Tryd.t108, info_of Tryd.typeInfo108, rfl, rfl, rfl⟩
instance : Ty Tryd.prog 109 (TypeDesc.func #[93, 107] #[107] false) 1 8 Value.nilFunc := ⟨Tryd.underlying109, Tryd.t109, info_of Tryd.typeInfo109, rfl, rfl, rfl⟩
instance : Ty Tryd.prog 110 (TypeDesc.func #[28] #[9] false) 1 8 Value.nilFunc := ⟨Tryd.underlying110, Tryd.t110, info_of Tryd.typeInfo110, rfl, rfl, rfl⟩
instance : Ty Tryd.prog 111 (TypeDesc.func #[93, 107] #[4] false) 1 8 Value.nilFunc := ⟨Tryd.underlying111, Tryd.t111, info_of Tryd.typeInfo111, rfl, rfl, rfl⟩
instance : Ty Tryd.prog 112 (TypeDesc.func #[28] #[42] false) 1 8 Value.nilFunc := ⟨Tryd.underlying112, Tryd.t112, info_of Tryd.typeInfo112, rfl, rfl, rfl⟩
instance : Ty Tryd.prog 113 (TypeDesc.struct #[{ name := "Seg", type := 28, offset := 0, embedded := false, tag := "", pkgPath := "", byteOffset := 0 }, { name := "At", type := 28, offset := 1, embedded := false, tag := "", pkgPath := "", byteOffset := 4 }]) 2 8 (Value.agg #[Value.int IntKind.u32 0, Value.int IntKind.u32 0]) := ⟨Tryd.underlying113, Tryd.t113, info_of Tryd.typeInfo113, rfl, rfl, rfl⟩
instance : Fld Tryd.prog 113 0 0 28 := ⟨_, _, Tryd.underlying113, rfl, rfl, rfl⟩
instance : Fld Tryd.prog 113 1 1 28 := ⟨_, _, Tryd.underlying113, rfl, rfl, rfl⟩
instance : EqG Tryd.prog 113 := ⟨Tryd.eqGuardType113⟩
instance : Ty Tryd.prog 114 (TypeDesc.struct #[{ name := "Seg", type := 28, offset := 0, embedded := false, tag := "", pkgPath := "", byteOffset := 0 }, { name := "At", type := 28, offset := 1, embedded := false, tag := "", pkgPath := "", byteOffset := 4 }]) 2 8 (Value.agg #[Value.int IntKind.u32 0, Value.int IntKind.u32 0]) := ⟨Tryd.underlying114, Tryd.t114, info_of Tryd.typeInfo114, rfl, rfl, rfl⟩
instance : Fld Tryd.prog 114 0 0 28 := ⟨_, _, Tryd.underlying114, rfl, rfl, rfl⟩
instance : Fld Tryd.prog 114 1 1 28 := ⟨_, _, Tryd.underlying114, rfl, rfl, rfl⟩
instance : EqG Tryd.prog 114 := ⟨Tryd.eqGuardType114⟩
instance : Ty Tryd.prog 115 (TypeDesc.func #[37, 42, 116] #[3, 4] false) 1 8 Value.nilFunc := ⟨Tryd.underlying115, Tryd.t115, info_of Tryd.typeInfo115, rfl, rfl, rfl⟩
instance : Ty Tryd.prog 116 (TypeDesc.func #[42, 42] #[3] false) 1 8 Value.nilFunc := ⟨Tryd.underlying116, Tryd.t116, info_of Tryd.typeInfo116, rfl, rfl, rfl⟩
instance : Ty Tryd.prog 117 (TypeDesc.struct #[{ name := "Seg", type := 28, offset := 0, embedded := false, tag := "", pkgPath := "", byteOffset := 0 }, { name := "At", type := 28, offset := 1, embedded := false, tag := "", pkgPath := "", byteOffset := 4 }]) 2 8 (Value.agg #[Value.int IntKind.u32 0, Value.int IntKind.u32 0]) := ⟨Tryd.underlying117, Tryd.t117, info_of Tryd.typeInfo117, rfl, rfl, rfl⟩
instance : Fld Tryd.prog 117 0 0 28 := ⟨_, _, Tryd.underlying117, rfl, rfl, rfl⟩
instance : Fld Tryd.prog 117 1 1 28 := ⟨_, _, Tryd.underlying117, rfl, rfl, rfl⟩
instance : EqG Tryd.prog 117 := ⟨Tryd.eqGuardType117⟩
instance : Ty Tryd.prog 118 (TypeDesc.pointer 185) 1 8 (Value.pointer none) := ⟨Tryd.underlying118, Tryd.t118, info_of Tryd.typeInfo118, rfl, rfl, rfl⟩
instance : Ty Tryd.prog 119 (TypeDesc.func #[] #[118] false) 1 8 Value.nilFunc := ⟨Tryd.underlying119, Tryd.t119, info_of Tryd.typeInfo119, rfl, rfl, rfl⟩
instance : Ty Tryd.prog 120 (TypeDesc.func #[91] #[49] false) 1 8 Value.nilFunc := ⟨Tryd.underlying120, Tryd.t120, info_of Tryd.typeInfo120, rfl, rfl, rfl⟩
instance : Ty Tryd.prog 121 (TypeDesc.func #[] #[48, 49] false) 1 8 Value.nilFunc := ⟨Tryd.underlying121, Tryd.t121, info_of Tryd.typeInfo121, rfl, rfl, rfl⟩
instance : Ty Tryd.prog 122 (TypeDesc.func #[48] #[48, 49] false) 1 8 Value.nilFunc := ⟨Tryd.underlying122, Tryd.t122, info_of Tryd.typeInfo122, rfl, rfl, rfl⟩
instance : Ty Tryd.prog 123 (TypeDesc.func #[26] #[48] false) 1 8 Value.nilFunc := ⟨Tryd.underlying123, Tryd.t123, info_of Tryd.typeInfo123, rfl, rfl, rfl⟩
instance : Ty Tryd.prog 124 (TypeDesc.tuple #[48, 3, 49]) 1 0 (Value.tuple #[Value.slice none 0 0, Value.int IntKind.i64 0, Value.int IntKind.i64 0]) := ⟨Tryd.underlying124, Tryd.t124, info_of Tryd.typeInfo124, rfl, rfl, rfl⟩
instance : Ty Tryd.prog 125 (TypeDesc.func #[48] #[48, 3, 49] false) 1 8 Value.nilFunc := ⟨Tryd.underlying125, Tryd.t125, info_of Tryd.typeInfo125, rfl, rfl, rfl⟩
instance : Ty Tryd.prog 126 (TypeDesc.pointer 130) 1 8 (Value.pointer none) := ⟨Tryd.underlying126, Tryd.t126, info_of Tryd.typeInfo126, rfl, rfl, rfl⟩
instance : Ty Tryd.prog 127 (TypeDesc.pointer 194) 1 8 (Value.pointer none) := ⟨Tryd.underlying127, Tryd.t127, info_of Tryd.typeInfo127, rfl, rfl, rfl⟩
instance : Ty Tryd.prog 128 (TypeDesc.func #[48] #[127] false) 1 8 Value.nilFunc := ⟨Tryd.underlying128, Tryd.t128, info_of Tryd.typeInfo128, rfl, rfl, rfl⟩
instance : Ty Tryd.prog 129 (TypeDesc.struct #[{ name := "r", type := 127, offset := 0, embedded := false, tag := "", pkgPath := "trug/page", byteOffset := 0 }, { name := "bad", type := 4, offset := 1, embedded := false, tag := "", pkgPath := "trug/page", byteOffset := 8 }]) 2 16 (Value.agg #[Value.pointer none, Value.bool false]) := ⟨Tryd.underlying129, Tryd.t129, info_of Tryd.typeInfo129, rfl, rfl, rfl⟩
instance : Fld Tryd.prog 129 0 0 127 := ⟨_, _, Tryd.underlying129, rfl, rfl, rfl⟩
instance : Fld Tryd.prog 129 1 1 4 := ⟨_, _, Tryd.underlying129, rfl, rfl, rfl⟩
instance : EqG Tryd.prog 129 := ⟨Tryd.eqGuardType129⟩
instance : Ty Tryd.prog 130 (TypeDesc.struct #[{ name := "r", type := 127, offset := 0, embedded := false, tag := "", pkgPath := "trug/page", byteOffset := 0 }, { name := "bad", type := 4, offset := 1, embedded := false, tag := "", pkgPath := "trug/page", byteOffset := 8 }]) 2 16 (Value.agg #[Value.pointer none, Value.bool false]) := ⟨Tryd.underlying130, Tryd.t130, info_of Tryd.typeInfo130, rfl, rfl, rfl⟩
instance : Fld Tryd.prog 130 0 0 127 := ⟨_, _, Tryd.underlying130, rfl, rfl, rfl⟩
instance : Fld Tryd.prog 130 1 1 4 := ⟨_, _, Tryd.underlying130, rfl, rfl, rfl⟩
instance : EqG Tryd.prog 130 := ⟨Tryd.eqGuardType130⟩
instance : Ty Tryd.prog 131 (TypeDesc.func #[3] #[28] false) 1 8 Value.nilFunc := ⟨Tryd.underlying131, Tryd.t131, info_of Tryd.typeInfo131, rfl, rfl, rfl⟩
instance : Ty Tryd.prog 132 (TypeDesc.tuple #[48, 3, 3]) 1 0 (Value.tuple #[Value.slice none 0 0, Value.int IntKind.i64 0, Value.int IntKind.i64 0]) := ⟨Tryd.underlying132, Tryd.t132, info_of Tryd.typeInfo132, rfl, rfl, rfl⟩
instance : Ty Tryd.prog 133 (TypeDesc.func #[48] #[48, 3, 3] false) 1 8 Value.nilFunc := ⟨Tryd.underlying133, Tryd.t133, info_of Tryd.typeInfo133, rfl, rfl, rfl⟩
instance : Ty Tryd.prog 134 (TypeDesc.slice 91) 1 24 (Value.slice none 0 0) := ⟨Tryd.underlying134, Tryd.t134, info_of Tryd.typeInfo134, rfl, rfl, rfl⟩
instance : Ty Tryd.prog 135 (TypeDesc.tuple #[134, 4]) 1 0 (Value.tuple #[Value.slice none 0 0, Value.bool false]) := ⟨Tryd.underlying135, Tryd.t135, info_of Tryd.typeInfo135, rfl, rfl, rfl⟩
instance : Ty Tryd.prog 136 (TypeDesc.func #[48] #[134, 4] false) 1 8 Value.nilFunc := ⟨Tryd.underlying136, Tryd.t136, info_of Tryd.typeInfo136, rfl, rfl, rfl⟩
instance : Ty Tryd.prog 137 (TypeDesc.func #[91, 139] #[48] false) 1 8 Value.nilFunc := ⟨Tryd.underlying137, Tryd.t137, info_of Tryd.typeInfo137, rfl, rfl, rfl⟩
instance : Ty Tryd.prog 138 (TypeDesc.func #[48] #[49] false) 1 8 Value.nilFunc := ⟨Tryd.underlying138, Tryd.t138, info_of Tryd.typeInfo138, rfl, rfl, rfl⟩
instance : Ty Tryd.prog 139 (TypeDesc.func #[118] #[] false) 1 8 Value.nilFunc := ⟨Tryd.underlying139, Tryd.t139, info_of Tryd.typeInfo139, rfl, rfl, rfl⟩
instance : Ty Tryd.prog 140 (TypeDesc.tuple #[48, 4]) 1 0 (Value.tuple #[Value.slice none 0 0, Value.bool false]) := ⟨Tryd.underlying140, Tryd.t140, info_of Tryd.typeInfo140, rfl, rfl, rfl⟩
instance : Ty Tryd.prog 141 (TypeDesc.func #[67] #[48, 4] false) 1 8 Value.nilFunc := ⟨Tryd.underlying141, Tryd.t141, info_of Tryd.typeInfo141, rfl, rfl, rfl⟩
instance : Ty Tryd.prog 142 (TypeDesc.func #[48] #[48, 3] false) 1 8 Value.nilFunc := ⟨Tryd.underlying142, Tryd.t142, info_of Tryd.typeInfo142, rfl, rfl, rfl⟩
instance : Ty Tryd.prog 143 (TypeDesc.func #[91, 91] #[48] false) 1 8 Value.nilFunc := ⟨Tryd.underlying143, Tryd.t143, info_of Tryd.typeInfo143, rfl, rfl, rfl⟩
instance : Ty Tryd.prog 144 (TypeDesc.tuple #[91, 4]) 1 0 (Value.tuple #[Value.int IntKind.u64 0, Value.bool false]) := ⟨Tryd.underlying144, Tryd.t144, info_of Tryd.typeInfo144, rfl, rfl, rfl⟩
instance : Ty Tryd.prog 145 (TypeDesc.func #[48, 91] #[91, 4] false) 1 8 Value.nilFunc := ⟨Tryd.underlying145, Tryd.t145, info_of Tryd.typeInfo145, rfl, rfl, rfl⟩
instance : Ty Tryd.prog 146 (TypeDesc.tuple #[67, 4]) 1 0 (Value.tuple #[Value.agg #[Value.int IntKind.u8 0, Value.int IntKind.u32 0, Value.int IntKind.u8 0, Value.int IntKind.u16 0, Value.int IntKind.u16 0, Value.int IntKind.u16 0, Value.int IntKind.u32 0, Value.int IntKind.u32 0, Value.int IntKind.u32 0, Value.int IntKind.u32 0, Value.int IntKind.u32 0, Value.int IntKind.u32 0, Value.int IntKind.u32 0, Value.int IntKind.u32 0, Value.int IntKind.u32 0, Value.int IntKind.u32 0, Value.int IntKind.u32 0, Value.int IntKind.u32 0, Value.int IntKind.u32 0, Value.int IntKind.u32 0, Value.int IntKind.u32 0, Value.int IntKind.u32 0, Value.int IntKind.u32 0], Value.bool false]) := ⟨Tryd.underlying146, Tryd.t146, info_of Tryd.typeInfo146, rfl, rfl, rfl⟩
instance : Ty Tryd.prog 147 (TypeDesc.func #[48] #[67, 4] false) 1 8 Value.nilFunc := ⟨Tryd.underlying147, Tryd.t147, info_of Tryd.typeInfo147, rfl, rfl, rfl⟩
instance : Ty Tryd.prog 148 (TypeDesc.slice 48) 1 24 (Value.slice none 0 0) := ⟨Tryd.underlying148, Tryd.t148, info_of Tryd.typeInfo148, rfl, rfl, rfl⟩
instance : Ty Tryd.prog 149 (TypeDesc.tuple #[148, 3]) 1 0 (Value.tuple #[Value.slice none 0 0, Value.int IntKind.i64 0]) := ⟨Tryd.underlying149, Tryd.t149, info_of Tryd.typeInfo149, rfl, rfl, rfl⟩
instance : Ty Tryd.prog 150 (TypeDesc.func #[48] #[148, 3] false) 1 8 Value.nilFunc := ⟨Tryd.underlying150, Tryd.t150, info_of Tryd.typeInfo150, rfl, rfl, rfl⟩
instance : Ty Tryd.prog 151 (TypeDesc.func #[67, 3] #[4] false) 1 8 Value.nilFunc := ⟨Tryd.underlying151, Tryd.t151, info_of Tryd.typeInfo151, rfl, rfl, rfl⟩
instance : Ty Tryd.prog 152 (TypeDesc.func #[65] #[48] false) 1 8 Value.nilFunc := ⟨Tryd.underlying152, Tryd.t152, info_of Tryd.typeInfo152, rfl, rfl, rfl⟩
instance : Ty Tryd.prog 153 (TypeDesc.func #[24] #[24] false) 1 8 Value.nilFunc := ⟨Tryd.underlying153, Tryd.t153, info_of Tryd.typeInfo153, rfl, rfl, rfl⟩
instance : Ty Tryd.prog 154 (TypeDesc.func #[93] #[48] false) 1 8 Value.nilFunc := ⟨Tryd.underlying154, Tryd.t154, info_of Tryd.typeInfo154, rfl, rfl, rfl⟩
instance : Ty Tryd.prog 155 (TypeDesc.tuple #[91, 49]) 1 0 (Value.tuple #[Value.int IntKind.u64 0, Value.int IntKind.i64 0]) := ⟨Tryd.underlying155, Tryd.t155, info_of Tryd.typeInfo155, rfl, rfl, rfl⟩
instance : Ty Tryd.prog 156 (TypeDesc.func #[] #[91, 49] false) 1 8 Value.nilFunc := ⟨Tryd.underlying156, Tryd.t156, info_of Tryd.typeInfo156, rfl, rfl, rfl⟩
instance : Ty Tryd.prog 157 (TypeDesc.int IntKind.u64) 1 8 (Value.int IntKind.u64 0) := ⟨Tryd.underlying157, Tryd.t157, info_of Tryd.typeInfo157, rfl, rfl, rfl⟩
instance : Ty Tryd.prog 158 (TypeDesc.func #[] #[28] false) 1 8 Value.nilFunc := ⟨Tryd.underlying158, Tryd.t158, info_of Tryd.typeInfo158, rfl, rfl, rfl⟩
instance : Ty Tryd.prog 159 (TypeDesc.tuple #[65, 49]) 1 0 (Value.tuple #[Value.agg #[Value.int IntKind.u32 0, Value.int IntKind.u32 0, Value.int IntKind.u32 0, Value.int IntKind.u32 0, Value.int IntKind.u32 0, Value.int IntKind.u32 0, Value.int IntKind.u32 0, Value.int IntKind.u32 0, Value.int IntKind.u32 0, Value.int IntKind.u32 0, Value.int IntKind.u32 0, Value.int IntKind.u32 0, Value.int IntKind.u32 0, Value.int IntKind.u32 0, Value.int IntKind.u32 0, Value.int IntKind.u32 0], Value.int IntKind.i64 0]) := ⟨Tryd.underlying159, Tryd.t159, info_of Tryd.typeInfo159, rfl, rfl, rfl⟩
instance : Ty Tryd.prog 160 (TypeDesc.func #[48] #[65, 49] false) 1 8 Value.nilFunc := ⟨Tryd.underlying160, Tryd.t160, info_of Tryd.typeInfo160, rfl, rfl, rfl⟩
instance : Ty Tryd.prog 161 (TypeDesc.struct #[{ name := "B", type := 48, offset := 0, embedded := false, tag := "", pkgPath := "", byteOffset := 0 }, { name := "Err", type := 3, offset := 1, embedded := false, tag := "", pkgPath := "", byteOffset := 24 }]) 2 32 (Value.agg #[Value.slice none 0 0, Value.int IntKind.i64 0]) := ⟨Tryd.underlying161, Tryd.t161, info_of Tryd.typeInfo161, rfl, rfl, rfl⟩
instance : Fld Tryd.prog 161 0 0 48 := ⟨_, _, Tryd.underlying161, rfl, rfl, rfl⟩
instance : Fld Tryd.prog 161 1 1 3 := ⟨_, _, Tryd.underlying161, rfl, rfl, rfl⟩
instance : EqG Tryd.prog 161 := ⟨Tryd.eqGuardType161⟩
instance : Ty Tryd.prog 162 (TypeDesc.struct #[{ name := "B", type := 48, offset := 0, embedded := false, tag := "", pkgPath := "", byteOffset := 0 }, { name := "Err", type := 3, offset := 1, embedded := false, tag := "", pkgPath := "", byteOffset := 24 }]) 2 32 (Value.agg #[Value.slice none 0 0, Value.int IntKind.i64 0]) := ⟨Tryd.underlying162, Tryd.t162, info_of Tryd.typeInfo162, rfl, rfl, rfl⟩
instance : Fld Tryd.prog 162 0 0 48 := ⟨_, _, Tryd.underlying162, rfl, rfl, rfl⟩
instance : Fld Tryd.prog 162 1 1 3 := ⟨_, _, Tryd.underlying162, rfl, rfl, rfl⟩
instance : EqG Tryd.prog 162 := ⟨Tryd.eqGuardType162⟩
instance : Ty Tryd.prog 163 (TypeDesc.tuple #[162, 91, 3]) 1 0 (Value.tuple #[Value.agg #[Value.slice none 0 0, Value.int IntKind.i64 0], Value.int IntKind.u64 0, Value.int IntKind.i64 0]) := ⟨Tryd.underlying163, Tryd.t163, info_of Tryd.typeInfo163, rfl, rfl, rfl⟩
instance : Ty Tryd.prog 164 (TypeDesc.func #[162] #[162, 91, 3] false) 1 8 Value.nilFunc := ⟨Tryd.underlying164, Tryd.t164, info_of Tryd.typeInfo164, rfl, rfl, rfl⟩
instance : Ty Tryd.prog 165 (TypeDesc.tuple #[162, 48, 3]) 1 0 (Value.tuple #[Value.agg #[Value.slice none 0 0, Value.int IntKind.i64 0], Value.slice none 0 0, Value.int IntKind.i64 0]) := ⟨Tryd.underlying165, Tryd.t165, info_of Tryd.typeInfo165, rfl, rfl, rfl⟩
instance : Ty Tryd.prog 166 (TypeDesc.func #[162] #[162, 48, 3] false) 1 8 Value.nilFunc := ⟨Tryd.underlying166, Tryd.t166, info_of Tryd.typeInfo166, rfl, rfl, rfl⟩
instance : Ty Tryd.prog 167 (TypeDesc.tuple #[65, 3]) 1 0 (Value.tuple #[Value.agg #[Value.int IntKind.u32 0, Value.int IntKind.u32 0, Value.int IntKind.u32 0, Value.int IntKind.u32 0, Value.int IntKind.u32 0, Value.int IntKind.u32 0, Value.int IntKind.u32 0, Value.int IntKind.u32 0, Value.int IntKind.u32 0, Value.int IntKind.u32 0, Value.int IntKind.u32 0, Value.int IntKind.u32 0, Value.int IntKind.u32 0, Value.int IntKind.u32 0, Value.int IntKind.u32 0, Value.int IntKind.u32 0], Value.int IntKind.i64 0]) := ⟨Tryd.underlying167, Tryd.t167, info_of Tryd.typeInfo167, rfl, rfl, rfl⟩
instance : Ty Tryd.prog 168 (TypeDesc.func #[48] #[65, 3] false) 1 8 Value.nilFunc := ⟨Tryd.underlying168, Tryd.t168, info_of Tryd.typeInfo168, rfl, rfl, rfl⟩
instance : Ty Tryd.prog 169 (TypeDesc.func #[162] #[134, 4] false) 1 8 Value.nilFunc := ⟨Tryd.underlying169, Tryd.t169, info_of Tryd.typeInfo169, rfl, rfl, rfl⟩
instance : Ty Tryd.prog 170 (TypeDesc.func #[65, 3] #[4] false) 1 8 Value.nilFunc := ⟨Tryd.underlying170, Tryd.t170, info_of Tryd.typeInfo170, rfl, rfl, rfl⟩
instance : Ty Tryd.prog 171 (TypeDesc.func #[107, 174] #[107] false) 1 8 Value.nilFunc := ⟨Tryd.underlying171, Tryd.t171, info_of Tryd.typeInfo171, rfl, rfl, rfl⟩
instance : Ty Tryd.prog 172 (TypeDesc.func #[107] #[107] false) 1 8 Value.nilFunc := ⟨Tryd.underlying172, Tryd.t172, info_of Tryd.typeInfo172, rfl, rfl, rfl⟩
instance : Ty Tryd.prog 173 (TypeDesc.func #[107, 9] #[4] false) 1 8 Value.nilFunc := ⟨Tryd.underlying173, Tryd.t173, info_of Tryd.typeInfo173, rfl, rfl, rfl⟩
instance : Ty Tryd.prog 174 (TypeDesc.func #[9] #[4] false) 1 8 Value.nilFunc := ⟨Tryd.underlying174, Tryd.t174, info_of Tryd.typeInfo174, rfl, rfl, rfl⟩
instance : Ty Tryd.prog 175 (TypeDesc.func #[93, 9] #[4] false) 1 8 Value.nilFunc := ⟨Tryd.underlying175, Tryd.t175, info_of Tryd.typeInfo175, rfl, rfl, rfl⟩
instance : Ty Tryd.prog 176 (TypeDesc.func #[9, 28] #[9] false) 1 8 Value.nilFunc := ⟨Tryd.underlying176, Tryd.t176, info_of Tryd.typeInfo176, rfl, rfl, rfl⟩
instance : Ty Tryd.prog 177 (TypeDesc.func #[91, 3] #[9] false) 1 8 Value.nilFunc := ⟨Tryd.underlying177, Tryd.t177, info_of Tryd.typeInfo177, rfl, rfl, rfl⟩
instance : Ty Tryd.prog 178 (TypeDesc.func #[75] #[3] true) 1 8 Value.nilFunc := ⟨Tryd.underlying178, Tryd.t178, info_of Tryd.typeInfo178, rfl, rfl, rfl⟩
instance : Ty Tryd.prog 179 (TypeDesc.func #[27, 27] #[3] false) 1 8 Value.nilFunc := ⟨Tryd.underlying179, Tryd.t179, info_of Tryd.typeInfo179, rfl, rfl, rfl⟩
instance : Ty Tryd.prog 180 (TypeDesc.func #[5, 5] #[3] false) 1 8 Value.nilFunc := ⟨Tryd.underlying180, Tryd.t180, info_of Tryd.typeInfo180, rfl, rfl, rfl⟩
instance : Ty Tryd.prog 181 (TypeDesc.func #[28, 28] #[3] false) 1 8 Value.nilFunc := ⟨Tryd.underlying181, Tryd.t181, info_of Tryd.typeInfo181, rfl, rfl, rfl⟩
instance : Ty Tryd.prog 182 (TypeDesc.struct #[{ name := "made", type := 4, offset := 0, embedded := false, tag := "", pkgPath := "trug/pack", byteOffset := 0 }, { name := "e", type := 49, offset := 1, embedded := false, tag := "", pkgPath := "trug/pack", byteOffset := 8 }]) 2 16 (Value.agg #[Value.bool false, Value.int IntKind.i64 0]) := ⟨Tryd.underlying182, Tryd.t182, info_of Tryd.typeInfo182, rfl, rfl, rfl⟩
instance : Fld Tryd.prog 182 0 0 4 := ⟨_, _, Tryd.underlying182, rfl, rfl, rfl⟩
instance : Fld Tryd.prog 182 1 1 49 := ⟨_, _, Tryd.underlying182, rfl, rfl, rfl⟩
instance : EqG Tryd.prog 182 := ⟨Tryd.eqGuardType182⟩
instance : Ty Tryd.prog 183 (TypeDesc.struct #[{ name := "made", type := 4, offset := 0, embedded := false, tag := "", pkgPath := "trug/pack", byteOffset := 0 }, { name := "e", type := 49, offset := 1, embedded := false, tag := "", pkgPath := "trug/pack", byteOffset := 8 }]) 2 16 (Value.agg #[Value.bool false, Value.int IntKind.i64 0]) := ⟨Tryd.underlying183, Tryd.t183, info_of Tryd.typeInfo183, rfl, rfl, rfl⟩
instance : Fld Tryd.prog 183 0 0 4 := ⟨_, _, Tryd.underlying183, rfl, rfl, rfl⟩
instance : Fld Tryd.prog 183 1 1 49 := ⟨_, _, Tryd.underlying183, rfl, rfl, rfl⟩
instance : EqG Tryd.prog 183 := ⟨Tryd.eqGuardType183⟩
instance : Ty Tryd.prog 184 (TypeDesc.struct #[{ name := "stop", type := 183, offset := 0, embedded := true, tag := "", pkgPath := "trug/pack", byteOffset := 0 }, { name := "b", type := 48, offset := 2, embedded := false, tag := "", pkgPath := "trug/pack", byteOffset := 16 }]) 3 40 (Value.agg #[Value.bool false, Value.int IntKind.i64 0, Value.slice none 0 0]) := ⟨Tryd.underlying184, Tryd.t184, info_of Tryd.typeInfo184, rfl, rfl, rfl⟩
instance : Fld Tryd.prog 184 0 0 183 := ⟨_, _, Tryd.underlying184, rfl, rfl, rfl⟩
instance : Fld Tryd.prog 184 1 2 48 := ⟨_, _, Tryd.underlying184, rfl, rfl, rfl⟩
instance : EqG Tryd.prog 184 := ⟨Tryd.eqGuardType184⟩
instance : Ty Tryd.prog 185 (TypeDesc.struct #[{ name := "stop", type := 183, offset := 0, embedded := true, tag := "", pkgPath := "trug/pack", byteOffset := 0 }, { name := "b", type := 48, offset := 2, embedded := false, tag := "", pkgPath := "trug/pack", byteOffset := 16 }]) 3 40 (Value.agg #[Value.bool false, Value.int IntKind.i64 0, Value.slice none 0 0]) := ⟨Tryd.underlying185, Tryd.t185, info_of Tryd.typeInfo185, rfl, rfl, rfl⟩
instance : Fld Tryd.prog 185 0 0 183 := ⟨_, _, Tryd.underlying185, rfl, rfl, rfl⟩
instance : Fld Tryd.prog 185 1 2 48 := ⟨_, _, Tryd.underlying185, rfl, rfl, rfl⟩
instance : EqG Tryd.prog 185 := ⟨Tryd.eqGuardType185⟩
instance : Ty Tryd.prog 186 (TypeDesc.func #[148] #[49] true) 1 8 Value.nilFunc := ⟨Tryd.underlying186, Tryd.t186, info_of Tryd.typeInfo186, rfl, rfl, rfl⟩
instance : Ty Tryd.prog 187 (TypeDesc.func #[91] #[48] false) 1 8 Value.nilFunc := ⟨Tryd.underlying187, Tryd.t187, info_of Tryd.typeInfo187, rfl, rfl, rfl⟩
instance : Ty Tryd.prog 188 (TypeDesc.func #[48] #[48] false) 1 8 Value.nilFunc := ⟨Tryd.underlying188, Tryd.t188, info_of Tryd.typeInfo188, rfl, rfl, rfl⟩
instance : Ty Tryd.prog 189 (TypeDesc.array 4 5) 4 4 (Value.agg #[Value.int IntKind.u8 0, Value.int IntKind.u8 0, Value.int IntKind.u8 0, Value.int IntKind.u8 0]) := ⟨Tryd.underlying189, Tryd.t189, info_of Tryd.typeInfo189, rfl, rfl, rfl⟩
instance : EqG Tryd.prog 189 := ⟨Tryd.eqGuardType189⟩
instance : Ty Tryd.prog 190 (TypeDesc.func #[48] #[189] false) 1 8 Value.nilFunc := ⟨Tryd.underlying190, Tryd.t190, info_of Tryd.typeInfo190, rfl, rfl, rfl⟩
instance : Ty Tryd.prog 191 (TypeDesc.func #[48, 134] #[48] false) 1 8 Value.nilFunc := ⟨Tryd.underlying191, Tryd.t191, info_of Tryd.typeInfo191, rfl, rfl, rfl⟩
instance : Ty Tryd.prog 192 (TypeDesc.tuple #[91, 3, 49]) 1 0 (Value.tuple #[Value.int IntKind.u64 0, Value.int IntKind.i64 0, Value.int IntKind.i64 0]) := ⟨Tryd.underlying192, Tryd.t192, info_of Tryd.typeInfo192, rfl, rfl, rfl⟩
instance : Ty Tryd.prog 193 (TypeDesc.func #[48] #[91, 3, 49] false) 1 8 Value.nilFunc := ⟨Tryd.underlying193, Tryd.t193, info_of Tryd.typeInfo193, rfl, rfl, rfl⟩
instance : Ty Tryd.prog 194 (TypeDesc.struct #[{ name := "stop", type := 183, offset := 0, embedded := true, tag := "", pkgPath := "trug/pack", byteOffset := 0 }, { name := "b", type := 48, offset := 2, embedded := false, tag := "", pkgPath := "trug/pack", byteOffset := 16 }]) 3 40 (Value.agg #[Value.bool false, Value.int IntKind.i64 0, Value.slice none 0 0]) := ⟨Tryd.underlying194, Tryd.t194, info_of Tryd.typeInfo194, rfl, rfl, rfl⟩
instance : Fld Tryd.prog 194 0 0 183 := ⟨_, _, Tryd.underlying194, rfl, rfl, rfl⟩
instance : Fld Tryd.prog 194 1 2 48 := ⟨_, _, Tryd.underlying194, rfl, rfl, rfl⟩
instance : EqG Tryd.prog 194 := ⟨Tryd.eqGuardType194⟩
instance : Ty Tryd.prog 195 (TypeDesc.tuple #[91, 3, 3]) 1 0 (Value.tuple #[Value.int IntKind.u64 0, Value.int IntKind.i64 0, Value.int IntKind.i64 0]) := ⟨Tryd.underlying195, Tryd.t195, info_of Tryd.typeInfo195, rfl, rfl, rfl⟩
instance : Ty Tryd.prog 196 (TypeDesc.func #[48] #[91, 3, 3] false) 1 8 Value.nilFunc := ⟨Tryd.underlying196, Tryd.t196, info_of Tryd.typeInfo196, rfl, rfl, rfl⟩
instance : Ty Tryd.prog 197 (TypeDesc.array 7 91) 7 56 (Value.agg #[Value.int IntKind.u64 0, Value.int IntKind.u64 0, Value.int IntKind.u64 0, Value.int IntKind.u64 0, Value.int IntKind.u64 0, Value.int IntKind.u64 0, Value.int IntKind.u64 0]) := ⟨Tryd.underlying197, Tryd.t197, info_of Tryd.typeInfo197, rfl, rfl, rfl⟩
instance : EqG Tryd.prog 197 := ⟨Tryd.eqGuardType197⟩
instance : Ty Tryd.prog 198 (TypeDesc.func #[48, 48] #[48] false) 1 8 Value.nilFunc := ⟨Tryd.underlying198, Tryd.t198, info_of Tryd.typeInfo198, rfl, rfl, rfl⟩
instance : Ty Tryd.prog 199 (TypeDesc.func #[48] #[28] false) 1 8 Value.nilFunc := ⟨Tryd.underlying199, Tryd.t199, info_of Tryd.typeInfo199, rfl, rfl, rfl⟩
instance : Ty Tryd.prog 200 (TypeDesc.tuple #[67, 49]) 1 0 (Value.tuple #[Value.agg #[Value.int IntKind.u8 0, Value.int IntKind.u32 0, Value.int IntKind.u8 0, Value.int IntKind.u16 0, Value.int IntKind.u16 0, Value.int IntKind.u16 0, Value.int IntKind.u32 0, Value.int IntKind.u32 0, Value.int IntKind.u32 0, Value.int IntKind.u32 0, Value.int IntKind.u32 0, Value.int IntKind.u32 0, Value.int IntKind.u32 0, Value.int IntKind.u32 0, Value.int IntKind.u32 0, Value.int IntKind.u32 0, Value.int IntKind.u32 0, Value.int IntKind.u32 0, Value.int IntKind.u32 0, Value.int IntKind.u32 0, Value.int IntKind.u32 0, Value.int IntKind.u32 0, Value.int IntKind.u32 0], Value.int IntKind.i64 0]) := ⟨Tryd.underlying200, Tryd.t200, info_of Tryd.typeInfo200, rfl, rfl, rfl⟩
instance : Ty Tryd.prog 201 (TypeDesc.func #[48] #[67, 49] false) 1 8 Value.nilFunc := ⟨Tryd.underlying201, Tryd.t201, info_of Tryd.typeInfo201, rfl, rfl, rfl⟩
instance : Ty Tryd.prog 202 (TypeDesc.func #[162] #[4] false) 1 8 Value.nilFunc := ⟨Tryd.underlying202, Tryd.t202, info_of Tryd.typeInfo202, rfl, rfl, rfl⟩
instance : Ty Tryd.prog 203 (TypeDesc.tuple #[67, 3]) 1 0 (Value.tuple #[Value.agg #[Value.int IntKind.u8 0, Value.int IntKind.u32 0, Value.int IntKind.u8 0, Value.int IntKind.u16 0, Value.int IntKind.u16 0, Value.int IntKind.u16 0, Value.int IntKind.u32 0, Value.int IntKind.u32 0, Value.int IntKind.u32 0, Value.int IntKind.u32 0, Value.int IntKind.u32 0, Value.int IntKind.u32 0, Value.int IntKind.u32 0, Value.int IntKind.u32 0, Value.int IntKind.u32 0, Value.int IntKind.u32 0, Value.int IntKind.u32 0, Value.int IntKind.u32 0, Value.int IntKind.u32 0, Value.int IntKind.u32 0, Value.int IntKind.u32 0, Value.int IntKind.u32 0, Value.int IntKind.u32 0], Value.int IntKind.i64 0]) := ⟨Tryd.underlying203, Tryd.t203, info_of Tryd.typeInfo203, rfl, rfl, rfl⟩
instance : Ty Tryd.prog 204 (TypeDesc.func #[48] #[67, 3] false) 1 8 Value.nilFunc := ⟨Tryd.underlying204, Tryd.t204, info_of Tryd.typeInfo204, rfl, rfl, rfl⟩
instance : Ty Tryd.prog 205 (TypeDesc.func #[30] #[4] false) 1 8 Value.nilFunc := ⟨Tryd.underlying205, Tryd.t205, info_of Tryd.typeInfo205, rfl, rfl, rfl⟩
instance : Ty Tryd.prog 206 (TypeDesc.func #[67] #[4] false) 1 8 Value.nilFunc := ⟨Tryd.underlying206, Tryd.t206, info_of Tryd.typeInfo206, rfl, rfl, rfl⟩
instance : Ty Tryd.prog 207 (TypeDesc.func #[49] #[49] false) 1 8 Value.nilFunc := ⟨Tryd.underlying207, Tryd.t207, info_of Tryd.typeInfo207, rfl, rfl, rfl⟩
instance : Ty Tryd.prog 208 (TypeDesc.func #[107, 174] #[3] false) 1 8 Value.nilFunc := ⟨Tryd.underlying208, Tryd.t208, info_of Tryd.typeInfo208, rfl, rfl, rfl⟩
instance : Ty Tryd.prog 209 (TypeDesc.func #[107, 9] #[3] false) 1 8 Value.nilFunc := ⟨Tryd.underlying209, Tryd.t209, info_of Tryd.typeInfo209, rfl, rfl, rfl⟩
instance : Ty Tryd.prog 210 (TypeDesc.func #[27] #[4] false) 1 8 Value.nilFunc := ⟨Tryd.underlying210, Tryd.t210, info_of Tryd.typeInfo210, rfl, rfl, rfl⟩
instance : Ty Tryd.prog 211 (TypeDesc.func #[5] #[4] false) 1 8 Value.nilFunc := ⟨Tryd.underlying211, Tryd.t211, info_of Tryd.typeInfo211, rfl, rfl, rfl⟩
instance : Ty Tryd.prog 212 (TypeDesc.func #[148] #[48] true) 1 8 Value.nilFunc := ⟨Tryd.underlying212, Tryd.t212, info_of Tryd.typeInfo212, rfl, rfl, rfl⟩
instance : Ty Tryd.prog 213 (TypeDesc.func #[67] #[48] false) 1 8 Value.nilFunc := ⟨Tryd.underlying213, Tryd.t213, info_of Tryd.typeInfo213, rfl, rfl, rfl⟩
instance : Ty Tryd.prog 214 (TypeDesc.func #[28, 48] #[28] false) 1 8 Value.nilFunc := ⟨Tryd.underlying214, Tryd.t214, info_of Tryd.typeInfo214, rfl, rfl, rfl⟩
instance : Ty Tryd.prog 215 (TypeDesc.pointer 217) 1 8 (Value.pointer none) := ⟨Tryd.underlying215, Tryd.t215, info_of Tryd.typeInfo215, rfl, rfl, rfl⟩
instance : Ty Tryd.prog 216 (TypeDesc.struct #[{ name := "Reader", type := 127, offset := 0, embedded := true, tag := "", pkgPath := "", byteOffset := 0 }, { name := "bad", type := 4, offset := 1, embedded := false, tag := "", pkgPath := "trug/op", byteOffset := 8 }]) 2 16 (Value.agg #[Value.pointer none, Value.bool false]) := ⟨Tryd.underlying216, Tryd.t216, info_of Tryd.typeInfo216, rfl, rfl, rfl⟩
instance : Fld Tryd.prog 216 0 0 127 := ⟨_, _, Tryd.underlying216, rfl, rfl, rfl⟩
instance : Fld Tryd.prog 216 1 1 4 := ⟨_, _, Tryd.underlying216, rfl, rfl, rfl⟩
instance : EqG Tryd.prog 216 := ⟨Tryd.eqGuardType216⟩
instance : Ty Tryd.prog 217 (TypeDesc.struct #[{ name := "Reader", type := 127, offset := 0, embedded := true, tag := "", pkgPath := "", byteOffset := 0 }, { name := "bad", type := 4, offset := 1, embedded := false, tag := "", pkgPath := "trug/op", byteOffset := 8 }]) 2 16 (Value.agg #[Value.pointer none, Value.bool false]) := ⟨Tryd.underlying217, Tryd.t217, info_of Tryd.typeInfo217, rfl, rfl, rfl⟩
instance : Fld Tryd.prog 217 0 0 127 := ⟨_, _, Tryd.underlying217, rfl, rfl, rfl⟩
instance : Fld Tryd.prog 217 1 1 4 := ⟨_, _, Tryd.underlying217, rfl, rfl, rfl⟩
instance : EqG Tryd.prog 217 := ⟨Tryd.eqGuardType217⟩
instance : Ty Tryd.prog 218 (TypeDesc.func #[3] #[91] false) 1 8 Value.nilFunc := ⟨Tryd.underlying218, Tryd.t218, info_of Tryd.typeInfo218, rfl, rfl, rfl⟩
instance : Ty Tryd.prog 219 (TypeDesc.pointer 183) 1 8 (Value.pointer none) := ⟨Tryd.underlying219, Tryd.t219, info_of Tryd.typeInfo219, rfl, rfl, rfl⟩
instance : Ty Tryd.prog 220 (TypeDesc.func #[3] #[9] false) 1 8 Value.nilFunc := ⟨Tryd.underlying220, Tryd.t220, info_of Tryd.typeInfo220, rfl, rfl, rfl⟩
instance : Ty Tryd.prog 221 (TypeDesc.array 24 5) 24 24 (Value.agg #[Value.int IntKind.u8 0, Value.int IntKind.u8 0, Value.int IntKind.u8 0, Value.int IntKind.u8 0, Value.int IntKind.u8 0, Value.int IntKind.u8 0, Value.int IntKind.u8 0, Value.int IntKind.u8 0, Value.int IntKind.u8 0, Value.int IntKind.u8 0, Value.int IntKind.u8 0, Value.int IntKind.u8 0, Value.int IntKind.u8 0, Value.int IntKind.u8 0, Value.int IntKind.u8 0, Value.int IntKind.u8 0, Value.int IntKind.u8 0, Value.int IntKind.u8 0, Value.int IntKind.u8 0, Value.int IntKind.u8 0, Value.int IntKind.u8 0, Value.int IntKind.u8 0, Value.int IntKind.u8 0, Value.int IntKind.u8 0]) := ⟨Tryd.underlying221, Tryd.t221, info_of Tryd.typeInfo221, rfl, rfl, rfl⟩
instance : EqG Tryd.prog 221 := ⟨Tryd.eqGuardType221⟩
instance : Ty Tryd.prog 222 (TypeDesc.func #[91] #[3] false) 1 8 Value.nilFunc := ⟨Tryd.underlying222, Tryd.t222, info_of Tryd.typeInfo222, rfl, rfl, rfl⟩
instance : Ty Tryd.prog 223 (TypeDesc.func #[48, 91] #[] false) 1 8 Value.nilFunc := ⟨Tryd.underlying223, Tryd.t223, info_of Tryd.typeInfo223, rfl, rfl, rfl⟩
instance : Ty Tryd.prog 224 (TypeDesc.tuple #[48, 9]) 1 0 (Value.tuple #[Value.slice none 0 0, Value.string { data := #[] }]) := ⟨Tryd.underlying224, Tryd.t224, info_of Tryd.typeInfo224, rfl, rfl, rfl⟩
instance : Ty Tryd.prog 225 (TypeDesc.func #[48, 91, 3, 4, 4] #[48, 9] false) 1 8 Value.nilFunc := ⟨Tryd.underlying225, Tryd.t225, info_of Tryd.typeInfo225, rfl, rfl, rfl⟩
instance : Ty Tryd.prog 226 (TypeDesc.func #[48, 3] #[48] false) 1 8 Value.nilFunc := ⟨Tryd.underlying226, Tryd.t226, info_of Tryd.typeInfo226, rfl, rfl, rfl⟩
instance : Ty Tryd.prog 227 (TypeDesc.func #[28, 5] #[28] false) 1 8 Value.nilFunc := ⟨Tryd.underlying227, Tryd.t227, info_of Tryd.typeInfo227, rfl, rfl, rfl⟩
instance : Ty Tryd.prog 228 (TypeDesc.func #[3] #[3] false) 1 8 Value.nilFunc := ⟨Tryd.underlying228, Tryd.t228, info_of Tryd.typeInfo228, rfl, rfl, rfl⟩
instance : Ty Tryd.prog 229 (TypeDesc.func #[4] #[3] false) 1 8 Value.nilFunc := ⟨Tryd.underlying229, Tryd.t229, info_of Tryd.typeInfo229, rfl, rfl, rfl⟩
instance : Ty Tryd.prog 230 (TypeDesc.array 20 91) 20 160 (Value.agg #[Value.int IntKind.u64 0, Value.int IntKind.u64 0, Value.int IntKind.u64 0, Value.int IntKind.u64 0, Value.int IntKind.u64 0, Value.int IntKind.u64 0, Value.int IntKind.u64 0, Value.int IntKind.u64 0, Value.int IntKind.u64 0, Value.int IntKind.u64 0, Value.int IntKind.u64 0, Value.int IntKind.u64 0, Value.int IntKind.u64 0, Value.int IntKind.u64 0, Value.int IntKind.u64 0, Value.int IntKind.u64 0, Value.int IntKind.u64 0, Value.int IntKind.u64 0, Value.int IntKind.u64 0, Value.int IntKind.u64 0]) := ⟨Tryd.underlying230, Tryd.t230, info_of Tryd.typeInfo230, rfl, rfl, rfl⟩
instance : EqG Tryd.prog 230 := ⟨Tryd.eqGuardType230⟩
instance : Ty Tryd.prog 231 (TypeDesc.array 65 5) 65 65 (Value.agg ([Value.int IntKind.u8 0, Value.int IntKind.u8 0, Value.int IntKind.u8 0, Value.int IntKind.u8 0, Value.int IntKind.u8 0, Value.int IntKind.u8 0, Value.int IntKind.u8 0, Value.int IntKind.u8 0, Value.int IntKind.u8 0, Value.int IntKind.u8 0, Value.int IntKind.u8 0, Value.int IntKind.u8 0, Value.int IntKind.u8 0, Value.int IntKind.u8 0, Value.int IntKind.u8 0, Value.int IntKind.u8 0, Value.int IntKind.u8 0, Value.int IntKind.u8 0, Value.int IntKind.u8 0, Value.int IntKind.u8 0, Value.int IntKind.u8 0, Value.int IntKind.u8 0, Value.int IntKind.u8 0, Value.int IntKind.u8 0, Value.int IntKind.u8 0, Value.int IntKind.u8 0, Value.int IntKind.u8 0, Value.int IntKind.u8 0, Value.int IntKind.u8 0, Value.int IntKind.u8 0, Value.int IntKind.u8 0, Value.int IntKind.u8 0].append [Value.int IntKind.u8 0, Value.int IntKind.u8 0, Value.int IntKind.u8 0, Value.int IntKind.u8 0, Value.int IntKind.u8 0, Value.int IntKind.u8 0, Value.int IntKind.u8 0, Value.int IntKind.u8 0, Value.int IntKind.u8 0, Value.int IntKind.u8 0, Value.int IntKind.u8 0, Value.int IntKind.u8 0, Value.int IntKind.u8 0, Value.int IntKind.u8 0, Value.int IntKind.u8 0, Value.int IntKind.u8 0, Value.int IntKind.u8 0, Value.int IntKind.u8 0, Value.int IntKind.u8 0, Value.int IntKind.u8 0, Value.int IntKind.u8 0, Value.int IntKind.u8 0, Value.int IntKind.u8 0, Value.int IntKind.u8 0, Value.int IntKind.u8 0, Value.int IntKind.u8 0, Value.int IntKind.u8 0, Value.int IntKind.u8 0, Value.int IntKind.u8 0, Value.int IntKind.u8 0, Value.int IntKind.u8 0, Value.int IntKind.u8 0, Value.int IntKind.u8 0]).toArray) := ⟨Tryd.underlying231, Tryd.t231, info_of Tryd.typeInfo231, rfl, rfl, rfl⟩
instance : EqG Tryd.prog 231 := ⟨Tryd.eqGuardType231⟩
instance : Ty Tryd.prog 232 (TypeDesc.func #[3] #[4] false) 1 8 Value.nilFunc := ⟨Tryd.underlying232, Tryd.t232, info_of Tryd.typeInfo232, rfl, rfl, rfl⟩
instance : Ty Tryd.prog 233 (TypeDesc.func #[157] #[3] false) 1 8 Value.nilFunc := ⟨Tryd.underlying233, Tryd.t233, info_of Tryd.typeInfo233, rfl, rfl, rfl⟩
instance : Ty Tryd.prog 234 (TypeDesc.func #[28] #[3] false) 1 8 Value.nilFunc := ⟨Tryd.underlying234, Tryd.t234, info_of Tryd.typeInfo234, rfl, rfl, rfl⟩
instance : Ty Tryd.prog 235 (TypeDesc.array 32 5) 32 32 (Value.agg #[Value.int IntKind.u8 0, Value.int IntKind.u8 0, Value.int IntKind.u8 0, Value.int IntKind.u8 0, Value.int IntKind.u8 0, Value.int IntKind.u8 0, Value.int IntKind.u8 0, Value.int IntKind.u8 0, Value.int IntKind.u8 0, Value.int IntKind.u8 0, Value.int IntKind.u8 0, Value.int IntKind.u8 0, Value.int IntKind.u8 0, Value.int IntKind.u8 0, Value.int IntKind.u8 0, Value.int IntKind.u8 0, Value.int IntKind.u8 0, Value.int IntKind.u8 0, Value.int IntKind.u8 0, Value.int IntKind.u8 0, Value.int IntKind.u8 0, Value.int IntKind.u8 0, Value.int IntKind.u8 0, Value.int IntKind.u8 0, Value.int IntKind.u8 0, Value.int IntKind.u8 0, Value.int IntKind.u8 0, Value.int IntKind.u8 0, Value.int IntKind.u8 0, Value.int IntKind.u8 0, Value.int IntKind.u8 0, Value.int IntKind.u8 0]) := ⟨Tryd.underlying235, Tryd.t235, info_of Tryd.typeInfo235, rfl, rfl, rfl⟩
instance : EqG Tryd.prog 235 := ⟨Tryd.eqGuardType235⟩
instance : Ty Tryd.prog 236 (TypeDesc.array 64 5) 64 64 (Value.agg #[Value.int IntKind.u8 0, Value.int IntKind.u8 0, Value.int IntKind.u8 0, Value.int IntKind.u8 0, Value.int IntKind.u8 0, Value.int IntKind.u8 0, Value.int IntKind.u8 0, Value.int IntKind.u8 0, Value.int IntKind.u8 0, Value.int IntKind.u8 0, Value.int IntKind.u8 0, Value.int IntKind.u8 0, Value.int IntKind.u8 0, Value.int IntKind.u8 0, Value.int IntKind.u8 0, Value.int IntKind.u8 0, Value.int IntKind.u8 0, Value.int IntKind.u8 0, Value.int IntKind.u8 0, Value.int IntKind.u8 0, Value.int IntKind.u8 0, Value.int IntKind.u8 0, Value.int IntKind.u8 0, Value.int IntKind.u8 0, Value.int IntKind.u8 0, Value.int IntKind.u8 0, Value.int IntKind.u8 0, Value.int IntKind.u8 0, Value.int IntKind.u8 0, Value.int IntKind.u8 0, Value.int IntKind.u8 0, Value.int IntKind.u8 0, Value.int IntKind.u8 0, Value.int IntKind.u8 0, Value.int IntKind.u8 0, Value.int IntKind.u8 0, Value.int IntKind.u8 0, Value.int IntKind.u8 0, Value.int IntKind.u8 0, Value.int IntKind.u8 0, Value.int IntKind.u8 0, Value.int IntKind.u8 0, Value.int IntKind.u8 0, Value.int IntKind.u8 0, Value.int IntKind.u8 0, Value.int IntKind.u8 0, Value.int IntKind.u8 0, Value.int IntKind.u8 0, Value.int IntKind.u8 0, Value.int IntKind.u8 0, Value.int IntKind.u8 0, Value.int IntKind.u8 0, Value.int IntKind.u8 0, Value.int IntKind.u8 0, Value.int IntKind.u8 0, Value.int IntKind.u8 0, Value.int IntKind.u8 0, Value.int IntKind.u8 0, Value.int IntKind.u8 0, Value.int IntKind.u8 0, Value.int IntKind.u8 0, Value.int IntKind.u8 0, Value.int IntKind.u8 0, Value.int IntKind.u8 0]) := ⟨Tryd.underlying236, Tryd.t236, info_of Tryd.typeInfo236, rfl, rfl, rfl⟩
instance : EqG Tryd.prog 236 := ⟨Tryd.eqGuardType236⟩
instance : Ty Tryd.prog 237 (TypeDesc.func #[] #[9] false) 1 8 Value.nilFunc := ⟨Tryd.underlying237, Tryd.t237, info_of Tryd.typeInfo237, rfl, rfl, rfl⟩
instance : Ty Tryd.prog 238 (TypeDesc.struct #[{ name := "_interface", type := 17, offset := 0, embedded := false, tag := "", pkgPath := "runtime", byteOffset := 0 }, { name := "concrete", type := 17, offset := 1, embedded := false, tag := "", pkgPath := "runtime", byteOffset := 8 }, { name := "asserted", type := 17, offset := 2, embedded := false, tag := "", pkgPath := "runtime", byteOffset := 16 }, { name := "missingMethod", type := 9, offset := 3, embedded := false, tag := "", pkgPath := "runtime", byteOffset := 24 }]) 4 40 (Value.agg #[Value.pointer none, Value.pointer none, Value.pointer none, Value.string { data := #[] }]) := ⟨Tryd.underlying238, Tryd.t238, info_of Tryd.typeInfo238, rfl, rfl, rfl⟩
instance : Fld Tryd.prog 238 0 0 17 := ⟨_, _, Tryd.underlying238, rfl, rfl, rfl⟩
instance : Fld Tryd.prog 238 1 1 17 := ⟨_, _, Tryd.underlying238, rfl, rfl, rfl⟩
instance : Fld Tryd.prog 238 2 2 17 := ⟨_, _, Tryd.underlying238, rfl, rfl, rfl⟩
instance : Fld Tryd.prog 238 3 3 9 := ⟨_, _, Tryd.underlying238, rfl, rfl, rfl⟩
instance : EqG Tryd.prog 238 := ⟨Tryd.eqGuardType238⟩
instance : Ty Tryd.prog 239 (TypeDesc.struct #[{ name := "_interface", type := 17, offset := 0, embedded := false, tag := "", pkgPath := "runtime", byteOffset := 0 }, { name := "concrete", type := 17, offset := 1, embedded := false, tag := "", pkgPath := "runtime", byteOffset := 8 }, { name := "asserted", type := 17, offset := 2, embedded := false, tag := "", pkgPath := "runtime", byteOffset := 16 }, { name := "missingMethod", type := 9, offset := 3, embedded := false, tag := "", pkgPath := "runtime", byteOffset := 24 }]) 4 40 (Value.agg #[Value.pointer none, Value.pointer none, Value.pointer none, Value.string { data := #[] }]) := ⟨Tryd.underlying239, Tryd.t239, info_of Tryd.typeInfo239, rfl, rfl, rfl⟩
instance : Fld Tryd.prog 239 0 0 17 := ⟨_, _, Tryd.underlying239, rfl, rfl, rfl⟩
instance : Fld Tryd.prog 239 1 1 17 := ⟨_, _, Tryd.underlying239, rfl, rfl, rfl⟩
instance : Fld Tryd.prog 239 2 2 17 := ⟨_, _, Tryd.underlying239, rfl, rfl, rfl⟩
instance : Fld Tryd.prog 239 3 3 9 := ⟨_, _, Tryd.underlying239, rfl, rfl, rfl⟩
instance : EqG Tryd.prog 239 := ⟨Tryd.eqGuardType239⟩
instance : Ty Tryd.prog 240 (TypeDesc.array 0 16) 0 0 (Value.agg #[]) := ⟨Tryd.underlying240, Tryd.t240, info_of Tryd.typeInfo240, rfl, rfl, rfl⟩
instance : EqG Tryd.prog 240 := ⟨Tryd.eqGuardType240⟩
instance : Ty Tryd.prog 241 (TypeDesc.struct #[{ name := "_", type := 240, offset := 0, embedded := false, tag := "", pkgPath := "runtime", byteOffset := 0 }]) 0 0 (Value.agg #[]) := ⟨Tryd.underlying241, Tryd.t241, info_of Tryd.typeInfo241, rfl, rfl, rfl⟩
instance : Fld Tryd.prog 241 0 0 240 := ⟨_, _, Tryd.underlying241, rfl, rfl, rfl⟩
instance : EqG Tryd.prog 241 := ⟨Tryd.eqGuardType241⟩
instance : Ty Tryd.prog 242 (TypeDesc.struct #[{ name := "_", type := 240, offset := 0, embedded := false, tag := "", pkgPath := "runtime", byteOffset := 0 }]) 0 0 (Value.agg #[]) := ⟨Tryd.underlying242, Tryd.t242, info_of Tryd.typeInfo242, rfl, rfl, rfl⟩
instance : Fld Tryd.prog 242 0 0 240 := ⟨_, _, Tryd.underlying242, rfl, rfl, rfl⟩
instance : EqG Tryd.prog 242 := ⟨Tryd.eqGuardType242⟩
instance : Ty Tryd.prog 243 (TypeDesc.func #[] #[3] false) 1 8 Value.nilFunc := ⟨Tryd.underlying243, Tryd.t243, info_of Tryd.typeInfo243, rfl, rfl, rfl⟩
instance : Ty Tryd.prog 244 (TypeDesc.int IntKind.u8) 1 1 (Value.int IntKind.u8 0) := ⟨Tryd.underlying244, Tryd.t244, info_of Tryd.typeInfo244, rfl, rfl, rfl⟩
instance : Ty Tryd.prog 245 (TypeDesc.int IntKind.u8) 1 1 (Value.int IntKind.u8 0) := ⟨Tryd.underlying245, Tryd.t245, info_of Tryd.typeInfo245, rfl, rfl, rfl⟩
instance : Ty Tryd.prog 246 (TypeDesc.func #[253, 253] #[4] false) 1 8 Value.nilFunc := ⟨Tryd.underlying246, Tryd.t246, info_of Tryd.typeInfo246, rfl, rfl, rfl⟩
instance : Ty Tryd.prog 247 (TypeDesc.pointer 5) 1 8 (Value.pointer none) := ⟨Tryd.underlying247, Tryd.t247, info_of Tryd.typeInfo247, rfl, rfl, rfl⟩
instance : Ty Tryd.prog 248 (TypeDesc.int IntKind.i32) 1 4 (Value.int IntKind.i32 0) := ⟨Tryd.underlying248, Tryd.t248, info_of Tryd.typeInfo248, rfl, rfl, rfl⟩
instance : Ty Tryd.prog 249 (TypeDesc.int IntKind.i32) 1 4 (Value.int IntKind.i32 0) := ⟨Tryd.underlying249, Tryd.t249, info_of Tryd.typeInfo249, rfl, rfl, rfl⟩
instance : Ty Tryd.prog 250 (TypeDesc.struct #[{ name := "Size_", type := 12, offset := 0, embedded := false, tag := "", pkgPath := "", byteOffset := 0 }, { name := "PtrBytes", type := 12, offset := 1, embedded := false, tag := "", pkgPath := "", byteOffset := 8 }, { name := "Hash", type := 28, offset := 2, embedded := false, tag := "", pkgPath := "", byteOffset := 16 }, { name := "TFlag", type := 244, offset := 3, embedded := false, tag := "", pkgPath := "", byteOffset := 20 }, { name := "Align_", type := 5, offset := 4, embedded := false, tag := "", pkgPath := "", byteOffset := 21 }, { name := "FieldAlign_", type := 5, offset := 5, embedded := false, tag := "", pkgPath := "", byteOffset := 22 }, { name := "Kind_", type := 245, offset := 6, embedded := false, tag := "", pkgPath := "", byteOffset := 23 }, { name := "Equal", type := 246, offset := 7, embedded := false, tag := "", pkgPath := "", byteOffset := 24 }, { name := "GCData", type := 247, offset := 8, embedded := false, tag := "", pkgPath := "", byteOffset := 32 }, { name := "Str", type := 248, offset := 9, embedded := false, tag := "", pkgPath := "", byteOffset := 40 }, { name := "PtrToThis", type := 249, offset := 10, embedded := false, tag := "", pkgPath := "", byteOffset := 44 }]) 11 48 (Value.agg #[Value.int IntKind.u64 0, Value.int IntKind.u64 0, Value.int IntKind.u32 0, Value.int IntKind.u8 0, Value.int IntKind.u8 0, Value.int IntKind.u8 0, Value.int IntKind.u8 0, Value.nilFunc, Value.pointer none, Value.int IntKind.i32 0, Value.int IntKind.i32 0]) := ⟨Tryd.underlying250, Tryd.t250, info_of Tryd.typeInfo250, rfl, rfl, rfl⟩
instance : Fld Tryd.prog 250 0 0 12 := ⟨_, _, Tryd.underlying250, rfl, rfl, rfl⟩
instance : Fld Tryd.prog 250 1 1 12 := ⟨_, _, Tryd.underlying250, rfl, rfl, rfl⟩
instance : Fld Tryd.prog 250 2 2 28 := ⟨_, _, Tryd.underlying250, rfl, rfl, rfl⟩
instance : Fld Tryd.prog 250 3 3 244 := ⟨_, _, Tryd.underlying250, rfl, rfl, rfl⟩
instance : Fld Tryd.prog 250 4 4 5 := ⟨_, _, Tryd.underlying250, rfl, rfl, rfl⟩
instance : Fld Tryd.prog 250 5 5 5 := ⟨_, _, Tryd.underlying250, rfl, rfl, rfl⟩
instance : Fld Tryd.prog 250 6 6 245 := ⟨_, _, Tryd.underlying250, rfl, rfl, rfl⟩
instance : Fld Tryd.prog 250 7 7 246 := ⟨_, _, Tryd.underlying250, rfl, rfl, rfl⟩
instance : Fld Tryd.prog 250 8 8 247 := ⟨_, _, Tryd.underlying250, rfl, rfl, rfl⟩
instance : Fld Tryd.prog 250 9 9 248 := ⟨_, _, Tryd.underlying250, rfl, rfl, rfl⟩
instance : Fld Tryd.prog 250 10 10 249 := ⟨_, _, Tryd.underlying250, rfl, rfl, rfl⟩
instance : EqG Tryd.prog 250 := ⟨Tryd.eqGuardType250⟩
instance : Ty Tryd.prog 251 (TypeDesc.struct #[{ name := "Size_", type := 12, offset := 0, embedded := false, tag := "", pkgPath := "", byteOffset := 0 }, { name := "PtrBytes", type := 12, offset := 1, embedded := false, tag := "", pkgPath := "", byteOffset := 8 }, { name := "Hash", type := 28, offset := 2, embedded := false, tag := "", pkgPath := "", byteOffset := 16 }, { name := "TFlag", type := 244, offset := 3, embedded := false, tag := "", pkgPath := "", byteOffset := 20 }, { name := "Align_", type := 5, offset := 4, embedded := false, tag := "", pkgPath := "", byteOffset := 21 }, { name := "FieldAlign_", type := 5, offset := 5, embedded := false, tag := "", pkgPath := "", byteOffset := 22 }, { name := "Kind_", type := 245, offset := 6, embedded := false, tag := "", pkgPath := "", byteOffset := 23 }, { name := "Equal", type := 246, offset := 7, embedded := false, tag := "", pkgPath := "", byteOffset := 24 }, { name := "GCData", type := 247, offset := 8, embedded := false, tag := "", pkgPath := "", byteOffset := 32 }, { name := "Str", type := 248, offset := 9, embedded := false, tag := "", pkgPath := "", byteOffset := 40 }, { name := "PtrToThis", type := 249, offset := 10, embedded := false, tag := "", pkgPath := "", byteOffset := 44 }]) 11 48 (Value.agg #[Value.int IntKind.u64 0, Value.int IntKind.u64 0, Value.int IntKind.u32 0, Value.int IntKind.u8 0, Value.int IntKind.u8 0, Value.int IntKind.u8 0, Value.int IntKind.u8 0, Value.nilFunc, Value.pointer none, Value.int IntKind.i32 0, Value.int IntKind.i32 0]) := ⟨Tryd.underlying251, Tryd.t251, info_of Tryd.typeInfo251, rfl, rfl, rfl⟩
instance : Fld Tryd.prog 251 0 0 12 := ⟨_, _, Tryd.underlying251, rfl, rfl, rfl⟩
instance : Fld Tryd.prog 251 1 1 12 := ⟨_, _, Tryd.underlying251, rfl, rfl, rfl⟩
instance : Fld Tryd.prog 251 2 2 28 := ⟨_, _, Tryd.underlying251, rfl, rfl, rfl⟩
instance : Fld Tryd.prog 251 3 3 244 := ⟨_, _, Tryd.underlying251, rfl, rfl, rfl⟩
instance : Fld Tryd.prog 251 4 4 5 := ⟨_, _, Tryd.underlying251, rfl, rfl, rfl⟩
instance : Fld Tryd.prog 251 5 5 5 := ⟨_, _, Tryd.underlying251, rfl, rfl, rfl⟩
instance : Fld Tryd.prog 251 6 6 245 := ⟨_, _, Tryd.underlying251, rfl, rfl, rfl⟩
instance : Fld Tryd.prog 251 7 7 246 := ⟨_, _, Tryd.underlying251, rfl, rfl, rfl⟩
instance : Fld Tryd.prog 251 8 8 247 := ⟨_, _, Tryd.underlying251, rfl, rfl, rfl⟩
instance : Fld Tryd.prog 251 9 9 248 := ⟨_, _, Tryd.underlying251, rfl, rfl, rfl⟩
instance : Fld Tryd.prog 251 10 10 249 := ⟨_, _, Tryd.underlying251, rfl, rfl, rfl⟩
instance : EqG Tryd.prog 251 := ⟨Tryd.eqGuardType251⟩
instance : Ty Tryd.prog 252 (TypeDesc.func #[2] #[49] false) 1 8 Value.nilFunc := ⟨Tryd.underlying252, Tryd.t252, info_of Tryd.typeInfo252, rfl, rfl, rfl⟩
instance : Ty Tryd.prog 253 (TypeDesc.unsafePointer) 1 8 (Value.pointer none) := ⟨Tryd.underlying253, Tryd.t253, info_of Tryd.typeInfo253, rfl, rfl, rfl⟩
instance : Plc Tryd.prog 7 [(0, 1), (1, 1), (2, 1), (3, 1)] := ⟨_, Tryd.underlying7, (.mk 2 0 1 rfl rfl (.mk 3 1 1 rfl rfl (.mk 4 2 1 rfl rfl (.mk 6 3 1 rfl rfl .nil))))⟩
instance : Plc Tryd.prog 8 [(0, 1), (1, 1), (2, 1), (3, 1)] := ⟨_, Tryd.underlying8, (.mk 2 0 1 rfl rfl (.mk 3 1 1 rfl rfl (.mk 4 2 1 rfl rfl (.mk 6 3 1 rfl rfl .nil))))⟩
instance : Plc Tryd.prog 13 [(0, 1), (1, 1)] := ⟨_, Tryd.underlying13, (.mk 9 0 1 rfl rfl (.mk 12 1 1 rfl rfl .nil))⟩
instance : Plc Tryd.prog 14 [(0, 1), (1, 1)] := ⟨_, Tryd.underlying14, (.mk 9 0 1 rfl rfl (.mk 12 1 1 rfl rfl .nil))⟩
instance : Plc Tryd.prog 18 [(0, 1)] := ⟨_, Tryd.underlying18, (.mk 17 0 1 rfl rfl .nil)⟩
instance : Plc Tryd.prog 19 [(0, 1)] := ⟨_, Tryd.underlying19, (.mk 17 0 1 rfl rfl .nil)⟩
instance : Plc Tryd.prog 25 [(0, 1), (1, 1), (2, 1), (3, 1)] := ⟨_, Tryd.underlying25, (.mk 4 0 1 rfl rfl (.mk 22 1 1 rfl rfl (.mk 23 2 1 rfl rfl (.mk 24 3 1 rfl rfl .nil))))⟩
instance : Plc Tryd.prog 26 [(0, 1), (1, 1), (2, 1), (3, 1)] := ⟨_, Tryd.underlying26, (.mk 4 0 1 rfl rfl (.mk 22 1 1 rfl rfl (.mk 23 2 1 rfl rfl (.mk 24 3 1 rfl rfl .nil))))⟩
instance : Plc Tryd.prog 29 [(0, 1), (1, 1)] := ⟨_, Tryd.underlying29, (.mk 5 0 1 rfl rfl (.mk 28 1 1 rfl rfl .nil))⟩
instance : Plc Tryd.prog 30 [(0, 1), (1, 1)] := ⟨_, Tryd.underlying30, (.mk 5 0 1 rfl rfl (.mk 28 1 1 rfl rfl .nil))⟩
instance : Plc Tryd.prog 31 [(0, 1), (1, 2)] := ⟨_, Tryd.underlying31, (.mk 27 0 1 rfl rfl (.mk 30 1 2 rfl rfl .nil))⟩
instance : Plc Tryd.prog 32 [(0, 1), (1, 2)] := ⟨_, Tryd.underlying32, (.mk 27 0 1 rfl rfl (.mk 30 1 2 rfl rfl .nil))⟩
instance : Plc Tryd.prog 39 [(0, 1), (1, 1), (2, 1), (3, 1)] := ⟨_, Tryd.underlying39, (.mk 4 0 1 rfl rfl (.mk 37 1 1 rfl rfl (.mk 38 2 1 rfl rfl (.mk 24 3 1 rfl rfl .nil))))⟩
instance : Plc Tryd.prog 40 [(0, 1), (1, 1), (2, 1), (3, 1)] := ⟨_, Tryd.underlying40, (.mk 4 0 1 rfl rfl (.mk 37 1 1 rfl rfl (.mk 38 2 1 rfl rfl (.mk 24 3 1 rfl rfl .nil))))⟩
instance : Plc Tryd.prog 42 [(0, 1), (1, 2)] := ⟨_, Tryd.underlying42, (.mk 27 0 1 rfl rfl (.mk 30 1 2 rfl rfl .nil))⟩
instance : Plc Tryd.prog 66 [(0, 2), (2, 1), (3, 1), (4, 1), (5, 1), (6, 1), (7, 16)] := ⟨_, Tryd.underlying66, (.mk 30 0 2 rfl rfl (.mk 5 2 1 rfl rfl (.mk 27 3 1 rfl rfl (.mk 27 4 1 rfl rfl (.mk 27 5 1 rfl rfl (.mk 28 6 1 rfl rfl (.mk 65 7 16 rfl rfl .nil)))))))⟩
instance : Plc Tryd.prog 67 [(0, 2), (2, 1), (3, 1), (4, 1), (5, 1), (6, 1), (7, 16)] := ⟨_, Tryd.underlying67, (.mk 30 0 2 rfl rfl (.mk 5 2 1 rfl rfl (.mk 27 3 1 rfl rfl (.mk 27 4 1 rfl rfl (.mk 27 5 1 rfl rfl (.mk 28 6 1 rfl rfl (.mk 65 7 16 rfl rfl .nil)))))))⟩
instance : Plc Tryd.prog 76 [(0, 1), (1, 1), (2, 1), (3, 1), (4, 1)] := ⟨_, Tryd.underlying76, (.mk 28 0 1 rfl rfl (.mk 74 1 1 rfl rfl (.mk 75 2 1 rfl rfl (.mk 4 3 1 rfl rfl (.mk 3 4 1 rfl rfl .nil)))))⟩
instance : Plc Tryd.prog 77 [(0, 1), (1, 1), (2, 1), (3, 1), (4, 1)] := ⟨_, Tryd.underlying77, (.mk 28 0 1 rfl rfl (.mk 74 1 1 rfl rfl (.mk 75 2 1 rfl rfl (.mk 4 3 1 rfl rfl (.mk 3 4 1 rfl rfl .nil)))))⟩
instance : Plc Tryd.prog 80 [(0, 1), (1, 1), (2, 1), (3, 1), (4, 1)] := ⟨_, Tryd.underlying80, (.mk 28 0 1 rfl rfl (.mk 74 1 1 rfl rfl (.mk 75 2 1 rfl rfl (.mk 4 3 1 rfl rfl (.mk 3 4 1 rfl rfl .nil)))))⟩
instance : Plc Tryd.prog 92 [(0, 1), (1, 16), (17, 1), (18, 1), (19, 1)] := ⟨_, Tryd.underlying92, (.mk 91 0 1 rfl rfl (.mk 65 1 16 rfl rfl (.mk 28 17 1 rfl rfl (.mk 24 18 1 rfl rfl (.mk 28 19 1 rfl rfl .nil)))))⟩
instance : Plc Tryd.prog 93 [(0, 1), (1, 16), (17, 1), (18, 1), (19, 1)] := ⟨_, Tryd.underlying93, (.mk 91 0 1 rfl rfl (.mk 65 1 16 rfl rfl (.mk 28 17 1 rfl rfl (.mk 24 18 1 rfl rfl (.mk 28 19 1 rfl rfl .nil)))))⟩
instance : Plc Tryd.prog 95 [(0, 1), (1, 16), (17, 1), (18, 1), (19, 1)] := ⟨_, Tryd.underlying95, (.mk 91 0 1 rfl rfl (.mk 65 1 16 rfl rfl (.mk 28 17 1 rfl rfl (.mk 24 18 1 rfl rfl (.mk 28 19 1 rfl rfl .nil)))))⟩
instance : Plc Tryd.prog 113 [(0, 1), (1, 1)] := ⟨_, Tryd.underlying113, (.mk 28 0 1 rfl rfl (.mk 28 1 1 rfl rfl .nil))⟩
instance : Plc Tryd.prog 114 [(0, 1), (1, 1)] := ⟨_, Tryd.underlying114, (.mk 28 0 1 rfl rfl (.mk 28 1 1 rfl rfl .nil))⟩
instance : Plc Tryd.prog 117 [(0, 1), (1, 1)] := ⟨_, Tryd.underlying117, (.mk 28 0 1 rfl rfl (.mk 28 1 1 rfl rfl .nil))⟩
instance : Plc Tryd.prog 129 [(0, 1), (1, 1)] := ⟨_, Tryd.underlying129, (.mk 127 0 1 rfl rfl (.mk 4 1 1 rfl rfl .nil))⟩
instance : Plc Tryd.prog 130 [(0, 1), (1, 1)] := ⟨_, Tryd.underlying130, (.mk 127 0 1 rfl rfl (.mk 4 1 1 rfl rfl .nil))⟩
instance : Plc Tryd.prog 161 [(0, 1), (1, 1)] := ⟨_, Tryd.underlying161, (.mk 48 0 1 rfl rfl (.mk 3 1 1 rfl rfl .nil))⟩
instance : Plc Tryd.prog 162 [(0, 1), (1, 1)] := ⟨_, Tryd.underlying162, (.mk 48 0 1 rfl rfl (.mk 3 1 1 rfl rfl .nil))⟩
instance : Plc Tryd.prog 182 [(0, 1), (1, 1)] := ⟨_, Tryd.underlying182, (.mk 4 0 1 rfl rfl (.mk 49 1 1 rfl rfl .nil))⟩
instance : Plc Tryd.prog 183 [(0, 1), (1, 1)] := ⟨_, Tryd.underlying183, (.mk 4 0 1 rfl rfl (.mk 49 1 1 rfl rfl .nil))⟩
instance : Plc Tryd.prog 184 [(0, 2), (2, 1)] := ⟨_, Tryd.underlying184, (.mk 183 0 2 rfl rfl (.mk 48 2 1 rfl rfl .nil))⟩
instance : Plc Tryd.prog 185 [(0, 2), (2, 1)] := ⟨_, Tryd.underlying185, (.mk 183 0 2 rfl rfl (.mk 48 2 1 rfl rfl .nil))⟩
instance : Plc Tryd.prog 194 [(0, 2), (2, 1)] := ⟨_, Tryd.underlying194, (.mk 183 0 2 rfl rfl (.mk 48 2 1 rfl rfl .nil))⟩
instance : Plc Tryd.prog 216 [(0, 1), (1, 1)] := ⟨_, Tryd.underlying216, (.mk 127 0 1 rfl rfl (.mk 4 1 1 rfl rfl .nil))⟩
instance : Plc Tryd.prog 217 [(0, 1), (1, 1)] := ⟨_, Tryd.underlying217, (.mk 127 0 1 rfl rfl (.mk 4 1 1 rfl rfl .nil))⟩
instance : Plc Tryd.prog 238 [(0, 1), (1, 1), (2, 1), (3, 1)] := ⟨_, Tryd.underlying238, (.mk 17 0 1 rfl rfl (.mk 17 1 1 rfl rfl (.mk 17 2 1 rfl rfl (.mk 9 3 1 rfl rfl .nil))))⟩
instance : Plc Tryd.prog 239 [(0, 1), (1, 1), (2, 1), (3, 1)] := ⟨_, Tryd.underlying239, (.mk 17 0 1 rfl rfl (.mk 17 1 1 rfl rfl (.mk 17 2 1 rfl rfl (.mk 9 3 1 rfl rfl .nil))))⟩
instance : Plc Tryd.prog 241 [(0, 0)] := ⟨_, Tryd.underlying241, (.mk 240 0 0 rfl rfl .nil)⟩
instance : Plc Tryd.prog 242 [(0, 0)] := ⟨_, Tryd.underlying242, (.mk 240 0 0 rfl rfl .nil)⟩
instance : Plc Tryd.prog 250 [(0, 1), (1, 1), (2, 1), (3, 1), (4, 1), (5, 1), (6, 1), (7, 1), (8, 1), (9, 1), (10, 1)] := ⟨_, Tryd.underlying250, (.mk 12 0 1 rfl rfl (.mk 12 1 1 rfl rfl (.mk 28 2 1 rfl rfl (.mk 244 3 1 rfl rfl (.mk 5 4 1 rfl rfl (.mk 5 5 1 rfl rfl (.mk 245 6 1 rfl rfl (.mk 246 7 1 rfl rfl (.mk 247 8 1 rfl rfl (.mk 248 9 1 rfl rfl (.mk 249 10 1 rfl rfl .nil)))))))))))⟩
instance : Plc Tryd.prog 251 [(0, 1), (1, 1), (2, 1), (3, 1), (4, 1), (5, 1), (6, 1), (7, 1), (8, 1), (9, 1), (10, 1)] := ⟨_, Tryd.underlying251, (.mk 12 0 1 rfl rfl (.mk 12 1 1 rfl rfl (.mk 28 2 1 rfl rfl (.mk 244 3 1 rfl rfl (.mk 5 4 1 rfl rfl (.mk 5 5 1 rfl rfl (.mk 245 6 1 rfl rfl (.mk 246 7 1 rfl rfl (.mk 247 8 1 rfl rfl (.mk 248 9 1 rfl rfl (.mk 249 10 1 rfl rfl .nil)))))))))))⟩
instance : EqT Tryd.prog 2 false 1 [.i .i64] := eqt_int Tryd.underlying2
instance : EqT Tryd.prog 3 false 1 [.i .i64] := eqt_int Tryd.underlying3
instance : EqT Tryd.prog 4 false 1 [.b] := eqt_bool Tryd.underlying4
instance : EqT Tryd.prog 5 false 1 [.i .u8] := eqt_int Tryd.underlying5
instance : EqT Tryd.prog 6 false 1 [.i .u8] := eqt_int Tryd.underlying6
instance : EqT Tryd.prog 7 true 2 [.i .i64, .i .i64, .b, .i .u8] := by
  have h := eqt_struct (dd := 1) Tryd.underlying7 Tryd.stoodInHeld7 (FOk.mk2 (P := Tryd.prog) (dd := 1) 2 (f := { name := "x", type := 2, offset := 0, embedded := false, tag := "", pkgPath := "runtime", byteOffset := 0 }) (off := 0) rfl rfl rfl rfl (by decide) (by decide) (FOk.mk2 (P := Tryd.prog) (dd := 1) 3 (f := { name := "y", type := 3, offset := 1, embedded := false, tag := "", pkgPath := "runtime", byteOffset := 8 }) (off := 1) rfl rfl rfl rfl (by decide) (by decide) (FOk.mk2 (P := Tryd.prog) (dd := 1) 4 (f := { name := "signed", type := 4, offset := 2, embedded := false, tag := "", pkgPath := "runtime", byteOffset := 16 }) (off := 2) rfl rfl rfl rfl (by decide) (by decide) (FOk.mk2 (P := Tryd.prog) (dd := 1) 6 (f := { name := "code", type := 6, offset := 3, embedded := false, tag := "", pkgPath := "runtime", byteOffset := 17 }) (off := 3) rfl rfl rfl rfl (by decide) (by decide) (FOk.nil (P := Tryd.prog) (dd := 1) _)))))
  exact h
instance : EqT Tryd.prog 8 true 2 [.i .i64, .i .i64, .b, .i .u8] := by
  have h := eqt_struct (dd := 1) Tryd.underlying8 Tryd.stoodInHeld8 (FOk.mk2 (P := Tryd.prog) (dd := 1) 2 (f := { name := "x", type := 2, offset := 0, embedded := false, tag := "", pkgPath := "runtime", byteOffset := 0 }) (off := 0) rfl rfl rfl rfl (by decide) (by decide) (FOk.mk2 (P := Tryd.prog) (dd := 1) 3 (f := { name := "y", type := 3, offset := 1, embedded := false, tag := "", pkgPath := "runtime", byteOffset := 8 }) (off := 1) rfl rfl rfl rfl (by decide) (by decide) (FOk.mk2 (P := Tryd.prog) (dd := 1) 4 (f := { name := "signed", type := 4, offset := 2, embedded := false, tag := "", pkgPath := "runtime", byteOffset := 16 }) (off := 2) rfl rfl rfl rfl (by decide) (by decide) (FOk.mk2 (P := Tryd.prog) (dd := 1) 6 (f := { name := "code", type := 6, offset := 3, embedded := false, tag := "", pkgPath := "runtime", byteOffset := 17 }) (off := 3) rfl rfl rfl rfl (by decide) (by decide) (FOk.nil (P := Tryd.prog) (dd := 1) _)))))
  exact h
instance : EqT Tryd.prog 12 false 1 [.i .u64] := eqt_int Tryd.underlying12
instance : EqT Tryd.prog 21 false 1 [.i .i32] := eqt_int Tryd.underlying21
instance : EqT Tryd.prog 27 false 1 [.i .u16] := eqt_int Tryd.underlying27
instance : EqT Tryd.prog 28 false 1 [.i .u32] := eqt_int Tryd.underlying28
instance : EqT Tryd.prog 29 true 2 [.i .u8, .i .u32] := by
  have h := eqt_struct (dd := 1) Tryd.underlying29 Tryd.stoodInHeld29 (FOk.mk2 (P := Tryd.prog) (dd := 1) 5 (f := { name := "Rep", type := 5, offset := 0, embedded := false, tag := "", pkgPath := "", byteOffset := 0 }) (off := 0) rfl rfl rfl rfl (by decide) (by decide) (FOk.mk2 (P := Tryd.prog) (dd := 1) 28 (f := { name := "Seq", type := 28, offset := 1, embedded := false, tag := "", pkgPath := "", byteOffset := 4 }) (off := 1) rfl rfl rfl rfl (by decide) (by decide) (FOk.nil (P := Tryd.prog) (dd := 1) _)))
  exact h
instance : EqT Tryd.prog 30 true 2 [.i .u8, .i .u32] := by
  have h := eqt_struct (dd := 1) Tryd.underlying30 Tryd.stoodInHeld30 (FOk.mk2 (P := Tryd.prog) (dd := 1) 5 (f := { name := "Rep", type := 5, offset := 0, embedded := false, tag := "", pkgPath := "", byteOffset := 0 }) (off := 0) rfl rfl rfl rfl (by decide) (by decide) (FOk.mk2 (P := Tryd.prog) (dd := 1) 28 (f := { name := "Seq", type := 28, offset := 1, embedded := false, tag := "", pkgPath := "", byteOffset := 4 }) (off := 1) rfl rfl rfl rfl (by decide) (by decide) (FOk.nil (P := Tryd.prog) (dd := 1) _)))
  exact h
instance : EqT Tryd.prog 31 true 3 [.i .u16, .i .u8, .i .u32] := by
  have h := eqt_struct (dd := 2) Tryd.underlying31 Tryd.stoodInHeld31 (FOk.mk2 (P := Tryd.prog) (dd := 2) 27 (f := { name := "Cart", type := 27, offset := 0, embedded := false, tag := "", pkgPath := "", byteOffset := 0 }) (off := 0) rfl rfl rfl rfl (by decide) (by decide) (FOk.mk2 (P := Tryd.prog) (dd := 2) 30 (f := { name := "Dot", type := 30, offset := 1, embedded := false, tag := "", pkgPath := "", byteOffset := 4 }) (off := 1) rfl rfl rfl rfl (by decide) (by decide) (FOk.nil (P := Tryd.prog) (dd := 2) _)))
  exact h
instance : EqT Tryd.prog 32 true 3 [.i .u16, .i .u8, .i .u32] := by
  have h := eqt_struct (dd := 2) Tryd.underlying32 Tryd.stoodInHeld32 (FOk.mk2 (P := Tryd.prog) (dd := 2) 27 (f := { name := "Cart", type := 27, offset := 0, embedded := false, tag := "", pkgPath := "", byteOffset := 0 }) (off := 0) rfl rfl rfl rfl (by decide) (by decide) (FOk.mk2 (P := Tryd.prog) (dd := 2) 30 (f := { name := "Dot", type := 30, offset := 1, embedded := false, tag := "", pkgPath := "", byteOffset := 4 }) (off := 1) rfl rfl rfl rfl (by decide) (by decide) (FOk.nil (P := Tryd.prog) (dd := 2) _)))
  exact h
instance : EqT Tryd.prog 42 true 3 [.i .u16, .i .u8, .i .u32] := by
  have h := eqt_struct (dd := 2) Tryd.underlying42 Tryd.stoodInHeld42 (FOk.mk2 (P := Tryd.prog) (dd := 2) 27 (f := { name := "Cart", type := 27, offset := 0, embedded := false, tag := "", pkgPath := "", byteOffset := 0 }) (off := 0) rfl rfl rfl rfl (by decide) (by decide) (FOk.mk2 (P := Tryd.prog) (dd := 2) 30 (f := { name := "Dot", type := 30, offset := 1, embedded := false, tag := "", pkgPath := "", byteOffset := 4 }) (off := 1) rfl rfl rfl rfl (by decide) (by decide) (FOk.nil (P := Tryd.prog) (dd := 2) _)))
  exact h
instance : EqT Tryd.prog 49 false 1 [.i .i64] := eqt_int Tryd.underlying49
instance : EqT Tryd.prog 64 true 2 [.i .u32, .i .u32, .i .u32, .i .u32, .i .u32, .i .u32, .i .u32, .i .u32, .i .u32, .i .u32, .i .u32, .i .u32, .i .u32, .i .u32, .i .u32, .i .u32] := by
  have h := eqt_array2 (ag := false) Tryd.underlying64 rfl rfl
  exact h
instance : EqT Tryd.prog 65 true 2 [.i .u32, .i .u32, .i .u32, .i .u32, .i .u32, .i .u32, .i .u32, .i .u32, .i .u32, .i .u32, .i .u32, .i .u32, .i .u32, .i .u32, .i .u32, .i .u32] := by
  have h := eqt_array2 (ag := false) Tryd.underlying65 rfl rfl
  exact h
instance : EqT Tryd.prog 66 true 3 [.i .u8, .i .u32, .i .u8, .i .u16, .i .u16, .i .u16, .i .u32, .i .u32, .i .u32, .i .u32, .i .u32, .i .u32, .i .u32, .i .u32, .i .u32, .i .u32, .i .u32, .i .u32, .i .u32, .i .u32, .i .u32, .i .u32, .i .u32] := by
  have h := eqt_struct (dd := 2) Tryd.underlying66 Tryd.stoodInHeld66 (FOk.mk2 (P := Tryd.prog) (dd := 2) 30 (f := { name := "Dot", type := 30, offset := 0, embedded := false, tag := "", pkgPath := "", byteOffset := 0 }) (off := 0) rfl rfl rfl rfl (by decide) (by decide) (FOk.mk2 (P := Tryd.prog) (dd := 2) 5 (f := { name := "Kind", type := 5, offset := 2, embedded := false, tag := "", pkgPath := "", byteOffset := 8 }) (off := 2) rfl rfl rfl rfl (by decide) (by decide) (FOk.mk2 (P := Tryd.prog) (dd := 2) 27 (f := { name := "Cart", type := 27, offset := 3, embedded := false, tag := "", pkgPath := "", byteOffset := 10 }) (off := 3) rfl rfl rfl rfl (by decide) (by decide) (FOk.mk2 (P := Tryd.prog) (dd := 2) 27 (f := { name := "Item", type := 27, offset := 4, embedded := false, tag := "", pkgPath := "", byteOffset := 12 }) (off := 4) rfl rfl rfl rfl (by decide) (by decide) (FOk.mk2 (P := Tryd.prog) (dd := 2) 27 (f := { name := "Qty", type := 27, offset := 5, embedded := false, tag := "", pkgPath := "", byteOffset := 14 }) (off := 5) rfl rfl rfl rfl (by decide) (by decide) (FOk.mk2 (P := Tryd.prog) (dd := 2) 28 (f := { name := "Tick", type := 28, offset := 6, embedded := false, tag := "", pkgPath := "", byteOffset := 16 }) (off := 6) rfl rfl rfl rfl (by decide) (by decide) (FOk.mk2 (P := Tryd.prog) (dd := 2) 65 (f := { name := "Ctx", type := 65, offset := 7, embedded := false, tag := "", pkgPath := "", byteOffset := 20 }) (off := 7) rfl rfl rfl rfl (by decide) (by decide) (FOk.nil (P := Tryd.prog) (dd := 2) _))))))))
  exact h
instance : EqT Tryd.prog 67 true 3 [.i .u8, .i .u32, .i .u8, .i .u16, .i .u16, .i .u16, .i .u32, .i .u32, .i .u32, .i .u32, .i .u32, .i .u32, .i .u32, .i .u32, .i .u32, .i .u32, .i .u32, .i .u32, .i .u32, .i .u32, .i .u32, .i .u32, .i .u32] := by
  have h := eqt_struct (dd := 2) Tryd.underlying67 Tryd.stoodInHeld67 (FOk.mk2 (P := Tryd.prog) (dd := 2) 30 (f := { name := "Dot", type := 30, offset := 0, embedded := false, tag := "", pkgPath := "", byteOffset := 0 }) (off := 0) rfl rfl rfl rfl (by decide) (by decide) (FOk.mk2 (P := Tryd.prog) (dd := 2) 5 (f := { name := "Kind", type := 5, offset := 2, embedded := false, tag := "", pkgPath := "", byteOffset := 8 }) (off := 2) rfl rfl rfl rfl (by decide) (by decide) (FOk.mk2 (P := Tryd.prog) (dd := 2) 27 (f := { name := "Cart", type := 27, offset := 3, embedded := false, tag := "", pkgPath := "", byteOffset := 10 }) (off := 3) rfl rfl rfl rfl (by decide) (by decide) (FOk.mk2 (P := Tryd.prog) (dd := 2) 27 (f := { name := "Item", type := 27, offset := 4, embedded := false, tag := "", pkgPath := "", byteOffset := 12 }) (off := 4) rfl rfl rfl rfl (by decide) (by decide) (FOk.mk2 (P := Tryd.prog) (dd := 2) 27 (f := { name := "Qty", type := 27, offset := 5, embedded := false, tag := "", pkgPath := "", byteOffset := 14 }) (off := 5) rfl rfl rfl rfl (by decide) (by decide) (FOk.mk2 (P := Tryd.prog) (dd := 2) 28 (f := { name := "Tick", type := 28, offset := 6, embedded := false, tag := "", pkgPath := "", byteOffset := 16 }) (off := 6) rfl rfl rfl rfl (by decide) (by decide) (FOk.mk2 (P := Tryd.prog) (dd := 2) 65 (f := { name := "Ctx", type := 65, offset := 7, embedded := false, tag := "", pkgPath := "", byteOffset := 20 }) (off := 7) rfl rfl rfl rfl (by decide) (by decide) (FOk.nil (P := Tryd.prog) (dd := 2) _))))))))
  exact h
instance : EqT Tryd.prog 91 false 1 [.i .u64] := eqt_int Tryd.underlying91
instance : EqT Tryd.prog 113 true 2 [.i .u32, .i .u32] := by
  have h := eqt_struct (dd := 1) Tryd.underlying113 Tryd.stoodInHeld113 (FOk.mk2 (P := Tryd.prog) (dd := 1) 28 (f := { name := "Seg", type := 28, offset := 0, embedded := false, tag := "", pkgPath := "", byteOffset := 0 }) (off := 0) rfl rfl rfl rfl (by decide) (by decide) (FOk.mk2 (P := Tryd.prog) (dd := 1) 28 (f := { name := "At", type := 28, offset := 1, embedded := false, tag := "", pkgPath := "", byteOffset := 4 }) (off := 1) rfl rfl rfl rfl (by decide) (by decide) (FOk.nil (P := Tryd.prog) (dd := 1) _)))
  exact h
instance : EqT Tryd.prog 114 true 2 [.i .u32, .i .u32] := by
  have h := eqt_struct (dd := 1) Tryd.underlying114 Tryd.stoodInHeld114 (FOk.mk2 (P := Tryd.prog) (dd := 1) 28 (f := { name := "Seg", type := 28, offset := 0, embedded := false, tag := "", pkgPath := "", byteOffset := 0 }) (off := 0) rfl rfl rfl rfl (by decide) (by decide) (FOk.mk2 (P := Tryd.prog) (dd := 1) 28 (f := { name := "At", type := 28, offset := 1, embedded := false, tag := "", pkgPath := "", byteOffset := 4 }) (off := 1) rfl rfl rfl rfl (by decide) (by decide) (FOk.nil (P := Tryd.prog) (dd := 1) _)))
  exact h
instance : EqT Tryd.prog 117 true 2 [.i .u32, .i .u32] := by
  have h := eqt_struct (dd := 1) Tryd.underlying117 Tryd.stoodInHeld117 (FOk.mk2 (P := Tryd.prog) (dd := 1) 28 (f := { name := "Seg", type := 28, offset := 0, embedded := false, tag := "", pkgPath := "", byteOffset := 0 }) (off := 0) rfl rfl rfl rfl (by decide) (by decide) (FOk.mk2 (P := Tryd.prog) (dd := 1) 28 (f := { name := "At", type := 28, offset := 1, embedded := false, tag := "", pkgPath := "", byteOffset := 4 }) (off := 1) rfl rfl rfl rfl (by decide) (by decide) (FOk.nil (P := Tryd.prog) (dd := 1) _)))
  exact h
instance : EqT Tryd.prog 157 false 1 [.i .u64] := eqt_int Tryd.underlying157
instance : EqT Tryd.prog 182 true 2 [.b, .i .i64] := by
  have h := eqt_struct (dd := 1) Tryd.underlying182 Tryd.stoodInHeld182 (FOk.mk2 (P := Tryd.prog) (dd := 1) 4 (f := { name := "made", type := 4, offset := 0, embedded := false, tag := "", pkgPath := "trug/pack", byteOffset := 0 }) (off := 0) rfl rfl rfl rfl (by decide) (by decide) (FOk.mk2 (P := Tryd.prog) (dd := 1) 49 (f := { name := "e", type := 49, offset := 1, embedded := false, tag := "", pkgPath := "trug/pack", byteOffset := 8 }) (off := 1) rfl rfl rfl rfl (by decide) (by decide) (FOk.nil (P := Tryd.prog) (dd := 1) _)))
  exact h
instance : EqT Tryd.prog 183 true 2 [.b, .i .i64] := by
  have h := eqt_struct (dd := 1) Tryd.underlying183 Tryd.stoodInHeld183 (FOk.mk2 (P := Tryd.prog) (dd := 1) 4 (f := { name := "made", type := 4, offset := 0, embedded := false, tag := "", pkgPath := "trug/pack", byteOffset := 0 }) (off := 0) rfl rfl rfl rfl (by decide) (by decide) (FOk.mk2 (P := Tryd.prog) (dd := 1) 49 (f := { name := "e", type := 49, offset := 1, embedded := false, tag := "", pkgPath := "trug/pack", byteOffset := 8 }) (off := 1) rfl rfl rfl rfl (by decide) (by decide) (FOk.nil (P := Tryd.prog) (dd := 1) _)))
  exact h
instance : EqT Tryd.prog 189 true 2 [.i .u8, .i .u8, .i .u8, .i .u8] := by
  have h := eqt_array2 (ag := false) Tryd.underlying189 rfl rfl
  exact h
instance : EqT Tryd.prog 197 true 2 [.i .u64, .i .u64, .i .u64, .i .u64, .i .u64, .i .u64, .i .u64] := by
  have h := eqt_array2 (ag := false) Tryd.underlying197 rfl rfl
  exact h
instance : EqT Tryd.prog 221 true 2 [.i .u8, .i .u8, .i .u8, .i .u8, .i .u8, .i .u8, .i .u8, .i .u8, .i .u8, .i .u8, .i .u8, .i .u8, .i .u8, .i .u8, .i .u8, .i .u8, .i .u8, .i .u8, .i .u8, .i .u8, .i .u8, .i .u8, .i .u8, .i .u8] := by
  have h := eqt_array2 (ag := false) Tryd.underlying221 rfl rfl
  exact h
instance : EqT Tryd.prog 230 true 2 [.i .u64, .i .u64, .i .u64, .i .u64, .i .u64, .i .u64, .i .u64, .i .u64, .i .u64, .i .u64, .i .u64, .i .u64, .i .u64, .i .u64, .i .u64, .i .u64, .i .u64, .i .u64, .i .u64, .i .u64] := by
  have h := eqt_array2 (ag := false) Tryd.underlying230 rfl rfl
  exact h
instance : EqT Tryd.prog 235 true 2 [.i .u8, .i .u8, .i .u8, .i .u8, .i .u8, .i .u8, .i .u8, .i .u8, .i .u8, .i .u8, .i .u8, .i .u8, .i .u8, .i .u8, .i .u8, .i .u8, .i .u8, .i .u8, .i .u8, .i .u8, .i .u8, .i .u8, .i .u8, .i .u8, .i .u8, .i .u8, .i .u8, .i .u8, .i .u8, .i .u8, .i .u8, .i .u8] := by
  have h := eqt_array2 (ag := false) Tryd.underlying235 rfl rfl
  exact h
instance : EqT Tryd.prog 236 true 2 [.i .u8, .i .u8, .i .u8, .i .u8, .i .u8, .i .u8, .i .u8, .i .u8, .i .u8, .i .u8, .i .u8, .i .u8, .i .u8, .i .u8, .i .u8, .i .u8, .i .u8, .i .u8, .i .u8, .i .u8, .i .u8, .i .u8, .i .u8, .i .u8, .i .u8, .i .u8, .i .u8, .i .u8, .i .u8, .i .u8, .i .u8, .i .u8, .i .u8, .i .u8, .i .u8, .i .u8, .i .u8, .i .u8, .i .u8, .i .u8, .i .u8, .i .u8, .i .u8, .i .u8, .i .u8, .i .u8, .i .u8, .i .u8, .i .u8, .i .u8, .i .u8, .i .u8, .i .u8, .i .u8, .i .u8, .i .u8, .i .u8, .i .u8, .i .u8, .i .u8, .i .u8, .i .u8, .i .u8, .i .u8] := by
  have h := eqt_array2 (ag := false) Tryd.underlying236 rfl rfl
  exact h
instance : EqT Tryd.prog 244 false 1 [.i .u8] := eqt_int Tryd.underlying244
instance : EqT Tryd.prog 245 false 1 [.i .u8] := eqt_int Tryd.underlying245
instance : EqT Tryd.prog 248 false 1 [.i .i32] := eqt_int Tryd.underlying248
instance : EqT Tryd.prog 249 false 1 [.i .i32] := eqt_int Tryd.underlying249
instance : Fun Tryd.prog 2 := ⟨Tryd.call2⟩
instance : Fun Tryd.prog 3 := ⟨Tryd.call3⟩
instance : Fun Tryd.prog 4 := ⟨Tryd.call4⟩
instance : Fun Tryd.prog 5 := ⟨Tryd.call5⟩
instance : Fun Tryd.prog 6 := ⟨Tryd.call6⟩
instance : Fun Tryd.prog 7 := ⟨Tryd.call7⟩
instance : Fun Tryd.prog 8 := ⟨Tryd.call8⟩
instance : Fun Tryd.prog 9 := ⟨Tryd.call9⟩
instance : Fun Tryd.prog 10 := ⟨Tryd.call10⟩
instance : Fun Tryd.prog 11 := ⟨Tryd.call11⟩
instance : Fun Tryd.prog 12 := ⟨Tryd.call12⟩
instance : Fun Tryd.prog 13 := ⟨Tryd.call13⟩
instance : Fun Tryd.prog 14 := ⟨Tryd.call14⟩
instance : Fun Tryd.prog 15 := ⟨Tryd.call15⟩
instance : Fun Tryd.prog 16 := ⟨Tryd.call16⟩
instance : Fun Tryd.prog 17 := ⟨Tryd.call17⟩
instance : Fun Tryd.prog 18 := ⟨Tryd.call18⟩
instance : Fun Tryd.prog 19 := ⟨Tryd.call19⟩
instance : Fun Tryd.prog 20 := ⟨Tryd.call20⟩
instance : Fun Tryd.prog 21 := ⟨Tryd.call21⟩
instance : Fun Tryd.prog 22 := ⟨Tryd.call22⟩
instance : Fun Tryd.prog 23 := ⟨Tryd.call23⟩
instance : Fun Tryd.prog 24 := ⟨Tryd.call24⟩
instance : Fun Tryd.prog 25 := ⟨Tryd.call25⟩
instance : Fun Tryd.prog 26 := ⟨Tryd.call26⟩
instance : Fun Tryd.prog 27 := ⟨Tryd.call27⟩
instance : Fun Tryd.prog 28 := ⟨Tryd.call28⟩
instance : Fun Tryd.prog 29 := ⟨Tryd.call29⟩
instance : Fun Tryd.prog 30 := ⟨Tryd.call30⟩
instance : Fun Tryd.prog 31 := ⟨Tryd.call31⟩
instance : Fun Tryd.prog 32 := ⟨Tryd.call32⟩
instance : Fun Tryd.prog 33 := ⟨Tryd.call33⟩
instance : Fun Tryd.prog 34 := ⟨Tryd.call34⟩
instance : Fun Tryd.prog 35 := ⟨Tryd.call35⟩
instance : Fun Tryd.prog 36 := ⟨Tryd.call36⟩
instance : Fun Tryd.prog 37 := ⟨Tryd.call37⟩
instance : Fun Tryd.prog 38 := ⟨Tryd.call38⟩
instance : Fun Tryd.prog 39 := ⟨Tryd.call39⟩
instance : Fun Tryd.prog 40 := ⟨Tryd.call40⟩
instance : Fun Tryd.prog 41 := ⟨Tryd.call41⟩
instance : Fun Tryd.prog 42 := ⟨Tryd.call42⟩
instance : Fun Tryd.prog 43 := ⟨Tryd.call43⟩
instance : Fun Tryd.prog 44 := ⟨Tryd.call44⟩
instance : Fun Tryd.prog 45 := ⟨Tryd.call45⟩
instance : Fun Tryd.prog 46 := ⟨Tryd.call46⟩
instance : Fun Tryd.prog 47 := ⟨Tryd.call47⟩
instance : Fun Tryd.prog 48 := ⟨Tryd.call48⟩
instance : Fun Tryd.prog 49 := ⟨Tryd.call49⟩
instance : Fun Tryd.prog 50 := ⟨Tryd.call50⟩
instance : Fun Tryd.prog 51 := ⟨Tryd.call51⟩
instance : Fun Tryd.prog 52 := ⟨Tryd.call52⟩
instance : Fun Tryd.prog 53 := ⟨Tryd.call53⟩
instance : Fun Tryd.prog 54 := ⟨Tryd.call54⟩
instance : Fun Tryd.prog 55 := ⟨Tryd.call55⟩
instance : Fun Tryd.prog 56 := ⟨Tryd.call56⟩
instance : Fun Tryd.prog 57 := ⟨Tryd.call57⟩
instance : Fun Tryd.prog 58 := ⟨Tryd.call58⟩
instance : Fun Tryd.prog 59 := ⟨Tryd.call59⟩
instance : Fun Tryd.prog 60 := ⟨Tryd.call60⟩
instance : Fun Tryd.prog 61 := ⟨Tryd.call61⟩
instance : Fun Tryd.prog 62 := ⟨Tryd.call62⟩
instance : Fun Tryd.prog 63 := ⟨Tryd.call63⟩
instance : Fun Tryd.prog 64 := ⟨Tryd.call64⟩
instance : Fun Tryd.prog 65 := ⟨Tryd.call65⟩
instance : Fun Tryd.prog 66 := ⟨Tryd.call66⟩
instance : Fun Tryd.prog 67 := ⟨Tryd.call67⟩
instance : Fun Tryd.prog 68 := ⟨Tryd.call68⟩
instance : Fun Tryd.prog 69 := ⟨Tryd.call69⟩
instance : Fun Tryd.prog 70 := ⟨Tryd.call70⟩
instance : Fun Tryd.prog 71 := ⟨Tryd.call71⟩
instance : Fun Tryd.prog 72 := ⟨Tryd.call72⟩
instance : Fun Tryd.prog 73 := ⟨Tryd.call73⟩
instance : Fun Tryd.prog 74 := ⟨Tryd.call74⟩
instance : Fun Tryd.prog 75 := ⟨Tryd.call75⟩
instance : Fun Tryd.prog 76 := ⟨Tryd.call76⟩
instance : Fun Tryd.prog 77 := ⟨Tryd.call77⟩
instance : Fun Tryd.prog 78 := ⟨Tryd.call78⟩
instance : Fun Tryd.prog 79 := ⟨Tryd.call79⟩
instance : Fun Tryd.prog 80 := ⟨Tryd.call80⟩
instance : Fun Tryd.prog 81 := ⟨Tryd.call81⟩
instance : Fun Tryd.prog 82 := ⟨Tryd.call82⟩
instance : Fun Tryd.prog 83 := ⟨Tryd.call83⟩
instance : Fun Tryd.prog 84 := ⟨Tryd.call84⟩
instance : Fun Tryd.prog 85 := ⟨Tryd.call85⟩
instance : Fun Tryd.prog 86 := ⟨Tryd.call86⟩
instance : Fun Tryd.prog 87 := ⟨Tryd.call87⟩
instance : Fun Tryd.prog 88 := ⟨Tryd.call88⟩
instance : Fun Tryd.prog 89 := ⟨Tryd.call89⟩
instance : Fun Tryd.prog 90 := ⟨Tryd.call90⟩
instance : Fun Tryd.prog 91 := ⟨Tryd.call91⟩
instance : Fun Tryd.prog 92 := ⟨Tryd.call92⟩
instance : Fun Tryd.prog 93 := ⟨Tryd.call93⟩
instance : Fun Tryd.prog 94 := ⟨Tryd.call94⟩
instance : Fun Tryd.prog 95 := ⟨Tryd.call95⟩
instance : Fun Tryd.prog 96 := ⟨Tryd.call96⟩
instance : Fun Tryd.prog 97 := ⟨Tryd.call97⟩
instance : Fun Tryd.prog 98 := ⟨Tryd.call98⟩
instance : Fun Tryd.prog 99 := ⟨Tryd.call99⟩
instance : Fun Tryd.prog 100 := ⟨Tryd.call100⟩
instance : Fun Tryd.prog 101 := ⟨Tryd.call101⟩
instance : Fun Tryd.prog 102 := ⟨Tryd.call102⟩
instance : Fun Tryd.prog 103 := ⟨Tryd.call103⟩
instance : Fun Tryd.prog 104 := ⟨Tryd.call104⟩
instance : Fun Tryd.prog 105 := ⟨Tryd.call105⟩
instance : Fun Tryd.prog 106 := ⟨Tryd.call106⟩
instance : Fun Tryd.prog 107 := ⟨Tryd.call107⟩
instance : Fun Tryd.prog 108 := ⟨Tryd.call108⟩
instance : Fun Tryd.prog 109 := ⟨Tryd.call109⟩
instance : Fun Tryd.prog 110 := ⟨Tryd.call110⟩
instance : Fun Tryd.prog 111 := ⟨Tryd.call111⟩
instance : Fun Tryd.prog 112 := ⟨Tryd.call112⟩
instance : Fun Tryd.prog 113 := ⟨Tryd.call113⟩
instance : Fun Tryd.prog 114 := ⟨Tryd.call114⟩
instance : Fun Tryd.prog 115 := ⟨Tryd.call115⟩
instance : Fun Tryd.prog 116 := ⟨Tryd.call116⟩
instance : Fun Tryd.prog 117 := ⟨Tryd.call117⟩
instance : Fun Tryd.prog 118 := ⟨Tryd.call118⟩
instance : Fun Tryd.prog 119 := ⟨Tryd.call119⟩
instance : Fun Tryd.prog 120 := ⟨Tryd.call120⟩
instance : Fun Tryd.prog 121 := ⟨Tryd.call121⟩
instance : Fun Tryd.prog 122 := ⟨Tryd.call122⟩
instance : Fun Tryd.prog 123 := ⟨Tryd.call123⟩
instance : Fun Tryd.prog 124 := ⟨Tryd.call124⟩
instance : Fun Tryd.prog 125 := ⟨Tryd.call125⟩
instance : Fun Tryd.prog 126 := ⟨Tryd.call126⟩
instance : Fun Tryd.prog 127 := ⟨Tryd.call127⟩
instance : Fun Tryd.prog 128 := ⟨Tryd.call128⟩
instance : Fun Tryd.prog 129 := ⟨Tryd.call129⟩
instance : Fun Tryd.prog 130 := ⟨Tryd.call130⟩
instance : Fun Tryd.prog 131 := ⟨Tryd.call131⟩
instance : Fun Tryd.prog 132 := ⟨Tryd.call132⟩
instance : Fun Tryd.prog 133 := ⟨Tryd.call133⟩
instance : Fun Tryd.prog 134 := ⟨Tryd.call134⟩
instance : Fun Tryd.prog 135 := ⟨Tryd.call135⟩
instance : Fun Tryd.prog 136 := ⟨Tryd.call136⟩
instance : Fun Tryd.prog 137 := ⟨Tryd.call137⟩
instance : Fun Tryd.prog 138 := ⟨Tryd.call138⟩
instance : Fun Tryd.prog 139 := ⟨Tryd.call139⟩
instance : Fun Tryd.prog 140 := ⟨Tryd.call140⟩
instance : Fun Tryd.prog 141 := ⟨Tryd.call141⟩
instance : Fun Tryd.prog 142 := ⟨Tryd.call142⟩
instance : Fun Tryd.prog 143 := ⟨Tryd.call143⟩
instance : Fun Tryd.prog 144 := ⟨Tryd.call144⟩
instance : Fun Tryd.prog 145 := ⟨Tryd.call145⟩
instance : Fun Tryd.prog 146 := ⟨Tryd.call146⟩
instance : Fun Tryd.prog 147 := ⟨Tryd.call147⟩
instance : Fun Tryd.prog 148 := ⟨Tryd.call148⟩
instance : Fun Tryd.prog 149 := ⟨Tryd.call149⟩
instance : Fun Tryd.prog 150 := ⟨Tryd.call150⟩
instance : Fun Tryd.prog 151 := ⟨Tryd.call151⟩
instance : Fun Tryd.prog 152 := ⟨Tryd.call152⟩
instance : Fun Tryd.prog 153 := ⟨Tryd.call153⟩
instance : Fun Tryd.prog 154 := ⟨Tryd.call154⟩
instance : Fun Tryd.prog 155 := ⟨Tryd.call155⟩
instance : Fun Tryd.prog 156 := ⟨Tryd.call156⟩
instance : Fun Tryd.prog 157 := ⟨Tryd.call157⟩
instance : Fun Tryd.prog 158 := ⟨Tryd.call158⟩
instance : Fun Tryd.prog 159 := ⟨Tryd.call159⟩
instance : Fun Tryd.prog 183 := ⟨Tryd.call183⟩
instance : Mix Tryd.prog := ⟨by as_aux_lemma => kernel_rfl⟩
end Go.Tg

