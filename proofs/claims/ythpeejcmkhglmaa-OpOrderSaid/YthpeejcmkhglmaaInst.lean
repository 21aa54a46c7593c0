/- The types and functions of this program, as the walks want them. Printed by a program of this claim (geninst.py). -/
import Derived.KernelRfl
import Derived.Test.YthpeejcmkhglmaaProg
import Derived.Test.YthpeejcmkhglmaaOps2
set_option maxRecDepth 100000
namespace Go.Tg
open Go Go.Proofs
theorem info_of {P : Program} {t : TypeId} {i : TypeInfo} (h : ∀ w, (typeInfo t).run P w = .ok i w) : P.info? t = some i := by
  have h1 := h default
  unfold typeInfo at h1
  simp only [Sem.run_bind, run_program, Result.andThen_ok] at h1
  cases hi : P.info? t with
  | none => rw [hi] at h1; cases h1
  | some j =>
    rw [hi] at h1
    have h2 : (Result.ok j default : Result TypeInfo) = .ok i default := h1
    injection h2 with h3 h4; rw [h3]
instance : Ty Try.prog 0 (TypeDesc.tuple #[]) 1 0 (Value.tuple #[]) := ⟨Try.underlying0, Try.t0, info_of Try.typeInfo0, rfl, rfl, rfl⟩
instance : Ty Try.prog 1 (TypeDesc.func #[] #[] false) 1 8 Value.nilFunc := ⟨Try.underlying1, Try.t1, info_of Try.typeInfo1, rfl, rfl, rfl⟩
instance : Ty Try.prog 2 (TypeDesc.int IntKind.i64) 1 8 (Value.int IntKind.i64 0) := ⟨Try.underlying2, Try.t2, info_of Try.typeInfo2, rfl, rfl, rfl⟩
instance : Ty Try.prog 3 (TypeDesc.int IntKind.i64) 1 8 (Value.int IntKind.i64 0) := ⟨Try.underlying3, Try.t3, info_of Try.typeInfo3, rfl, rfl, rfl⟩
instance : Ty Try.prog 4 (TypeDesc.bool) 1 1 (Value.bool false) := ⟨Try.underlying4, Try.t4, info_of Try.typeInfo4, rfl, rfl, rfl⟩
instance : Ty Try.prog 5 (TypeDesc.int IntKind.u8) 1 1 (Value.int IntKind.u8 0) := ⟨Try.underlying5, Try.t5, info_of Try.typeInfo5, rfl, rfl, rfl⟩
instance : Ty Try.prog 6 (TypeDesc.int IntKind.u8) 1 1 (Value.int IntKind.u8 0) := ⟨Try.underlying6, Try.t6, info_of Try.typeInfo6, rfl, rfl, rfl⟩
instance : Ty Try.prog 7 (TypeDesc.struct #[{ name := "x", type := 2, offset := 0, embedded := false, tag := "", pkgPath := "runtime", byteOffset := 0 }, { name := "y", type := 3, offset := 1, embedded := false, tag := "", pkgPath := "runtime", byteOffset := 8 }, { name := "signed", type := 4, offset := 2, embedded := false, tag := "", pkgPath := "runtime", byteOffset := 16 }, { name := "code", type := 6, offset := 3, embedded := false, tag := "", pkgPath := "runtime", byteOffset := 17 }]) 4 24 (Value.agg #[Value.int IntKind.i64 0, Value.int IntKind.i64 0, Value.bool false, Value.int IntKind.u8 0]) := ⟨Try.underlying7, Try.t7, info_of Try.typeInfo7, rfl, rfl, rfl⟩
instance : Fld Try.prog 7 0 0 2 := ⟨_, _, Try.underlying7, rfl, rfl, rfl⟩
instance : Fld Try.prog 7 1 1 3 := ⟨_, _, Try.underlying7, rfl, rfl, rfl⟩
instance : Fld Try.prog 7 2 2 4 := ⟨_, _, Try.underlying7, rfl, rfl, rfl⟩
instance : Fld Try.prog 7 3 3 6 := ⟨_, _, Try.underlying7, rfl, rfl, rfl⟩
instance : EqG Try.prog 7 := ⟨Try.eqGuardType7⟩
instance : Ty Try.prog 8 (TypeDesc.struct #[{ name := "x", type := 2, offset := 0, embedded := false, tag := "", pkgPath := "runtime", byteOffset := 0 }, { name := "y", type := 3, offset := 1, embedded := false, tag := "", pkgPath := "runtime", byteOffset := 8 }, { name := "signed", type := 4, offset := 2, embedded := false, tag := "", pkgPath := "runtime", byteOffset := 16 }, { name := "code", type := 6, offset := 3, embedded := false, tag := "", pkgPath := "runtime", byteOffset := 17 }]) 4 24 (Value.agg #[Value.int IntKind.i64 0, Value.int IntKind.i64 0, Value.bool false, Value.int IntKind.u8 0]) := ⟨Try.underlying8, Try.t8, info_of Try.typeInfo8, rfl, rfl, rfl⟩
instance : Fld Try.prog 8 0 0 2 := ⟨_, _, Try.underlying8, rfl, rfl, rfl⟩
instance : Fld Try.prog 8 1 1 3 := ⟨_, _, Try.underlying8, rfl, rfl, rfl⟩
instance : Fld Try.prog 8 2 2 4 := ⟨_, _, Try.underlying8, rfl, rfl, rfl⟩
instance : Fld Try.prog 8 3 3 6 := ⟨_, _, Try.underlying8, rfl, rfl, rfl⟩
instance : EqG Try.prog 8 := ⟨Try.eqGuardType8⟩
instance : Ty Try.prog 9 (TypeDesc.string) 1 16 (Value.string { data := #[] }) := ⟨Try.underlying9, Try.t9, info_of Try.typeInfo9, rfl, rfl, rfl⟩
instance : Ty Try.prog 10 (TypeDesc.string) 1 16 (Value.string { data := #[] }) := ⟨Try.underlying10, Try.t10, info_of Try.typeInfo10, rfl, rfl, rfl⟩
instance : Ty Try.prog 11 (TypeDesc.string) 1 16 (Value.string { data := #[] }) := ⟨Try.underlying11, Try.t11, info_of Try.typeInfo11, rfl, rfl, rfl⟩
instance : Ty Try.prog 12 (TypeDesc.int IntKind.u64) 1 8 (Value.int IntKind.u64 0) := ⟨Try.underlying12, Try.t12, info_of Try.typeInfo12, rfl, rfl, rfl⟩
instance : Ty Try.prog 13 (TypeDesc.struct #[{ name := "msg", type := 9, offset := 0, embedded := false, tag := "", pkgPath := "runtime", byteOffset := 0 }, { name := "addr", type := 12, offset := 1, embedded := false, tag := "", pkgPath := "runtime", byteOffset := 16 }]) 2 24 (Value.agg #[Value.string { data := #[] }, Value.int IntKind.u64 0]) := ⟨Try.underlying13, Try.t13, info_of Try.typeInfo13, rfl, rfl, rfl⟩
instance : Fld Try.prog 13 0 0 9 := ⟨_, _, Try.underlying13, rfl, rfl, rfl⟩
instance : Fld Try.prog 13 1 1 12 := ⟨_, _, Try.underlying13, rfl, rfl, rfl⟩
instance : EqG Try.prog 13 := ⟨Try.eqGuardType13⟩
instance : Ty Try.prog 14 (TypeDesc.struct #[{ name := "msg", type := 9, offset := 0, embedded := false, tag := "", pkgPath := "runtime", byteOffset := 0 }, { name := "addr", type := 12, offset := 1, embedded := false, tag := "", pkgPath := "runtime", byteOffset := 16 }]) 2 24 (Value.agg #[Value.string { data := #[] }, Value.int IntKind.u64 0]) := ⟨Try.underlying14, Try.t14, info_of Try.typeInfo14, rfl, rfl, rfl⟩
instance : Fld Try.prog 14 0 0 9 := ⟨_, _, Try.underlying14, rfl, rfl, rfl⟩
instance : Fld Try.prog 14 1 1 12 := ⟨_, _, Try.underlying14, rfl, rfl, rfl⟩
instance : EqG Try.prog 14 := ⟨Try.eqGuardType14⟩
instance : Ty Try.prog 15 (TypeDesc.pointer 142) 1 8 (Value.pointer none) := ⟨Try.underlying15, Try.t15, info_of Try.typeInfo15, rfl, rfl, rfl⟩
instance : Ty Try.prog 16 (TypeDesc.pointer 145) 1 8 (Value.pointer none) := ⟨Try.underlying16, Try.t16, info_of Try.typeInfo16, rfl, rfl, rfl⟩
instance : Ty Try.prog 17 (TypeDesc.pointer 154) 1 8 (Value.pointer none) := ⟨Try.underlying17, Try.t17, info_of Try.typeInfo17, rfl, rfl, rfl⟩
instance : Ty Try.prog 18 (TypeDesc.struct #[{ name := "typ", type := 17, offset := 0, embedded := false, tag := "", pkgPath := "internal/runtime/maps", byteOffset := 0 }]) 1 8 (Value.agg #[Value.pointer none]) := ⟨Try.underlying18, Try.t18, info_of Try.typeInfo18, rfl, rfl, rfl⟩
instance : Fld Try.prog 18 0 0 17 := ⟨_, _, Try.underlying18, rfl, rfl, rfl⟩
instance : EqG Try.prog 18 := ⟨Try.eqGuardType18⟩
instance : Ty Try.prog 19 (TypeDesc.struct #[{ name := "typ", type := 17, offset := 0, embedded := false, tag := "", pkgPath := "internal/runtime/maps", byteOffset := 0 }]) 1 8 (Value.agg #[Value.pointer none]) := ⟨Try.underlying19, Try.t19, info_of Try.typeInfo19, rfl, rfl, rfl⟩
instance : Fld Try.prog 19 0 0 17 := ⟨_, _, Try.underlying19, rfl, rfl, rfl⟩
instance : EqG Try.prog 19 := ⟨Try.eqGuardType19⟩
instance : Ty Try.prog 20 (TypeDesc.interface #[]) 1 16 Value.nilIface := ⟨Try.underlying20, Try.t20, info_of Try.typeInfo20, rfl, rfl, rfl⟩
instance : Ty Try.prog 21 (TypeDesc.int IntKind.i32) 1 4 (Value.int IntKind.i32 0) := ⟨Try.underlying21, Try.t21, info_of Try.typeInfo21, rfl, rfl, rfl⟩
instance : Ty Try.prog 22 (TypeDesc.slice 31) 1 24 (Value.slice none 0 0) := ⟨Try.underlying22, Try.t22, info_of Try.typeInfo22, rfl, rfl, rfl⟩
instance : Ty Try.prog 23 (TypeDesc.func #[] #[4] false) 1 8 Value.nilFunc := ⟨Try.underlying23, Try.t23, info_of Try.typeInfo23, rfl, rfl, rfl⟩
instance : Ty Try.prog 24 (TypeDesc.pointer 57) 1 8 (Value.pointer none) := ⟨Try.underlying24, Try.t24, info_of Try.typeInfo24, rfl, rfl, rfl⟩
instance : Ty Try.prog 25 (TypeDesc.func #[] #[24] false) 1 8 Value.nilFunc := ⟨Try.underlying25, Try.t25, info_of Try.typeInfo25, rfl, rfl, rfl⟩
instance : Ty Try.prog 26 (TypeDesc.slice 5) 1 24 (Value.slice none 0 0) := ⟨Try.underlying26, Try.t26, info_of Try.typeInfo26, rfl, rfl, rfl⟩
instance : Ty Try.prog 27 (TypeDesc.struct #[{ name := "B", type := 26, offset := 0, embedded := false, tag := "", pkgPath := "", byteOffset := 0 }, { name := "Err", type := 3, offset := 1, embedded := false, tag := "", pkgPath := "", byteOffset := 24 }]) 2 32 (Value.agg #[Value.slice none 0 0, Value.int IntKind.i64 0]) := ⟨Try.underlying27, Try.t27, info_of Try.typeInfo27, rfl, rfl, rfl⟩
instance : Fld Try.prog 27 0 0 26 := ⟨_, _, Try.underlying27, rfl, rfl, rfl⟩
instance : Fld Try.prog 27 1 1 3 := ⟨_, _, Try.underlying27, rfl, rfl, rfl⟩
instance : EqG Try.prog 27 := ⟨Try.eqGuardType27⟩
instance : Ty Try.prog 28 (TypeDesc.struct #[{ name := "B", type := 26, offset := 0, embedded := false, tag := "", pkgPath := "", byteOffset := 0 }, { name := "Err", type := 3, offset := 1, embedded := false, tag := "", pkgPath := "", byteOffset := 24 }]) 2 32 (Value.agg #[Value.slice none 0 0, Value.int IntKind.i64 0]) := ⟨Try.underlying28, Try.t28, info_of Try.typeInfo28, rfl, rfl, rfl⟩
instance : Fld Try.prog 28 0 0 26 := ⟨_, _, Try.underlying28, rfl, rfl, rfl⟩
instance : Fld Try.prog 28 1 1 3 := ⟨_, _, Try.underlying28, rfl, rfl, rfl⟩
instance : EqG Try.prog 28 := ⟨Try.eqGuardType28⟩
instance : Ty Try.prog 29 (TypeDesc.int IntKind.u64) 1 8 (Value.int IntKind.u64 0) := ⟨Try.underlying29, Try.t29, info_of Try.typeInfo29, rfl, rfl, rfl⟩
instance : Ty Try.prog 30 (TypeDesc.struct #[{ name := "Kind", type := 5, offset := 0, embedded := false, tag := "", pkgPath := "", byteOffset := 0 }, { name := "N", type := 29, offset := 1, embedded := false, tag := "", pkgPath := "", byteOffset := 8 }, { name := "B", type := 26, offset := 2, embedded := false, tag := "", pkgPath := "", byteOffset := 16 }]) 3 40 (Value.agg #[Value.int IntKind.u8 0, Value.int IntKind.u64 0, Value.slice none 0 0]) := ⟨Try.underlying30, Try.t30, info_of Try.typeInfo30, rfl, rfl, rfl⟩
instance : Fld Try.prog 30 0 0 5 := ⟨_, _, Try.underlying30, rfl, rfl, rfl⟩
instance : Fld Try.prog 30 1 1 29 := ⟨_, _, Try.underlying30, rfl, rfl, rfl⟩
instance : Fld Try.prog 30 2 2 26 := ⟨_, _, Try.underlying30, rfl, rfl, rfl⟩
instance : EqG Try.prog 30 := ⟨Try.eqGuardType30⟩
instance : Ty Try.prog 31 (TypeDesc.struct #[{ name := "Kind", type := 5, offset := 0, embedded := false, tag := "", pkgPath := "", byteOffset := 0 }, { name := "N", type := 29, offset := 1, embedded := false, tag := "", pkgPath := "", byteOffset := 8 }, { name := "B", type := 26, offset := 2, embedded := false, tag := "", pkgPath := "", byteOffset := 16 }]) 3 40 (Value.agg #[Value.int IntKind.u8 0, Value.int IntKind.u64 0, Value.slice none 0 0]) := ⟨Try.underlying31, Try.t31, info_of Try.typeInfo31, rfl, rfl, rfl⟩
instance : Fld Try.prog 31 0 0 5 := ⟨_, _, Try.underlying31, rfl, rfl, rfl⟩
instance : Fld Try.prog 31 1 1 29 := ⟨_, _, Try.underlying31, rfl, rfl, rfl⟩
instance : Fld Try.prog 31 2 2 26 := ⟨_, _, Try.underlying31, rfl, rfl, rfl⟩
instance : EqG Try.prog 31 := ⟨Try.eqGuardType31⟩
instance : Ty Try.prog 32 (TypeDesc.int IntKind.i64) 1 8 (Value.int IntKind.i64 0) := ⟨Try.underlying32, Try.t32, info_of Try.typeInfo32, rfl, rfl, rfl⟩
instance : Ty Try.prog 33 (TypeDesc.tuple #[32, 26]) 1 0 (Value.tuple #[Value.int IntKind.i64 0, Value.slice none 0 0]) := ⟨Try.underlying33, Try.t33, info_of Try.typeInfo33, rfl, rfl, rfl⟩
instance : Ty Try.prog 34 (TypeDesc.func #[24, 31] #[32, 26] false) 1 8 Value.nilFunc := ⟨Try.underlying34, Try.t34, info_of Try.typeInfo34, rfl, rfl, rfl⟩
instance : Ty Try.prog 35 (TypeDesc.tuple #[28, 3]) 1 0 (Value.tuple #[Value.agg #[Value.slice none 0 0, Value.int IntKind.i64 0], Value.int IntKind.i64 0]) := ⟨Try.underlying35, Try.t35, info_of Try.typeInfo35, rfl, rfl, rfl⟩
instance : Ty Try.prog 36 (TypeDesc.func #[28, 26] #[28, 3] false) 1 8 Value.nilFunc := ⟨Try.underlying36, Try.t36, info_of Try.typeInfo36, rfl, rfl, rfl⟩
instance : Ty Try.prog 37 (TypeDesc.tuple #[26, 32]) 1 0 (Value.tuple #[Value.slice none 0 0, Value.int IntKind.i64 0]) := ⟨Try.underlying37, Try.t37, info_of Try.typeInfo37, rfl, rfl, rfl⟩
instance : Ty Try.prog 38 (TypeDesc.func #[] #[26, 32] false) 1 8 Value.nilFunc := ⟨Try.underlying38, Try.t38, info_of Try.typeInfo38, rfl, rfl, rfl⟩
instance : Ty Try.prog 39 (TypeDesc.func #[22] #[4] false) 1 8 Value.nilFunc := ⟨Try.underlying39, Try.t39, info_of Try.typeInfo39, rfl, rfl, rfl⟩
instance : Ty Try.prog 40 (TypeDesc.pointer 59) 1 8 (Value.pointer none) := ⟨Try.underlying40, Try.t40, info_of Try.typeInfo40, rfl, rfl, rfl⟩
instance : Ty Try.prog 41 (TypeDesc.func #[26] #[40] false) 1 8 Value.nilFunc := ⟨Try.underlying41, Try.t41, info_of Try.typeInfo41, rfl, rfl, rfl⟩
instance : Ty Try.prog 42 (TypeDesc.struct #[{ name := "B", type := 26, offset := 0, embedded := false, tag := "", pkgPath := "", byteOffset := 0 }, { name := "Err", type := 3, offset := 1, embedded := false, tag := "", pkgPath := "", byteOffset := 24 }]) 2 32 (Value.agg #[Value.slice none 0 0, Value.int IntKind.i64 0]) := ⟨Try.underlying42, Try.t42, info_of Try.typeInfo42, rfl, rfl, rfl⟩
instance : Fld Try.prog 42 0 0 26 := ⟨_, _, Try.underlying42, rfl, rfl, rfl⟩
instance : Fld Try.prog 42 1 1 3 := ⟨_, _, Try.underlying42, rfl, rfl, rfl⟩
instance : EqG Try.prog 42 := ⟨Try.eqGuardType42⟩
instance : Ty Try.prog 43 (TypeDesc.tuple #[29, 32]) 1 0 (Value.tuple #[Value.int IntKind.u64 0, Value.int IntKind.i64 0]) := ⟨Try.underlying43, Try.t43, info_of Try.typeInfo43, rfl, rfl, rfl⟩
instance : Ty Try.prog 44 (TypeDesc.func #[] #[29, 32] false) 1 8 Value.nilFunc := ⟨Try.underlying44, Try.t44, info_of Try.typeInfo44, rfl, rfl, rfl⟩
instance : Ty Try.prog 45 (TypeDesc.tuple #[42, 29, 3]) 1 0 (Value.tuple #[Value.agg #[Value.slice none 0 0, Value.int IntKind.i64 0], Value.int IntKind.u64 0, Value.int IntKind.i64 0]) := ⟨Try.underlying45, Try.t45, info_of Try.typeInfo45, rfl, rfl, rfl⟩
instance : Ty Try.prog 46 (TypeDesc.func #[42] #[42, 29, 3] false) 1 8 Value.nilFunc := ⟨Try.underlying46, Try.t46, info_of Try.typeInfo46, rfl, rfl, rfl⟩
instance : Ty Try.prog 47 (TypeDesc.tuple #[2, 32]) 1 0 (Value.tuple #[Value.int IntKind.i64 0, Value.int IntKind.i64 0]) := ⟨Try.underlying47, Try.t47, info_of Try.typeInfo47, rfl, rfl, rfl⟩
instance : Ty Try.prog 48 (TypeDesc.func #[] #[2, 32] false) 1 8 Value.nilFunc := ⟨Try.underlying48, Try.t48, info_of Try.typeInfo48, rfl, rfl, rfl⟩
instance : Ty Try.prog 49 (TypeDesc.func #[29] #[2] false) 1 8 Value.nilFunc := ⟨Try.underlying49, Try.t49, info_of Try.typeInfo49, rfl, rfl, rfl⟩
instance : Ty Try.prog 50 (TypeDesc.tuple #[42, 26, 3]) 1 0 (Value.tuple #[Value.agg #[Value.slice none 0 0, Value.int IntKind.i64 0], Value.slice none 0 0, Value.int IntKind.i64 0]) := ⟨Try.underlying50, Try.t50, info_of Try.typeInfo50, rfl, rfl, rfl⟩
instance : Ty Try.prog 51 (TypeDesc.func #[42] #[42, 26, 3] false) 1 8 Value.nilFunc := ⟨Try.underlying51, Try.t51, info_of Try.typeInfo51, rfl, rfl, rfl⟩
instance : Ty Try.prog 52 (TypeDesc.func #[42] #[4] false) 1 8 Value.nilFunc := ⟨Try.underlying52, Try.t52, info_of Try.typeInfo52, rfl, rfl, rfl⟩
instance : Ty Try.prog 53 (TypeDesc.func #[26, 22] #[4] false) 1 8 Value.nilFunc := ⟨Try.underlying53, Try.t53, info_of Try.typeInfo53, rfl, rfl, rfl⟩
instance : Ty Try.prog 54 (TypeDesc.struct #[{ name := "made", type := 4, offset := 0, embedded := false, tag := "", pkgPath := "trug/pack", byteOffset := 0 }, { name := "e", type := 32, offset := 1, embedded := false, tag := "", pkgPath := "trug/pack", byteOffset := 8 }]) 2 16 (Value.agg #[Value.bool false, Value.int IntKind.i64 0]) := ⟨Try.underlying54, Try.t54, info_of Try.typeInfo54, rfl, rfl, rfl⟩
instance : Fld Try.prog 54 0 0 4 := ⟨_, _, Try.underlying54, rfl, rfl, rfl⟩
instance : Fld Try.prog 54 1 1 32 := ⟨_, _, Try.underlying54, rfl, rfl, rfl⟩
instance : EqG Try.prog 54 := ⟨Try.eqGuardType54⟩
instance : Ty Try.prog 55 (TypeDesc.struct #[{ name := "made", type := 4, offset := 0, embedded := false, tag := "", pkgPath := "trug/pack", byteOffset := 0 }, { name := "e", type := 32, offset := 1, embedded := false, tag := "", pkgPath := "trug/pack", byteOffset := 8 }]) 2 16 (Value.agg #[Value.bool false, Value.int IntKind.i64 0]) := ⟨Try.underlying55, Try.t55, info_of Try.typeInfo55, rfl, rfl, rfl⟩
instance : Fld Try.prog 55 0 0 4 := ⟨_, _, Try.underlying55, rfl, rfl, rfl⟩
instance : Fld Try.prog 55 1 1 32 := ⟨_, _, Try.underlying55, rfl, rfl, rfl⟩
instance : EqG Try.prog 55 := ⟨Try.eqGuardType55⟩
instance : Ty Try.prog 56 (TypeDesc.struct #[{ name := "stop", type := 55, offset := 0, embedded := true, tag := "", pkgPath := "trug/pack", byteOffset := 0 }, { name := "b", type := 26, offset := 2, embedded := false, tag := "", pkgPath := "trug/pack", byteOffset := 16 }]) 3 40 (Value.agg #[Value.bool false, Value.int IntKind.i64 0, Value.slice none 0 0]) := ⟨Try.underlying56, Try.t56, info_of Try.typeInfo56, rfl, rfl, rfl⟩
instance : Fld Try.prog 56 0 0 55 := ⟨_, _, Try.underlying56, rfl, rfl, rfl⟩
instance : Fld Try.prog 56 1 2 26 := ⟨_, _, Try.underlying56, rfl, rfl, rfl⟩
instance : EqG Try.prog 56 := ⟨Try.eqGuardType56⟩
instance : Ty Try.prog 57 (TypeDesc.struct #[{ name := "stop", type := 55, offset := 0, embedded := true, tag := "", pkgPath := "trug/pack", byteOffset := 0 }, { name := "b", type := 26, offset := 2, embedded := false, tag := "", pkgPath := "trug/pack", byteOffset := 16 }]) 3 40 (Value.agg #[Value.bool false, Value.int IntKind.i64 0, Value.slice none 0 0]) := ⟨Try.underlying57, Try.t57, info_of Try.typeInfo57, rfl, rfl, rfl⟩
instance : Fld Try.prog 57 0 0 55 := ⟨_, _, Try.underlying57, rfl, rfl, rfl⟩
instance : Fld Try.prog 57 1 2 26 := ⟨_, _, Try.underlying57, rfl, rfl, rfl⟩
instance : EqG Try.prog 57 := ⟨Try.eqGuardType57⟩
instance : Ty Try.prog 58 (TypeDesc.slice 24) 1 24 (Value.slice none 0 0) := ⟨Try.underlying58, Try.t58, info_of Try.typeInfo58, rfl, rfl, rfl⟩
instance : Ty Try.prog 59 (TypeDesc.struct #[{ name := "stop", type := 55, offset := 0, embedded := true, tag := "", pkgPath := "trug/pack", byteOffset := 0 }, { name := "b", type := 26, offset := 2, embedded := false, tag := "", pkgPath := "trug/pack", byteOffset := 16 }]) 3 40 (Value.agg #[Value.bool false, Value.int IntKind.i64 0, Value.slice none 0 0]) := ⟨Try.underlying59, Try.t59, info_of Try.typeInfo59, rfl, rfl, rfl⟩
instance : Fld Try.prog 59 0 0 55 := ⟨_, _, Try.underlying59, rfl, rfl, rfl⟩
instance : Fld Try.prog 59 1 2 26 := ⟨_, _, Try.underlying59, rfl, rfl, rfl⟩
instance : EqG Try.prog 59 := ⟨Try.eqGuardType59⟩
instance : Ty Try.prog 60 (TypeDesc.slice 40) 1 24 (Value.slice none 0 0) := ⟨Try.underlying60, Try.t60, info_of Try.typeInfo60, rfl, rfl, rfl⟩
instance : Ty Try.prog 61 (TypeDesc.func #[31] #[4] false) 1 8 Value.nilFunc := ⟨Try.underlying61, Try.t61, info_of Try.typeInfo61, rfl, rfl, rfl⟩
instance : Ty Try.prog 62 (TypeDesc.int IntKind.u32) 1 4 (Value.int IntKind.u32 0) := ⟨Try.underlying62, Try.t62, info_of Try.typeInfo62, rfl, rfl, rfl⟩
instance : Ty Try.prog 63 (TypeDesc.array 16 62) 16 64 (Value.agg #[Value.int IntKind.u32 0, Value.int IntKind.u32 0, Value.int IntKind.u32 0, Value.int IntKind.u32 0, Value.int IntKind.u32 0, Value.int IntKind.u32 0, Value.int IntKind.u32 0, Value.int IntKind.u32 0, Value.int IntKind.u32 0, Value.int IntKind.u32 0, Value.int IntKind.u32 0, Value.int IntKind.u32 0, Value.int IntKind.u32 0, Value.int IntKind.u32 0, Value.int IntKind.u32 0, Value.int IntKind.u32 0]) := ⟨Try.underlying63, Try.t63, info_of Try.typeInfo63, rfl, rfl, rfl⟩
instance : EqG Try.prog 63 := ⟨Try.eqGuardType63⟩
instance : Ty Try.prog 64 (TypeDesc.array 16 62) 16 64 (Value.agg #[Value.int IntKind.u32 0, Value.int IntKind.u32 0, Value.int IntKind.u32 0, Value.int IntKind.u32 0, Value.int IntKind.u32 0, Value.int IntKind.u32 0, Value.int IntKind.u32 0, Value.int IntKind.u32 0, Value.int IntKind.u32 0, Value.int IntKind.u32 0, Value.int IntKind.u32 0, Value.int IntKind.u32 0, Value.int IntKind.u32 0, Value.int IntKind.u32 0, Value.int IntKind.u32 0, Value.int IntKind.u32 0]) := ⟨Try.underlying64, Try.t64, info_of Try.typeInfo64, rfl, rfl, rfl⟩
instance : EqG Try.prog 64 := ⟨Try.eqGuardType64⟩
instance : Ty Try.prog 65 (TypeDesc.func #[64, 3] #[4] false) 1 8 Value.nilFunc := ⟨Try.underlying65, Try.t65, info_of Try.typeInfo65, rfl, rfl, rfl⟩
instance : Ty Try.prog 66 (TypeDesc.func #[64, 64] #[4] false) 1 8 Value.nilFunc := ⟨Try.underlying66, Try.t66, info_of Try.typeInfo66, rfl, rfl, rfl⟩
instance : Ty Try.prog 67 (TypeDesc.func #[64, 64] #[3] false) 1 8 Value.nilFunc := ⟨Try.underlying67, Try.t67, info_of Try.typeInfo67, rfl, rfl, rfl⟩
instance : Ty Try.prog 68 (TypeDesc.func #[64, 64, 3] #[4] false) 1 8 Value.nilFunc := ⟨Try.underlying68, Try.t68, info_of Try.typeInfo68, rfl, rfl, rfl⟩
instance : Ty Try.prog 69 (TypeDesc.struct #[{ name := "Rep", type := 5, offset := 0, embedded := false, tag := "", pkgPath := "", byteOffset := 0 }, { name := "Seq", type := 62, offset := 1, embedded := false, tag := "", pkgPath := "", byteOffset := 4 }]) 2 8 (Value.agg #[Value.int IntKind.u8 0, Value.int IntKind.u32 0]) := ⟨Try.underlying69, Try.t69, info_of Try.typeInfo69, rfl, rfl, rfl⟩
instance : Fld Try.prog 69 0 0 5 := ⟨_, _, Try.underlying69, rfl, rfl, rfl⟩
instance : Fld Try.prog 69 1 1 62 := ⟨_, _, Try.underlying69, rfl, rfl, rfl⟩
instance : EqG Try.prog 69 := ⟨Try.eqGuardType69⟩
instance : Ty Try.prog 70 (TypeDesc.struct #[{ name := "Rep", type := 5, offset := 0, embedded := false, tag := "", pkgPath := "", byteOffset := 0 }, { name := "Seq", type := 62, offset := 1, embedded := false, tag := "", pkgPath := "", byteOffset := 4 }]) 2 8 (Value.agg #[Value.int IntKind.u8 0, Value.int IntKind.u32 0]) := ⟨Try.underlying70, Try.t70, info_of Try.typeInfo70, rfl, rfl, rfl⟩
instance : Fld Try.prog 70 0 0 5 := ⟨_, _, Try.underlying70, rfl, rfl, rfl⟩
instance : Fld Try.prog 70 1 1 62 := ⟨_, _, Try.underlying70, rfl, rfl, rfl⟩
instance : EqG Try.prog 70 := ⟨Try.eqGuardType70⟩
instance : Ty Try.prog 71 (TypeDesc.tuple #[64, 32]) 1 0 (Value.tuple #[Value.agg #[Value.int IntKind.u32 0, Value.int IntKind.u32 0, Value.int IntKind.u32 0, Value.int IntKind.u32 0, Value.int IntKind.u32 0, Value.int IntKind.u32 0, Value.int IntKind.u32 0, Value.int IntKind.u32 0, Value.int IntKind.u32 0, Value.int IntKind.u32 0, Value.int IntKind.u32 0, Value.int IntKind.u32 0, Value.int IntKind.u32 0, Value.int IntKind.u32 0, Value.int IntKind.u32 0, Value.int IntKind.u32 0], Value.int IntKind.i64 0]) := ⟨Try.underlying71, Try.t71, info_of Try.typeInfo71, rfl, rfl, rfl⟩
instance : Ty Try.prog 72 (TypeDesc.func #[64, 70] #[64, 32] false) 1 8 Value.nilFunc := ⟨Try.underlying72, Try.t72, info_of Try.typeInfo72, rfl, rfl, rfl⟩
instance : Ty Try.prog 73 (TypeDesc.tuple #[64, 3]) 1 0 (Value.tuple #[Value.agg #[Value.int IntKind.u32 0, Value.int IntKind.u32 0, Value.int IntKind.u32 0, Value.int IntKind.u32 0, Value.int IntKind.u32 0, Value.int IntKind.u32 0, Value.int IntKind.u32 0, Value.int IntKind.u32 0, Value.int IntKind.u32 0, Value.int IntKind.u32 0, Value.int IntKind.u32 0, Value.int IntKind.u32 0, Value.int IntKind.u32 0, Value.int IntKind.u32 0, Value.int IntKind.u32 0, Value.int IntKind.u32 0], Value.int IntKind.i64 0]) := ⟨Try.underlying73, Try.t73, info_of Try.typeInfo73, rfl, rfl, rfl⟩
instance : Ty Try.prog 74 (TypeDesc.func #[64, 70] #[64, 3] false) 1 8 Value.nilFunc := ⟨Try.underlying74, Try.t74, info_of Try.typeInfo74, rfl, rfl, rfl⟩
instance : Ty Try.prog 75 (TypeDesc.func #[64, 70] #[4] false) 1 8 Value.nilFunc := ⟨Try.underlying75, Try.t75, info_of Try.typeInfo75, rfl, rfl, rfl⟩
instance : Ty Try.prog 76 (TypeDesc.func #[64, 64, 5] #[4] false) 1 8 Value.nilFunc := ⟨Try.underlying76, Try.t76, info_of Try.typeInfo76, rfl, rfl, rfl⟩
instance : Ty Try.prog 77 (TypeDesc.func #[64, 64] #[64] false) 1 8 Value.nilFunc := ⟨Try.underlying77, Try.t77, info_of Try.typeInfo77, rfl, rfl, rfl⟩
instance : Ty Try.prog 78 (TypeDesc.func #[64] #[29] false) 1 8 Value.nilFunc := ⟨Try.underlying78, Try.t78, info_of Try.typeInfo78, rfl, rfl, rfl⟩
instance : Ty Try.prog 79 (TypeDesc.func #[64, 64, 64] #[4] false) 1 8 Value.nilFunc := ⟨Try.underlying79, Try.t79, info_of Try.typeInfo79, rfl, rfl, rfl⟩
instance : Ty Try.prog 80 (TypeDesc.func #[64, 64, 70] #[4] false) 1 8 Value.nilFunc := ⟨Try.underlying80, Try.t80, info_of Try.typeInfo80, rfl, rfl, rfl⟩
instance : Ty Try.prog 81 (TypeDesc.func #[64] #[26] false) 1 8 Value.nilFunc := ⟨Try.underlying81, Try.t81, info_of Try.typeInfo81, rfl, rfl, rfl⟩
instance : Ty Try.prog 82 (TypeDesc.func #[26] #[64, 32] false) 1 8 Value.nilFunc := ⟨Try.underlying82, Try.t82, info_of Try.typeInfo82, rfl, rfl, rfl⟩
instance : Ty Try.prog 83 (TypeDesc.func #[26] #[64, 3] false) 1 8 Value.nilFunc := ⟨Try.underlying83, Try.t83, info_of Try.typeInfo83, rfl, rfl, rfl⟩
instance : Ty Try.prog 84 (TypeDesc.func #[64, 26] #[4] false) 1 8 Value.nilFunc := ⟨Try.underlying84, Try.t84, info_of Try.typeInfo84, rfl, rfl, rfl⟩
instance : Ty Try.prog 85 (TypeDesc.int IntKind.u16) 1 2 (Value.int IntKind.u16 0) := ⟨Try.underlying85, Try.t85, info_of Try.typeInfo85, rfl, rfl, rfl⟩
instance : Ty Try.prog 86 (TypeDesc.struct #[{ name := "Dot", type := 70, offset := 0, embedded := false, tag := "", pkgPath := "", byteOffset := 0 }, { name := "Kind", type := 5, offset := 2, embedded := false, tag := "", pkgPath := "", byteOffset := 8 }, { name := "Cart", type := 85, offset := 3, embedded := false, tag := "", pkgPath := "", byteOffset := 10 }, { name := "Item", type := 85, offset := 4, embedded := false, tag := "", pkgPath := "", byteOffset := 12 }, { name := "Qty", type := 85, offset := 5, embedded := false, tag := "", pkgPath := "", byteOffset := 14 }, { name := "Tick", type := 62, offset := 6, embedded := false, tag := "", pkgPath := "", byteOffset := 16 }, { name := "Ctx", type := 64, offset := 7, embedded := false, tag := "", pkgPath := "", byteOffset := 20 }]) 23 84 (Value.agg #[Value.int IntKind.u8 0, Value.int IntKind.u32 0, Value.int IntKind.u8 0, Value.int IntKind.u16 0, Value.int IntKind.u16 0, Value.int IntKind.u16 0, Value.int IntKind.u32 0, Value.int IntKind.u32 0, Value.int IntKind.u32 0, Value.int IntKind.u32 0, Value.int IntKind.u32 0, Value.int IntKind.u32 0, Value.int IntKind.u32 0, Value.int IntKind.u32 0, Value.int IntKind.u32 0, Value.int IntKind.u32 0, Value.int IntKind.u32 0, Value.int IntKind.u32 0, Value.int IntKind.u32 0, Value.int IntKind.u32 0, Value.int IntKind.u32 0, Value.int IntKind.u32 0, Value.int IntKind.u32 0]) := ⟨Try.underlying86, Try.t86, info_of Try.typeInfo86, rfl, rfl, rfl⟩
instance : Fld Try.prog 86 0 0 70 := ⟨_, _, Try.underlying86, rfl, rfl, rfl⟩
instance : Fld Try.prog 86 1 2 5 := ⟨_, _, Try.underlying86, rfl, rfl, rfl⟩
instance : Fld Try.prog 86 2 3 85 := ⟨_, _, Try.underlying86, rfl, rfl, rfl⟩
instance : Fld Try.prog 86 3 4 85 := ⟨_, _, Try.underlying86, rfl, rfl, rfl⟩
instance : Fld Try.prog 86 4 5 85 := ⟨_, _, Try.underlying86, rfl, rfl, rfl⟩
instance : Fld Try.prog 86 5 6 62 := ⟨_, _, Try.underlying86, rfl, rfl, rfl⟩
instance : Fld Try.prog 86 6 7 64 := ⟨_, _, Try.underlying86, rfl, rfl, rfl⟩
instance : EqG Try.prog 86 := ⟨Try.eqGuardType86⟩
instance : Ty Try.prog 87 (TypeDesc.struct #[{ name := "Dot", type := 70, offset := 0, embedded := false, tag := "", pkgPath := "", byteOffset := 0 }, { name := "Kind", type := 5, offset := 2, embedded := false, tag := "", pkgPath := "", byteOffset := 8 }, { name := "Cart", type := 85, offset := 3, embedded := false, tag := "", pkgPath := "", byteOffset := 10 }, { name := "Item", type := 85, offset := 4, embedded := false, tag := "", pkgPath := "", byteOffset := 12 }, { name := "Qty", type := 85, offset := 5, embedded := false, tag := "", pkgPath := "", byteOffset := 14 }, { name := "Tick", type := 62, offset := 6, embedded := false, tag := "", pkgPath := "", byteOffset := 16 }, { name := "Ctx", type := 64, offset := 7, embedded := false, tag := "", pkgPath := "", byteOffset := 20 }]) 23 84 (Value.agg #[Value.int IntKind.u8 0, Value.int IntKind.u32 0, Value.int IntKind.u8 0, Value.int IntKind.u16 0, Value.int IntKind.u16 0, Value.int IntKind.u16 0, Value.int IntKind.u32 0, Value.int IntKind.u32 0, Value.int IntKind.u32 0, Value.int IntKind.u32 0, Value.int IntKind.u32 0, Value.int IntKind.u32 0, Value.int IntKind.u32 0, Value.int IntKind.u32 0, Value.int IntKind.u32 0, Value.int IntKind.u32 0, Value.int IntKind.u32 0, Value.int IntKind.u32 0, Value.int IntKind.u32 0, Value.int IntKind.u32 0, Value.int IntKind.u32 0, Value.int IntKind.u32 0, Value.int IntKind.u32 0]) := ⟨Try.underlying87, Try.t87, info_of Try.typeInfo87, rfl, rfl, rfl⟩
instance : Fld Try.prog 87 0 0 70 := ⟨_, _, Try.underlying87, rfl, rfl, rfl⟩
instance : Fld Try.prog 87 1 2 5 := ⟨_, _, Try.underlying87, rfl, rfl, rfl⟩
instance : Fld Try.prog 87 2 3 85 := ⟨_, _, Try.underlying87, rfl, rfl, rfl⟩
instance : Fld Try.prog 87 3 4 85 := ⟨_, _, Try.underlying87, rfl, rfl, rfl⟩
instance : Fld Try.prog 87 4 5 85 := ⟨_, _, Try.underlying87, rfl, rfl, rfl⟩
instance : Fld Try.prog 87 5 6 62 := ⟨_, _, Try.underlying87, rfl, rfl, rfl⟩
instance : Fld Try.prog 87 6 7 64 := ⟨_, _, Try.underlying87, rfl, rfl, rfl⟩
instance : EqG Try.prog 87 := ⟨Try.eqGuardType87⟩
instance : Ty Try.prog 88 (TypeDesc.func #[87, 3] #[4] false) 1 8 Value.nilFunc := ⟨Try.underlying88, Try.t88, info_of Try.typeInfo88, rfl, rfl, rfl⟩
instance : Ty Try.prog 89 (TypeDesc.func #[87] #[29] false) 1 8 Value.nilFunc := ⟨Try.underlying89, Try.t89, info_of Try.typeInfo89, rfl, rfl, rfl⟩
instance : Ty Try.prog 90 (TypeDesc.func #[87, 87] #[4] false) 1 8 Value.nilFunc := ⟨Try.underlying90, Try.t90, info_of Try.typeInfo90, rfl, rfl, rfl⟩
instance : Ty Try.prog 91 (TypeDesc.func #[87, 87, 3] #[4] false) 1 8 Value.nilFunc := ⟨Try.underlying91, Try.t91, info_of Try.typeInfo91, rfl, rfl, rfl⟩
instance : Ty Try.prog 92 (TypeDesc.func #[64, 87] #[32] false) 1 8 Value.nilFunc := ⟨Try.underlying92, Try.t92, info_of Try.typeInfo92, rfl, rfl, rfl⟩
instance : Ty Try.prog 93 (TypeDesc.func #[64, 87] #[3] false) 1 8 Value.nilFunc := ⟨Try.underlying93, Try.t93, info_of Try.typeInfo93, rfl, rfl, rfl⟩
instance : Ty Try.prog 94 (TypeDesc.func #[64, 87] #[4] false) 1 8 Value.nilFunc := ⟨Try.underlying94, Try.t94, info_of Try.typeInfo94, rfl, rfl, rfl⟩
instance : Ty Try.prog 95 (TypeDesc.func #[87] #[26, 32] false) 1 8 Value.nilFunc := ⟨Try.underlying95, Try.t95, info_of Try.typeInfo95, rfl, rfl, rfl⟩
instance : Ty Try.prog 96 (TypeDesc.tuple #[26, 3]) 1 0 (Value.tuple #[Value.slice none 0 0, Value.int IntKind.i64 0]) := ⟨Try.underlying96, Try.t96, info_of Try.typeInfo96, rfl, rfl, rfl⟩
instance : Ty Try.prog 97 (TypeDesc.func #[87] #[26, 3] false) 1 8 Value.nilFunc := ⟨Try.underlying97, Try.t97, info_of Try.typeInfo97, rfl, rfl, rfl⟩
instance : Ty Try.prog 98 (TypeDesc.tuple #[87, 32]) 1 0 (Value.tuple #[Value.agg #[Value.int IntKind.u8 0, Value.int IntKind.u32 0, Value.int IntKind.u8 0, Value.int IntKind.u16 0, Value.int IntKind.u16 0, Value.int IntKind.u16 0, Value.int IntKind.u32 0, Value.int IntKind.u32 0, Value.int IntKind.u32 0, Value.int IntKind.u32 0, Value.int IntKind.u32 0, Value.int IntKind.u32 0, Value.int IntKind.u32 0, Value.int IntKind.u32 0, Value.int IntKind.u32 0, Value.int IntKind.u32 0, Value.int IntKind.u32 0, Value.int IntKind.u32 0, Value.int IntKind.u32 0, Value.int IntKind.u32 0, Value.int IntKind.u32 0, Value.int IntKind.u32 0, Value.int IntKind.u32 0], Value.int IntKind.i64 0]) := ⟨Try.underlying98, Try.t98, info_of Try.typeInfo98, rfl, rfl, rfl⟩
instance : Ty Try.prog 99 (TypeDesc.func #[26] #[87, 32] false) 1 8 Value.nilFunc := ⟨Try.underlying99, Try.t99, info_of Try.typeInfo99, rfl, rfl, rfl⟩
instance : Ty Try.prog 100 (TypeDesc.tuple #[87, 3]) 1 0 (Value.tuple #[Value.agg #[Value.int IntKind.u8 0, Value.int IntKind.u32 0, Value.int IntKind.u8 0, Value.int IntKind.u16 0, Value.int IntKind.u16 0, Value.int IntKind.u16 0, Value.int IntKind.u32 0, Value.int IntKind.u32 0, Value.int IntKind.u32 0, Value.int IntKind.u32 0, Value.int IntKind.u32 0, Value.int IntKind.u32 0, Value.int IntKind.u32 0, Value.int IntKind.u32 0, Value.int IntKind.u32 0, Value.int IntKind.u32 0, Value.int IntKind.u32 0, Value.int IntKind.u32 0, Value.int IntKind.u32 0, Value.int IntKind.u32 0, Value.int IntKind.u32 0, Value.int IntKind.u32 0, Value.int IntKind.u32 0], Value.int IntKind.i64 0]) := ⟨Try.underlying100, Try.t100, info_of Try.typeInfo100, rfl, rfl, rfl⟩
instance : Ty Try.prog 101 (TypeDesc.func #[26] #[87, 3] false) 1 8 Value.nilFunc := ⟨Try.underlying101, Try.t101, info_of Try.typeInfo101, rfl, rfl, rfl⟩
instance : Ty Try.prog 102 (TypeDesc.func #[87, 26] #[4] false) 1 8 Value.nilFunc := ⟨Try.underlying102, Try.t102, info_of Try.typeInfo102, rfl, rfl, rfl⟩
instance : Ty Try.prog 103 (TypeDesc.func #[87, 87, 87] #[4] false) 1 8 Value.nilFunc := ⟨Try.underlying103, Try.t103, info_of Try.typeInfo103, rfl, rfl, rfl⟩
instance : Ty Try.prog 104 (TypeDesc.func #[29] #[32] false) 1 8 Value.nilFunc := ⟨Try.underlying104, Try.t104, info_of Try.typeInfo104, rfl, rfl, rfl⟩
instance : Ty Try.prog 105 (TypeDesc.func #[2] #[32] false) 1 8 Value.nilFunc := ⟨Try.underlying105, Try.t105, info_of Try.typeInfo105, rfl, rfl, rfl⟩
instance : Ty Try.prog 106 (TypeDesc.func #[26] #[32] false) 1 8 Value.nilFunc := ⟨Try.underlying106, Try.t106, info_of Try.typeInfo106, rfl, rfl, rfl⟩
instance : Ty Try.prog 107 (TypeDesc.func #[29] #[26] false) 1 8 Value.nilFunc := ⟨Try.underlying107, Try.t107, info_of Try.typeInfo107, rfl, rfl, rfl⟩
instance : Ty Try.prog 108 (TypeDesc.func #[2] #[29] false) 1 8 Value.nilFunc := ⟨Try.underlying108, Try.t108, info_of Try.typeInfo108, rfl, rfl, rfl⟩
instance : Ty Try.prog 109 (TypeDesc.func #[26] #[26] false) 1 8 Value.nilFunc := ⟨Try.underlying109, Try.t109, info_of Try.typeInfo109, rfl, rfl, rfl⟩
instance : Ty Try.prog 110 (TypeDesc.func #[26, 26] #[26] false) 1 8 Value.nilFunc := ⟨Try.underlying110, Try.t110, info_of Try.typeInfo110, rfl, rfl, rfl⟩
instance : Ty Try.prog 111 (TypeDesc.tuple #[29, 3, 32]) 1 0 (Value.tuple #[Value.int IntKind.u64 0, Value.int IntKind.i64 0, Value.int IntKind.i64 0]) := ⟨Try.underlying111, Try.t111, info_of Try.typeInfo111, rfl, rfl, rfl⟩
instance : Ty Try.prog 112 (TypeDesc.func #[26] #[29, 3, 32] false) 1 8 Value.nilFunc := ⟨Try.underlying112, Try.t112, info_of Try.typeInfo112, rfl, rfl, rfl⟩
instance : Ty Try.prog 113 (TypeDesc.func #[32] #[32] false) 1 8 Value.nilFunc := ⟨Try.underlying113, Try.t113, info_of Try.typeInfo113, rfl, rfl, rfl⟩
instance : Ty Try.prog 114 (TypeDesc.tuple #[29, 3, 3]) 1 0 (Value.tuple #[Value.int IntKind.u64 0, Value.int IntKind.i64 0, Value.int IntKind.i64 0]) := ⟨Try.underlying114, Try.t114, info_of Try.typeInfo114, rfl, rfl, rfl⟩
instance : Ty Try.prog 115 (TypeDesc.func #[26] #[29, 3, 3] false) 1 8 Value.nilFunc := ⟨Try.underlying115, Try.t115, info_of Try.typeInfo115, rfl, rfl, rfl⟩
instance : Ty Try.prog 116 (TypeDesc.func #[70] #[4] false) 1 8 Value.nilFunc := ⟨Try.underlying116, Try.t116, info_of Try.typeInfo116, rfl, rfl, rfl⟩
instance : Ty Try.prog 117 (TypeDesc.slice 62) 1 24 (Value.slice none 0 0) := ⟨Try.underlying117, Try.t117, info_of Try.typeInfo117, rfl, rfl, rfl⟩
instance : Ty Try.prog 118 (TypeDesc.func #[87] #[4] false) 1 8 Value.nilFunc := ⟨Try.underlying118, Try.t118, info_of Try.typeInfo118, rfl, rfl, rfl⟩
instance : Ty Try.prog 119 (TypeDesc.func #[133] #[3] true) 1 8 Value.nilFunc := ⟨Try.underlying119, Try.t119, info_of Try.typeInfo119, rfl, rfl, rfl⟩
instance : Ty Try.prog 120 (TypeDesc.func #[29, 29] #[3] false) 1 8 Value.nilFunc := ⟨Try.underlying120, Try.t120, info_of Try.typeInfo120, rfl, rfl, rfl⟩
instance : Ty Try.prog 121 (TypeDesc.func #[5, 5] #[3] false) 1 8 Value.nilFunc := ⟨Try.underlying121, Try.t121, info_of Try.typeInfo121, rfl, rfl, rfl⟩
instance : Ty Try.prog 122 (TypeDesc.func #[62, 62] #[3] false) 1 8 Value.nilFunc := ⟨Try.underlying122, Try.t122, info_of Try.typeInfo122, rfl, rfl, rfl⟩
instance : Ty Try.prog 123 (TypeDesc.array 7 29) 7 56 (Value.agg #[Value.int IntKind.u64 0, Value.int IntKind.u64 0, Value.int IntKind.u64 0, Value.int IntKind.u64 0, Value.int IntKind.u64 0, Value.int IntKind.u64 0, Value.int IntKind.u64 0]) := ⟨Try.underlying123, Try.t123, info_of Try.typeInfo123, rfl, rfl, rfl⟩
instance : EqG Try.prog 123 := ⟨Try.eqGuardType123⟩
instance : Ty Try.prog 124 (TypeDesc.func #[87] #[26] false) 1 8 Value.nilFunc := ⟨Try.underlying124, Try.t124, info_of Try.typeInfo124, rfl, rfl, rfl⟩
instance : Ty Try.prog 125 (TypeDesc.pointer 127) 1 8 (Value.pointer none) := ⟨Try.underlying125, Try.t125, info_of Try.typeInfo125, rfl, rfl, rfl⟩
instance : Ty Try.prog 126 (TypeDesc.struct #[{ name := "Reader", type := 40, offset := 0, embedded := true, tag := "", pkgPath := "", byteOffset := 0 }, { name := "bad", type := 4, offset := 1, embedded := false, tag := "", pkgPath := "trug/op", byteOffset := 8 }]) 2 16 (Value.agg #[Value.pointer none, Value.bool false]) := ⟨Try.underlying126, Try.t126, info_of Try.typeInfo126, rfl, rfl, rfl⟩
instance : Fld Try.prog 126 0 0 40 := ⟨_, _, Try.underlying126, rfl, rfl, rfl⟩
instance : Fld Try.prog 126 1 1 4 := ⟨_, _, Try.underlying126, rfl, rfl, rfl⟩
instance : EqG Try.prog 126 := ⟨Try.eqGuardType126⟩
instance : Ty Try.prog 127 (TypeDesc.struct #[{ name := "Reader", type := 40, offset := 0, embedded := true, tag := "", pkgPath := "", byteOffset := 0 }, { name := "bad", type := 4, offset := 1, embedded := false, tag := "", pkgPath := "trug/op", byteOffset := 8 }]) 2 16 (Value.agg #[Value.pointer none, Value.bool false]) := ⟨Try.underlying127, Try.t127, info_of Try.typeInfo127, rfl, rfl, rfl⟩
instance : Fld Try.prog 127 0 0 40 := ⟨_, _, Try.underlying127, rfl, rfl, rfl⟩
instance : Fld Try.prog 127 1 1 4 := ⟨_, _, Try.underlying127, rfl, rfl, rfl⟩
instance : EqG Try.prog 127 := ⟨Try.eqGuardType127⟩
instance : Ty Try.prog 128 (TypeDesc.func #[3] #[29] false) 1 8 Value.nilFunc := ⟨Try.underlying128, Try.t128, info_of Try.typeInfo128, rfl, rfl, rfl⟩
instance : Ty Try.prog 129 (TypeDesc.slice 29) 1 24 (Value.slice none 0 0) := ⟨Try.underlying129, Try.t129, info_of Try.typeInfo129, rfl, rfl, rfl⟩
instance : Ty Try.prog 130 (TypeDesc.func #[137] #[32] true) 1 8 Value.nilFunc := ⟨Try.underlying130, Try.t130, info_of Try.typeInfo130, rfl, rfl, rfl⟩
instance : Ty Try.prog 131 (TypeDesc.pointer 55) 1 8 (Value.pointer none) := ⟨Try.underlying131, Try.t131, info_of Try.typeInfo131, rfl, rfl, rfl⟩
instance : Ty Try.prog 132 (TypeDesc.int IntKind.u64) 1 8 (Value.int IntKind.u64 0) := ⟨Try.underlying132, Try.t132, info_of Try.typeInfo132, rfl, rfl, rfl⟩
instance : Ty Try.prog 133 (TypeDesc.slice 3) 1 24 (Value.slice none 0 0) := ⟨Try.underlying133, Try.t133, info_of Try.typeInfo133, rfl, rfl, rfl⟩
instance : Ty Try.prog 134 (TypeDesc.func #[29] #[4] false) 1 8 Value.nilFunc := ⟨Try.underlying134, Try.t134, info_of Try.typeInfo134, rfl, rfl, rfl⟩
instance : Ty Try.prog 135 (TypeDesc.func #[5] #[4] false) 1 8 Value.nilFunc := ⟨Try.underlying135, Try.t135, info_of Try.typeInfo135, rfl, rfl, rfl⟩
instance : Ty Try.prog 136 (TypeDesc.func #[62] #[4] false) 1 8 Value.nilFunc := ⟨Try.underlying136, Try.t136, info_of Try.typeInfo136, rfl, rfl, rfl⟩
instance : Ty Try.prog 137 (TypeDesc.slice 26) 1 24 (Value.slice none 0 0) := ⟨Try.underlying137, Try.t137, info_of Try.typeInfo137, rfl, rfl, rfl⟩
instance : Ty Try.prog 138 (TypeDesc.func #[137] #[26] true) 1 8 Value.nilFunc := ⟨Try.underlying138, Try.t138, info_of Try.typeInfo138, rfl, rfl, rfl⟩
instance : Ty Try.prog 139 (TypeDesc.func #[26, 3] #[26] false) 1 8 Value.nilFunc := ⟨Try.underlying139, Try.t139, info_of Try.typeInfo139, rfl, rfl, rfl⟩
instance : Ty Try.prog 140 (TypeDesc.func #[] #[9] false) 1 8 Value.nilFunc := ⟨Try.underlying140, Try.t140, info_of Try.typeInfo140, rfl, rfl, rfl⟩
instance : Ty Try.prog 141 (TypeDesc.struct #[{ name := "_interface", type := 17, offset := 0, embedded := false, tag := "", pkgPath := "runtime", byteOffset := 0 }, { name := "concrete", type := 17, offset := 1, embedded := false, tag := "", pkgPath := "runtime", byteOffset := 8 }, { name := "asserted", type := 17, offset := 2, embedded := false, tag := "", pkgPath := "runtime", byteOffset := 16 }, { name := "missingMethod", type := 9, offset := 3, embedded := false, tag := "", pkgPath := "runtime", byteOffset := 24 }]) 4 40 (Value.agg #[Value.pointer none, Value.pointer none, Value.pointer none, Value.string { data := #[] }]) := ⟨Try.underlying141, Try.t141, info_of Try.typeInfo141, rfl, rfl, rfl⟩
instance : Fld Try.prog 141 0 0 17 := ⟨_, _, Try.underlying141, rfl, rfl, rfl⟩
instance : Fld Try.prog 141 1 1 17 := ⟨_, _, Try.underlying141, rfl, rfl, rfl⟩
instance : Fld Try.prog 141 2 2 17 := ⟨_, _, Try.underlying141, rfl, rfl, rfl⟩
instance : Fld Try.prog 141 3 3 9 := ⟨_, _, Try.underlying141, rfl, rfl, rfl⟩
instance : EqG Try.prog 141 := ⟨Try.eqGuardType141⟩
instance : Ty Try.prog 142 (TypeDesc.struct #[{ name := "_interface", type := 17, offset := 0, embedded := false, tag := "", pkgPath := "runtime", byteOffset := 0 }, { name := "concrete", type := 17, offset := 1, embedded := false, tag := "", pkgPath := "runtime", byteOffset := 8 }, { name := "asserted", type := 17, offset := 2, embedded := false, tag := "", pkgPath := "runtime", byteOffset := 16 }, { name := "missingMethod", type := 9, offset := 3, embedded := false, tag := "", pkgPath := "runtime", byteOffset := 24 }]) 4 40 (Value.agg #[Value.pointer none, Value.pointer none, Value.pointer none, Value.string { data := #[] }]) := ⟨Try.underlying142, Try.t142, info_of Try.typeInfo142, rfl, rfl, rfl⟩
instance : Fld Try.prog 142 0 0 17 := ⟨_, _, Try.underlying142, rfl, rfl, rfl⟩
instance : Fld Try.prog 142 1 1 17 := ⟨_, _, Try.underlying142, rfl, rfl, rfl⟩
instance : Fld Try.prog 142 2 2 17 := ⟨_, _, Try.underlying142, rfl, rfl, rfl⟩
instance : Fld Try.prog 142 3 3 9 := ⟨_, _, Try.underlying142, rfl, rfl, rfl⟩
instance : EqG Try.prog 142 := ⟨Try.eqGuardType142⟩
instance : Ty Try.prog 143 (TypeDesc.array 0 16) 0 0 (Value.agg #[]) := ⟨Try.underlying143, Try.t143, info_of Try.typeInfo143, rfl, rfl, rfl⟩
instance : EqG Try.prog 143 := ⟨Try.eqGuardType143⟩
instance : Ty Try.prog 144 (TypeDesc.struct #[{ name := "_", type := 143, offset := 0, embedded := false, tag := "", pkgPath := "runtime", byteOffset := 0 }]) 0 0 (Value.agg #[]) := ⟨Try.underlying144, Try.t144, info_of Try.typeInfo144, rfl, rfl, rfl⟩
instance : Fld Try.prog 144 0 0 143 := ⟨_, _, Try.underlying144, rfl, rfl, rfl⟩
instance : EqG Try.prog 144 := ⟨Try.eqGuardType144⟩
instance : Ty Try.prog 145 (TypeDesc.struct #[{ name := "_", type := 143, offset := 0, embedded := false, tag := "", pkgPath := "runtime", byteOffset := 0 }]) 0 0 (Value.agg #[]) := ⟨Try.underlying145, Try.t145, info_of Try.typeInfo145, rfl, rfl, rfl⟩
instance : Fld Try.prog 145 0 0 143 := ⟨_, _, Try.underlying145, rfl, rfl, rfl⟩
instance : EqG Try.prog 145 := ⟨Try.eqGuardType145⟩
instance : Ty Try.prog 146 (TypeDesc.func #[] #[3] false) 1 8 Value.nilFunc := ⟨Try.underlying146, Try.t146, info_of Try.typeInfo146, rfl, rfl, rfl⟩
instance : Ty Try.prog 147 (TypeDesc.int IntKind.u8) 1 1 (Value.int IntKind.u8 0) := ⟨Try.underlying147, Try.t147, info_of Try.typeInfo147, rfl, rfl, rfl⟩
instance : Ty Try.prog 148 (TypeDesc.int IntKind.u8) 1 1 (Value.int IntKind.u8 0) := ⟨Try.underlying148, Try.t148, info_of Try.typeInfo148, rfl, rfl, rfl⟩
instance : Ty Try.prog 149 (TypeDesc.func #[155, 155] #[4] false) 1 8 Value.nilFunc := ⟨Try.underlying149, Try.t149, info_of Try.typeInfo149, rfl, rfl, rfl⟩
instance : Ty Try.prog 150 (TypeDesc.pointer 5) 1 8 (Value.pointer none) := ⟨Try.underlying150, Try.t150, info_of Try.typeInfo150, rfl, rfl, rfl⟩
instance : Ty Try.prog 151 (TypeDesc.int IntKind.i32) 1 4 (Value.int IntKind.i32 0) := ⟨Try.underlying151, Try.t151, info_of Try.typeInfo151, rfl, rfl, rfl⟩
instance : Ty Try.prog 152 (TypeDesc.int IntKind.i32) 1 4 (Value.int IntKind.i32 0) := ⟨Try.underlying152, Try.t152, info_of Try.typeInfo152, rfl, rfl, rfl⟩
instance : Ty Try.prog 153 (TypeDesc.struct #[{ name := "Size_", type := 12, offset := 0, embedded := false, tag := "", pkgPath := "", byteOffset := 0 }, { name := "PtrBytes", type := 12, offset := 1, embedded := false, tag := "", pkgPath := "", byteOffset := 8 }, { name := "Hash", type := 62, offset := 2, embedded := false, tag := "", pkgPath := "", byteOffset := 16 }, { name := "TFlag", type := 147, offset := 3, embedded := false, tag := "", pkgPath := "", byteOffset := 20 }, { name := "Align_", type := 5, offset := 4, embedded := false, tag := "", pkgPath := "", byteOffset := 21 }, { name := "FieldAlign_", type := 5, offset := 5, embedded := false, tag := "", pkgPath := "", byteOffset := 22 }, { name := "Kind_", type := 148, offset := 6, embedded := false, tag := "", pkgPath := "", byteOffset := 23 }, { name := "Equal", type := 149, offset := 7, embedded := false, tag := "", pkgPath := "", byteOffset := 24 }, { name := "GCData", type := 150, offset := 8, embedded := false, tag := "", pkgPath := "", byteOffset := 32 }, { name := "Str", type := 151, offset := 9, embedded := false, tag := "", pkgPath := "", byteOffset := 40 }, { name := "PtrToThis", type := 152, offset := 10, embedded := false, tag := "", pkgPath := "", byteOffset := 44 }]) 11 48 (Value.agg #[Value.int IntKind.u64 0, Value.int IntKind.u64 0, Value.int IntKind.u32 0, Value.int IntKind.u8 0, Value.int IntKind.u8 0, Value.int IntKind.u8 0, Value.int IntKind.u8 0, Value.nilFunc, Value.pointer none, Value.int IntKind.i32 0, Value.int IntKind.i32 0]) := ⟨Try.underlying153, Try.t153, info_of Try.typeInfo153, rfl, rfl, rfl⟩
instance : Fld Try.prog 153 0 0 12 := ⟨_, _, Try.underlying153, rfl, rfl, rfl⟩
instance : Fld Try.prog 153 1 1 12 := ⟨_, _, Try.underlying153, rfl, rfl, rfl⟩
instance : Fld Try.prog 153 2 2 62 := ⟨_, _, Try.underlying153, rfl, rfl, rfl⟩
instance : Fld Try.prog 153 3 3 147 := ⟨_, _, Try.underlying153, rfl, rfl, rfl⟩
instance : Fld Try.prog 153 4 4 5 := ⟨_, _, Try.underlying153, rfl, rfl, rfl⟩
instance : Fld Try.prog 153 5 5 5 := ⟨_, _, Try.underlying153, rfl, rfl, rfl⟩
instance : Fld Try.prog 153 6 6 148 := ⟨_, _, Try.underlying153, rfl, rfl, rfl⟩
instance : Fld Try.prog 153 7 7 149 := ⟨_, _, Try.underlying153, rfl, rfl, rfl⟩
instance : Fld Try.prog 153 8 8 150 := ⟨_, _, Try.underlying153, rfl, rfl, rfl⟩
instance : Fld Try.prog 153 9 9 151 := ⟨_, _, Try.underlying153, rfl, rfl, rfl⟩
instance : Fld Try.prog 153 10 10 152 := ⟨_, _, Try.underlying153, rfl, rfl, rfl⟩
instance : EqG Try.prog 153 := ⟨Try.eqGuardType153⟩
instance : Ty Try.prog 154 (TypeDesc.struct #[{ name := "Size_", type := 12, offset := 0, embedded := false, tag := "", pkgPath := "", byteOffset := 0 }, { name := "PtrBytes", type := 12, offset := 1, embedded := false, tag := "", pkgPath := "", byteOffset := 8 }, { name := "Hash", type := 62, offset := 2, embedded := false, tag := "", pkgPath := "", byteOffset := 16 }, { name := "TFlag", type := 147, offset := 3, embedded := false, tag := "", pkgPath := "", byteOffset := 20 }, { name := "Align_", type := 5, offset := 4, embedded := false, tag := "", pkgPath := "", byteOffset := 21 }, { name := "FieldAlign_", type := 5, offset := 5, embedded := false, tag := "", pkgPath := "", byteOffset := 22 }, { name := "Kind_", type := 148, offset := 6, embedded := false, tag := "", pkgPath := "", byteOffset := 23 }, { name := "Equal", type := 149, offset := 7, embedded := false, tag := "", pkgPath := "", byteOffset := 24 }, { name := "GCData", type := 150, offset := 8, embedded := false, tag := "", pkgPath := "", byteOffset := 32 }, { name := "Str", type := 151, offset := 9, embedded := false, tag := "", pkgPath := "", byteOffset := 40 }, { name := "PtrToThis", type := 152, offset := 10, embedded := false, tag := "", pkgPath := "", byteOffset := 44 }]) 11 48 (Value.agg #[Value.int IntKind.u64 0, Value.int IntKind.u64 0, Value.int IntKind.u32 0, Value.int IntKind.u8 0, Value.int IntKind.u8 0, Value.int IntKind.u8 0, Value.int IntKind.u8 0, Value.nilFunc, Value.pointer none, Value.int IntKind.i32 0, Value.int IntKind.i32 0]) := ⟨Try.underlying154, Try.t154, info_of Try.typeInfo154, rfl, rfl, rfl⟩
instance : Fld Try.prog 154 0 0 12 := ⟨_, _, Try.underlying154, rfl, rfl, rfl⟩
instance : Fld Try.prog 154 1 1 12 := ⟨_, _, Try.underlying154, rfl, rfl, rfl⟩
instance : Fld Try.prog 154 2 2 62 := ⟨_, _, Try.underlying154, rfl, rfl, rfl⟩
instance : Fld Try.prog 154 3 3 147 := ⟨_, _, Try.underlying154, rfl, rfl, rfl⟩
instance : Fld Try.prog 154 4 4 5 := ⟨_, _, Try.underlying154, rfl, rfl, rfl⟩
instance : Fld Try.prog 154 5 5 5 := ⟨_, _, Try.underlying154, rfl, rfl, rfl⟩
instance : Fld Try.prog 154 6 6 148 := ⟨_, _, Try.underlying154, rfl, rfl, rfl⟩
instance : Fld Try.prog 154 7 7 149 := ⟨_, _, Try.underlying154, rfl, rfl, rfl⟩
instance : Fld Try.prog 154 8 8 150 := ⟨_, _, Try.underlying154, rfl, rfl, rfl⟩
instance : Fld Try.prog 154 9 9 151 := ⟨_, _, Try.underlying154, rfl, rfl, rfl⟩
instance : Fld Try.prog 154 10 10 152 := ⟨_, _, Try.underlying154, rfl, rfl, rfl⟩
instance : EqG Try.prog 154 := ⟨Try.eqGuardType154⟩
instance : Ty Try.prog 155 (TypeDesc.unsafePointer) 1 8 (Value.pointer none) := ⟨Try.underlying155, Try.t155, info_of Try.typeInfo155, rfl, rfl, rfl⟩
instance : Plc Try.prog 7 [(0, 1), (1, 1), (2, 1), (3, 1)] := ⟨_, Try.underlying7, (.mk 2 0 1 rfl rfl (.mk 3 1 1 rfl rfl (.mk 4 2 1 rfl rfl (.mk 6 3 1 rfl rfl .nil))))⟩
instance : Plc Try.prog 8 [(0, 1), (1, 1), (2, 1), (3, 1)] := ⟨_, Try.underlying8, (.mk 2 0 1 rfl rfl (.mk 3 1 1 rfl rfl (.mk 4 2 1 rfl rfl (.mk 6 3 1 rfl rfl .nil))))⟩
instance : Plc Try.prog 13 [(0, 1), (1, 1)] := ⟨_, Try.underlying13, (.mk 9 0 1 rfl rfl (.mk 12 1 1 rfl rfl .nil))⟩
instance : Plc Try.prog 14 [(0, 1), (1, 1)] := ⟨_, Try.underlying14, (.mk 9 0 1 rfl rfl (.mk 12 1 1 rfl rfl .nil))⟩
instance : Plc Try.prog 18 [(0, 1)] := ⟨_, Try.underlying18, (.mk 17 0 1 rfl rfl .nil)⟩
instance : Plc Try.prog 19 [(0, 1)] := ⟨_, Try.underlying19, (.mk 17 0 1 rfl rfl .nil)⟩
instance : Plc Try.prog 27 [(0, 1), (1, 1)] := ⟨_, Try.underlying27, (.mk 26 0 1 rfl rfl (.mk 3 1 1 rfl rfl .nil))⟩
instance : Plc Try.prog 28 [(0, 1), (1, 1)] := ⟨_, Try.underlying28, (.mk 26 0 1 rfl rfl (.mk 3 1 1 rfl rfl .nil))⟩
instance : Plc Try.prog 30 [(0, 1), (1, 1), (2, 1)] := ⟨_, Try.underlying30, (.mk 5 0 1 rfl rfl (.mk 29 1 1 rfl rfl (.mk 26 2 1 rfl rfl .nil)))⟩
instance : Plc Try.prog 31 [(0, 1), (1, 1), (2, 1)] := ⟨_, Try.underlying31, (.mk 5 0 1 rfl rfl (.mk 29 1 1 rfl rfl (.mk 26 2 1 rfl rfl .nil)))⟩
instance : Plc Try.prog 42 [(0, 1), (1, 1)] := ⟨_, Try.underlying42, (.mk 26 0 1 rfl rfl (.mk 3 1 1 rfl rfl .nil))⟩
instance : Plc Try.prog 54 [(0, 1), (1, 1)] := ⟨_, Try.underlying54, (.mk 4 0 1 rfl rfl (.mk 32 1 1 rfl rfl .nil))⟩
instance : Plc Try.prog 55 [(0, 1), (1, 1)] := ⟨_, Try.underlying55, (.mk 4 0 1 rfl rfl (.mk 32 1 1 rfl rfl .nil))⟩
instance : Plc Try.prog 56 [(0, 2), (2, 1)] := ⟨_, Try.underlying56, (.mk 55 0 2 rfl rfl (.mk 26 2 1 rfl rfl .nil))⟩
instance : Plc Try.prog 57 [(0, 2), (2, 1)] := ⟨_, Try.underlying57, (.mk 55 0 2 rfl rfl (.mk 26 2 1 rfl rfl .nil))⟩
instance : Plc Try.prog 59 [(0, 2), (2, 1)] := ⟨_, Try.underlying59, (.mk 55 0 2 rfl rfl (.mk 26 2 1 rfl rfl .nil))⟩
instance : Plc Try.prog 69 [(0, 1), (1, 1)] := ⟨_, Try.underlying69, (.mk 5 0 1 rfl rfl (.mk 62 1 1 rfl rfl .nil))⟩
instance : Plc Try.prog 70 [(0, 1), (1, 1)] := ⟨_, Try.underlying70, (.mk 5 0 1 rfl rfl (.mk 62 1 1 rfl rfl .nil))⟩
instance : Plc Try.prog 86 [(0, 2), (2, 1), (3, 1), (4, 1), (5, 1), (6, 1), (7, 16)] := ⟨_, Try.underlying86, (.mk 70 0 2 rfl rfl (.mk 5 2 1 rfl rfl (.mk 85 3 1 rfl rfl (.mk 85 4 1 rfl rfl (.mk 85 5 1 rfl rfl (.mk 62 6 1 rfl rfl (.mk 64 7 16 rfl rfl .nil)))))))⟩
instance : Plc Try.prog 87 [(0, 2), (2, 1), (3, 1), (4, 1), (5, 1), (6, 1), (7, 16)] := ⟨_, Try.underlying87, (.mk 70 0 2 rfl rfl (.mk 5 2 1 rfl rfl (.mk 85 3 1 rfl rfl (.mk 85 4 1 rfl rfl (.mk 85 5 1 rfl rfl (.mk 62 6 1 rfl rfl (.mk 64 7 16 rfl rfl .nil)))))))⟩
instance : Plc Try.prog 126 [(0, 1), (1, 1)] := ⟨_, Try.underlying126, (.mk 40 0 1 rfl rfl (.mk 4 1 1 rfl rfl .nil))⟩
instance : Plc Try.prog 127 [(0, 1), (1, 1)] := ⟨_, Try.underlying127, (.mk 40 0 1 rfl rfl (.mk 4 1 1 rfl rfl .nil))⟩
instance : Plc Try.prog 141 [(0, 1), (1, 1), (2, 1), (3, 1)] := ⟨_, Try.underlying141, (.mk 17 0 1 rfl rfl (.mk 17 1 1 rfl rfl (.mk 17 2 1 rfl rfl (.mk 9 3 1 rfl rfl .nil))))⟩
instance : Plc Try.prog 142 [(0, 1), (1, 1), (2, 1), (3, 1)] := ⟨_, Try.underlying142, (.mk 17 0 1 rfl rfl (.mk 17 1 1 rfl rfl (.mk 17 2 1 rfl rfl (.mk 9 3 1 rfl rfl .nil))))⟩
instance : Plc Try.prog 144 [(0, 0)] := ⟨_, Try.underlying144, (.mk 143 0 0 rfl rfl .nil)⟩
instance : Plc Try.prog 145 [(0, 0)] := ⟨_, Try.underlying145, (.mk 143 0 0 rfl rfl .nil)⟩
instance : Plc Try.prog 153 [(0, 1), (1, 1), (2, 1), (3, 1), (4, 1), (5, 1), (6, 1), (7, 1), (8, 1), (9, 1), (10, 1)] := ⟨_, Try.underlying153, (.mk 12 0 1 rfl rfl (.mk 12 1 1 rfl rfl (.mk 62 2 1 rfl rfl (.mk 147 3 1 rfl rfl (.mk 5 4 1 rfl rfl (.mk 5 5 1 rfl rfl (.mk 148 6 1 rfl rfl (.mk 149 7 1 rfl rfl (.mk 150 8 1 rfl rfl (.mk 151 9 1 rfl rfl (.mk 152 10 1 rfl rfl .nil)))))))))))⟩
instance : Plc Try.prog 154 [(0, 1), (1, 1), (2, 1), (3, 1), (4, 1), (5, 1), (6, 1), (7, 1), (8, 1), (9, 1), (10, 1)] := ⟨_, Try.underlying154, (.mk 12 0 1 rfl rfl (.mk 12 1 1 rfl rfl (.mk 62 2 1 rfl rfl (.mk 147 3 1 rfl rfl (.mk 5 4 1 rfl rfl (.mk 5 5 1 rfl rfl (.mk 148 6 1 rfl rfl (.mk 149 7 1 rfl rfl (.mk 150 8 1 rfl rfl (.mk 151 9 1 rfl rfl (.mk 152 10 1 rfl rfl .nil)))))))))))⟩
instance : EqT Try.prog 2 false 1 [.i .i64] := eqt_int Try.underlying2
instance : EqT Try.prog 3 false 1 [.i .i64] := eqt_int Try.underlying3
instance : EqT Try.prog 4 false 1 [.b] := eqt_bool Try.underlying4
instance : EqT Try.prog 5 false 1 [.i .u8] := eqt_int Try.underlying5
instance : EqT Try.prog 6 false 1 [.i .u8] := eqt_int Try.underlying6
instance : EqT Try.prog 7 true 2 [.i .i64, .i .i64, .b, .i .u8] := by
  have h := eqt_struct (dd := 1) Try.underlying7 Try.stoodInHeld7 (FOk.mk2 (P := Try.prog) (dd := 1) 2 (f := { name := "x", type := 2, offset := 0, embedded := false, tag := "", pkgPath := "runtime", byteOffset := 0 }) (off := 0) rfl rfl rfl rfl (by decide) (by decide) (FOk.mk2 (P := Try.prog) (dd := 1) 3 (f := { name := "y", type := 3, offset := 1, embedded := false, tag := "", pkgPath := "runtime", byteOffset := 8 }) (off := 1) rfl rfl rfl rfl (by decide) (by decide) (FOk.mk2 (P := Try.prog) (dd := 1) 4 (f := { name := "signed", type := 4, offset := 2, embedded := false, tag := "", pkgPath := "runtime", byteOffset := 16 }) (off := 2) rfl rfl rfl rfl (by decide) (by decide) (FOk.mk2 (P := Try.prog) (dd := 1) 6 (f := { name := "code", type := 6, offset := 3, embedded := false, tag := "", pkgPath := "runtime", byteOffset := 17 }) (off := 3) rfl rfl rfl rfl (by decide) (by decide) (FOk.nil (P := Try.prog) (dd := 1) _)))))
  exact h
instance : EqT Try.prog 8 true 2 [.i .i64, .i .i64, .b, .i .u8] := by
  have h := eqt_struct (dd := 1) Try.underlying8 Try.stoodInHeld8 (FOk.mk2 (P := Try.prog) (dd := 1) 2 (f := { name := "x", type := 2, offset := 0, embedded := false, tag := "", pkgPath := "runtime", byteOffset := 0 }) (off := 0) rfl rfl rfl rfl (by decide) (by decide) (FOk.mk2 (P := Try.prog) (dd := 1) 3 (f := { name := "y", type := 3, offset := 1, embedded := false, tag := "", pkgPath := "runtime", byteOffset := 8 }) (off := 1) rfl rfl rfl rfl (by decide) (by decide) (FOk.mk2 (P := Try.prog) (dd := 1) 4 (f := { name := "signed", type := 4, offset := 2, embedded := false, tag := "", pkgPath := "runtime", byteOffset := 16 }) (off := 2) rfl rfl rfl rfl (by decide) (by decide) (FOk.mk2 (P := Try.prog) (dd := 1) 6 (f := { name := "code", type := 6, offset := 3, embedded := false, tag := "", pkgPath := "runtime", byteOffset := 17 }) (off := 3) rfl rfl rfl rfl (by decide) (by decide) (FOk.nil (P := Try.prog) (dd := 1) _)))))
  exact h
instance : EqT Try.prog 12 false 1 [.i .u64] := eqt_int Try.underlying12
instance : EqT Try.prog 21 false 1 [.i .i32] := eqt_int Try.underlying21
instance : EqT Try.prog 29 false 1 [.i .u64] := eqt_int Try.underlying29
instance : EqT Try.prog 32 false 1 [.i .i64] := eqt_int Try.underlying32
instance : EqT Try.prog 54 true 2 [.b, .i .i64] := by
  have h := eqt_struct (dd := 1) Try.underlying54 Try.stoodInHeld54 (FOk.mk2 (P := Try.prog) (dd := 1) 4 (f := { name := "made", type := 4, offset := 0, embedded := false, tag := "", pkgPath := "trug/pack", byteOffset := 0 }) (off := 0) rfl rfl rfl rfl (by decide) (by decide) (FOk.mk2 (P := Try.prog) (dd := 1) 32 (f := { name := "e", type := 32, offset := 1, embedded := false, tag := "", pkgPath := "trug/pack", byteOffset := 8 }) (off := 1) rfl rfl rfl rfl (by decide) (by decide) (FOk.nil (P := Try.prog) (dd := 1) _)))
  exact h
instance : EqT Try.prog 55 true 2 [.b, .i .i64] := by
  have h := eqt_struct (dd := 1) Try.underlying55 Try.stoodInHeld55 (FOk.mk2 (P := Try.prog) (dd := 1) 4 (f := { name := "made", type := 4, offset := 0, embedded := false, tag := "", pkgPath := "trug/pack", byteOffset := 0 }) (off := 0) rfl rfl rfl rfl (by decide) (by decide) (FOk.mk2 (P := Try.prog) (dd := 1) 32 (f := { name := "e", type := 32, offset := 1, embedded := false, tag := "", pkgPath := "trug/pack", byteOffset := 8 }) (off := 1) rfl rfl rfl rfl (by decide) (by decide) (FOk.nil (P := Try.prog) (dd := 1) _)))
  exact h
instance : EqT Try.prog 62 false 1 [.i .u32] := eqt_int Try.underlying62
instance : EqT Try.prog 63 true 2 [.i .u32, .i .u32, .i .u32, .i .u32, .i .u32, .i .u32, .i .u32, .i .u32, .i .u32, .i .u32, .i .u32, .i .u32, .i .u32, .i .u32, .i .u32, .i .u32] := by
  have h := eqt_array2 (ag := false) Try.underlying63 rfl rfl
  exact h
instance : EqT Try.prog 64 true 2 [.i .u32, .i .u32, .i .u32, .i .u32, .i .u32, .i .u32, .i .u32, .i .u32, .i .u32, .i .u32, .i .u32, .i .u32, .i .u32, .i .u32, .i .u32, .i .u32] := by
  have h := eqt_array2 (ag := false) Try.underlying64 rfl rfl
  exact h
instance : EqT Try.prog 69 true 2 [.i .u8, .i .u32] := by
  have h := eqt_struct (dd := 1) Try.underlying69 Try.stoodInHeld69 (FOk.mk2 (P := Try.prog) (dd := 1) 5 (f := { name := "Rep", type := 5, offset := 0, embedded := false, tag := "", pkgPath := "", byteOffset := 0 }) (off := 0) rfl rfl rfl rfl (by decide) (by decide) (FOk.mk2 (P := Try.prog) (dd := 1) 62 (f := { name := "Seq", type := 62, offset := 1, embedded := false, tag := "", pkgPath := "", byteOffset := 4 }) (off := 1) rfl rfl rfl rfl (by decide) (by decide) (FOk.nil (P := Try.prog) (dd := 1) _)))
  exact h
instance : EqT Try.prog 70 true 2 [.i .u8, .i .u32] := by
  have h := eqt_struct (dd := 1) Try.underlying70 Try.stoodInHeld70 (FOk.mk2 (P := Try.prog) (dd := 1) 5 (f := { name := "Rep", type := 5, offset := 0, embedded := false, tag := "", pkgPath := "", byteOffset := 0 }) (off := 0) rfl rfl rfl rfl (by decide) (by decide) (FOk.mk2 (P := Try.prog) (dd := 1) 62 (f := { name := "Seq", type := 62, offset := 1, embedded := false, tag := "", pkgPath := "", byteOffset := 4 }) (off := 1) rfl rfl rfl rfl (by decide) (by decide) (FOk.nil (P := Try.prog) (dd := 1) _)))
  exact h
instance : EqT Try.prog 85 false 1 [.i .u16] := eqt_int Try.underlying85
instance : EqT Try.prog 86 true 3 [.i .u8, .i .u32, .i .u8, .i .u16, .i .u16, .i .u16, .i .u32, .i .u32, .i .u32, .i .u32, .i .u32, .i .u32, .i .u32, .i .u32, .i .u32, .i .u32, .i .u32, .i .u32, .i .u32, .i .u32, .i .u32, .i .u32, .i .u32] := by
  have h := eqt_struct (dd := 2) Try.underlying86 Try.stoodInHeld86 (FOk.mk2 (P := Try.prog) (dd := 2) 70 (f := { name := "Dot", type := 70, offset := 0, embedded := false, tag := "", pkgPath := "", byteOffset := 0 }) (off := 0) rfl rfl rfl rfl (by decide) (by decide) (FOk.mk2 (P := Try.prog) (dd := 2) 5 (f := { name := "Kind", type := 5, offset := 2, embedded := false, tag := "", pkgPath := "", byteOffset := 8 }) (off := 2) rfl rfl rfl rfl (by decide) (by decide) (FOk.mk2 (P := Try.prog) (dd := 2) 85 (f := { name := "Cart", type := 85, offset := 3, embedded := false, tag := "", pkgPath := "", byteOffset := 10 }) (off := 3) rfl rfl rfl rfl (by decide) (by decide) (FOk.mk2 (P := Try.prog) (dd := 2) 85 (f := { name := "Item", type := 85, offset := 4, embedded := false, tag := "", pkgPath := "", byteOffset := 12 }) (off := 4) rfl rfl rfl rfl (by decide) (by decide) (FOk.mk2 (P := Try.prog) (dd := 2) 85 (f := { name := "Qty", type := 85, offset := 5, embedded := false, tag := "", pkgPath := "", byteOffset := 14 }) (off := 5) rfl rfl rfl rfl (by decide) (by decide) (FOk.mk2 (P := Try.prog) (dd := 2) 62 (f := { name := "Tick", type := 62, offset := 6, embedded := false, tag := "", pkgPath := "", byteOffset := 16 }) (off := 6) rfl rfl rfl rfl (by decide) (by decide) (FOk.mk2 (P := Try.prog) (dd := 2) 64 (f := { name := "Ctx", type := 64, offset := 7, embedded := false, tag := "", pkgPath := "", byteOffset := 20 }) (off := 7) rfl rfl rfl rfl (by decide) (by decide) (FOk.nil (P := Try.prog) (dd := 2) _))))))))
  exact h
instance : EqT Try.prog 87 true 3 [.i .u8, .i .u32, .i .u8, .i .u16, .i .u16, .i .u16, .i .u32, .i .u32, .i .u32, .i .u32, .i .u32, .i .u32, .i .u32, .i .u32, .i .u32, .i .u32, .i .u32, .i .u32, .i .u32, .i .u32, .i .u32, .i .u32, .i .u32] := by
  have h := eqt_struct (dd := 2) Try.underlying87 Try.stoodInHeld87 (FOk.mk2 (P := Try.prog) (dd := 2) 70 (f := { name := "Dot", type := 70, offset := 0, embedded := false, tag := "", pkgPath := "", byteOffset := 0 }) (off := 0) rfl rfl rfl rfl (by decide) (by decide) (FOk.mk2 (P := Try.prog) (dd := 2) 5 (f := { name := "Kind", type := 5, offset := 2, embedded := false, tag := "", pkgPath := "", byteOffset := 8 }) (off := 2) rfl rfl rfl rfl (by decide) (by decide) (FOk.mk2 (P := Try.prog) (dd := 2) 85 (f := { name := "Cart", type := 85, offset := 3, embedded := false, tag := "", pkgPath := "", byteOffset := 10 }) (off := 3) rfl rfl rfl rfl (by decide) (by decide) (FOk.mk2 (P := Try.prog) (dd := 2) 85 (f := { name := "Item", type := 85, offset := 4, embedded := false, tag := "", pkgPath := "", byteOffset := 12 }) (off := 4) rfl rfl rfl rfl (by decide) (by decide) (FOk.mk2 (P := Try.prog) (dd := 2) 85 (f := { name := "Qty", type := 85, offset := 5, embedded := false, tag := "", pkgPath := "", byteOffset := 14 }) (off := 5) rfl rfl rfl rfl (by decide) (by decide) (FOk.mk2 (P := Try.prog) (dd := 2) 62 (f := { name := "Tick", type := 62, offset := 6, embedded := false, tag := "", pkgPath := "", byteOffset := 16 }) (off := 6) rfl rfl rfl rfl (by decide) (by decide) (FOk.mk2 (P := Try.prog) (dd := 2) 64 (f := { name := "Ctx", type := 64, offset := 7, embedded := false, tag := "", pkgPath := "", byteOffset := 20 }) (off := 7) rfl rfl rfl rfl (by decide) (by decide) (FOk.nil (P := Try.prog) (dd := 2) _))))))))
  exact h
instance : EqT Try.prog 123 true 2 [.i .u64, .i .u64, .i .u64, .i .u64, .i .u64, .i .u64, .i .u64] := by
  have h := eqt_array2 (ag := false) Try.underlying123 rfl rfl
  exact h
instance : EqT Try.prog 132 false 1 [.i .u64] := eqt_int Try.underlying132
instance : EqT Try.prog 147 false 1 [.i .u8] := eqt_int Try.underlying147
instance : EqT Try.prog 148 false 1 [.i .u8] := eqt_int Try.underlying148
instance : EqT Try.prog 151 false 1 [.i .i32] := eqt_int Try.underlying151
instance : EqT Try.prog 152 false 1 [.i .i32] := eqt_int Try.underlying152
instance : Fun Try.prog 2 := ⟨Try.call2⟩
instance : Fun Try.prog 3 := ⟨Try.call3⟩
instance : Fun Try.prog 4 := ⟨Try.call4⟩
instance : Fun Try.prog 5 := ⟨Try.call5⟩
instance : Fun Try.prog 6 := ⟨Try.call6⟩
instance : Fun Try.prog 7 := ⟨Try.call7⟩
instance : Fun Try.prog 8 := ⟨Try.call8⟩
instance : Fun Try.prog 9 := ⟨Try.call9⟩
instance : Fun Try.prog 10 := ⟨Try.call10⟩
instance : Fun Try.prog 11 := ⟨Try.call11⟩
instance : Fun Try.prog 12 := ⟨Try.call12⟩
instance : Fun Try.prog 13 := ⟨Try.call13⟩
instance : Fun Try.prog 14 := ⟨Try.call14⟩
instance : Fun Try.prog 15 := ⟨Try.call15⟩
instance : Fun Try.prog 16 := ⟨Try.call16⟩
instance : Fun Try.prog 17 := ⟨Try.call17⟩
instance : Fun Try.prog 18 := ⟨Try.call18⟩
instance : Fun Try.prog 19 := ⟨Try.call19⟩
instance : Fun Try.prog 20 := ⟨Try.call20⟩
instance : Fun Try.prog 21 := ⟨Try.call21⟩
instance : Fun Try.prog 22 := ⟨Try.call22⟩
instance : Fun Try.prog 23 := ⟨Try.call23⟩
instance : Fun Try.prog 24 := ⟨Try.call24⟩
instance : Fun Try.prog 25 := ⟨Try.call25⟩
instance : Fun Try.prog 26 := ⟨Try.call26⟩
instance : Fun Try.prog 27 := ⟨Try.call27⟩
instance : Fun Try.prog 28 := ⟨Try.call28⟩
instance : Fun Try.prog 29 := ⟨Try.call29⟩
instance : Fun Try.prog 30 := ⟨Try.call30⟩
instance : Fun Try.prog 31 := ⟨Try.call31⟩
instance : Fun Try.prog 32 := ⟨Try.call32⟩
instance : Fun Try.prog 33 := ⟨Try.call33⟩
instance : Fun Try.prog 34 := ⟨Try.call34⟩
instance : Fun Try.prog 35 := ⟨Try.call35⟩
instance : Fun Try.prog 36 := ⟨Try.call36⟩
instance : Fun Try.prog 37 := ⟨Try.call37⟩
instance : Fun Try.prog 38 := ⟨Try.call38⟩
instance : Fun Try.prog 39 := ⟨Try.call39⟩
instance : Fun Try.prog 40 := ⟨Try.call40⟩
instance : Fun Try.prog 41 := ⟨Try.call41⟩
instance : Fun Try.prog 42 := ⟨Try.call42⟩
instance : Fun Try.prog 43 := ⟨Try.call43⟩
instance : Fun Try.prog 44 := ⟨Try.call44⟩
instance : Fun Try.prog 45 := ⟨Try.call45⟩
instance : Fun Try.prog 46 := ⟨Try.call46⟩
instance : Fun Try.prog 47 := ⟨Try.call47⟩
instance : Fun Try.prog 48 := ⟨Try.call48⟩
instance : Fun Try.prog 49 := ⟨Try.call49⟩
instance : Fun Try.prog 50 := ⟨Try.call50⟩
instance : Fun Try.prog 51 := ⟨Try.call51⟩
instance : Fun Try.prog 52 := ⟨Try.call52⟩
instance : Fun Try.prog 53 := ⟨Try.call53⟩
instance : Fun Try.prog 54 := ⟨Try.call54⟩
instance : Fun Try.prog 55 := ⟨Try.call55⟩
instance : Fun Try.prog 56 := ⟨Try.call56⟩
instance : Fun Try.prog 57 := ⟨Try.call57⟩
instance : Fun Try.prog 58 := ⟨Try.call58⟩
instance : Fun Try.prog 59 := ⟨Try.call59⟩
instance : Fun Try.prog 60 := ⟨Try.call60⟩
instance : Fun Try.prog 61 := ⟨Try.call61⟩
instance : Fun Try.prog 62 := ⟨Try.call62⟩
instance : Fun Try.prog 63 := ⟨Try.call63⟩
instance : Fun Try.prog 64 := ⟨Try.call64⟩
instance : Fun Try.prog 65 := ⟨Try.call65⟩
instance : Fun Try.prog 66 := ⟨Try.call66⟩
instance : Fun Try.prog 67 := ⟨Try.call67⟩
instance : Fun Try.prog 68 := ⟨Try.call68⟩
instance : Fun Try.prog 69 := ⟨Try.call69⟩
instance : Fun Try.prog 70 := ⟨Try.call70⟩
instance : Fun Try.prog 71 := ⟨Try.call71⟩
instance : Fun Try.prog 72 := ⟨Try.call72⟩
instance : Fun Try.prog 73 := ⟨Try.call73⟩
instance : Fun Try.prog 74 := ⟨Try.call74⟩
instance : Fun Try.prog 75 := ⟨Try.call75⟩
instance : Fun Try.prog 76 := ⟨Try.call76⟩
instance : Fun Try.prog 77 := ⟨Try.call77⟩
instance : Fun Try.prog 78 := ⟨Try.call78⟩
instance : Fun Try.prog 79 := ⟨Try.call79⟩
instance : Fun Try.prog 80 := ⟨Try.call80⟩
instance : Fun Try.prog 81 := ⟨Try.call81⟩
instance : Fun Try.prog 82 := ⟨Try.call82⟩
instance : Fun Try.prog 83 := ⟨Try.call83⟩
instance : Fun Try.prog 84 := ⟨Try.call84⟩
instance : Fun Try.prog 85 := ⟨Try.call85⟩
instance : Fun Try.prog 86 := ⟨Try.call86⟩
instance : Fun Try.prog 87 := ⟨Try.call87⟩
instance : Fun Try.prog 88 := ⟨Try.call88⟩
instance : Fun Try.prog 89 := ⟨Try.call89⟩
instance : Fun Try.prog 90 := ⟨Try.call90⟩
instance : Fun Try.prog 91 := ⟨Try.call91⟩
instance : Fun Try.prog 92 := ⟨Try.call92⟩
instance : Fun Try.prog 93 := ⟨Try.call93⟩
instance : Fun Try.prog 94 := ⟨Try.call94⟩
instance : Fun Try.prog 95 := ⟨Try.call95⟩
instance : Fun Try.prog 96 := ⟨Try.call96⟩
instance : Fun Try.prog 97 := ⟨Try.call97⟩
instance : Fun Try.prog 98 := ⟨Try.call98⟩
instance : Fun Try.prog 99 := ⟨Try.call99⟩
instance : Fun Try.prog 100 := ⟨Try.call100⟩
instance : Fun Try.prog 101 := ⟨Try.call101⟩
instance : Fun Try.prog 102 := ⟨Try.call102⟩
instance : Fun Try.prog 103 := ⟨Try.call103⟩
instance : Fun Try.prog 104 := ⟨Try.call104⟩
instance : Fun Try.prog 105 := ⟨Try.call105⟩
instance : Mix Try.prog := ⟨by as_aux_lemma => kernel_rfl⟩
end Go.Tg
