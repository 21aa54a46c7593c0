/- The types and functions of this program, as the walks want them. Printed by a program of this claim (geninst.py). -/
import Derived.KernelRfl
import Derived.Test.YtbfilhaigbebpaaProg
import Derived.Test.YtbfilhaigbebpaaOps2
set_option maxRecDepth 100000
namespace Go.Tg
open Go Go.Proofs
theorem info_of {P : Program} {t : TypeId} {i : TypeInfo} (h : ∀ w, (typeInfo t).run P w = .ok i w) : P.info? t = some i := by
  have h1 := h default
  unfold typeInfo at h1
  simp only [Sem.run_bind, run_program, Result.andThen_ok] at h1
  cases hi : P.info? t with
  | none => rw [hi] at h1; cases h1
  | some j =>
    rw [hi] at h1
    have h2 : (Result.ok j default : Result TypeInfo) = .ok i default := h1
    injection h2 with h3 h4; rw [h3]
instance : Ty Try.prog 0 (TypeDesc.tuple #[]) 1 0 (Value.tuple #[]) := ⟨Try.underlying0, Try.t0, info_of Try.typeInfo0, rfl, rfl, rfl⟩
instance : Ty Try.prog 1 (TypeDesc.func #[] #[] false) 1 8 Value.nilFunc := ⟨Try.underlying1, Try.t1, info_of Try.typeInfo1, rfl, rfl, rfl⟩
instance : Ty Try.prog 2 (TypeDesc.int IntKind.i64) 1 8 (Value.int IntKind.i64 0) := ⟨Try.underlying2, Try.t2, info_of Try.typeInfo2, rfl, rfl, rfl⟩
instance : Ty Try.prog 3 (TypeDesc.int IntKind.i64) 1 8 (Value.int IntKind.i64 0) := ⟨Try.underlying3, Try.t3, info_of Try.typeInfo3, rfl, rfl, rfl⟩
instance : Ty Try.prog 4 (TypeDesc.bool) 1 1 (Value.bool false) := ⟨Try.underlying4, Try.t4, info_of Try.typeInfo4, rfl, rfl, rfl⟩
instance : Ty Try.prog 5 (TypeDesc.int IntKind.u8) 1 1 (Value.int IntKind.u8 0) := ⟨Try.underlying5, Try.t5, info_of Try.typeInfo5, rfl, rfl, rfl⟩
instance : Ty Try.prog 6 (TypeDesc.int IntKind.u8) 1 1 (Value.int IntKind.u8 0) := ⟨Try.underlying6, Try.t6, info_of Try.typeInfo6, rfl, rfl, rfl⟩
instance : Ty Try.prog 7 (TypeDesc.struct #[{ name := "x", type := 2, offset := 0, embedded := false, tag := "", pkgPath := "runtime", byteOffset := 0 }, { name := "y", type := 3, offset := 1, embedded := false, tag := "", pkgPath := "runtime", byteOffset := 8 }, { name := "signed", type := 4, offset := 2, embedded := false, tag := "", pkgPath := "runtime", byteOffset := 16 }, { name := "code", type := 6, offset := 3, embedded := false, tag := "", pkgPath := "runtime", byteOffset := 17 }]) 4 24 (Value.agg #[Value.int IntKind.i64 0, Value.int IntKind.i64 0, Value.bool false, Value.int IntKind.u8 0]) := ⟨Try.underlying7, Try.t7, info_of Try.typeInfo7, rfl, rfl, rfl⟩
instance : Fld Try.prog 7 0 0 2 := ⟨_, _, Try.underlying7, rfl, rfl, rfl⟩
instance : Fld Try.prog 7 1 1 3 := ⟨_, _, Try.underlying7, rfl, rfl, rfl⟩
instance : Fld Try.prog 7 2 2 4 := ⟨_, _, Try.underlying7, rfl, rfl, rfl⟩
instance : Fld Try.prog 7 3 3 6 := ⟨_, _, Try.underlying7, rfl, rfl, rfl⟩
instance : EqG Try.prog 7 := ⟨Try.eqGuardType7⟩
instance : Ty Try.prog 8 (TypeDesc.struct #[{ name := "x", type := 2, offset := 0, embedded := false, tag := "", pkgPath := "runtime", byteOffset := 0 }, { name := "y", type := 3, offset := 1, embedded := false, tag := "", pkgPath := "runtime", byteOffset := 8 }, { name := "signed", type := 4, offset := 2, embedded := false, tag := "", pkgPath := "runtime", byteOffset := 16 }, { name := "code", type := 6, offset := 3, embedded := false, tag := "", pkgPath := "runtime", byteOffset := 17 }]) 4 24 (Value.agg #[Value.int IntKind.i64 0, Value.int IntKind.i64 0, Value.bool false, Value.int IntKind.u8 0]) := ⟨Try.underlying8, Try.t8, info_of Try.typeInfo8, rfl, rfl, rfl⟩
instance : Fld Try.prog 8 0 0 2 := ⟨_, _, Try.underlying8, rfl, rfl, rfl⟩
instance : Fld Try.prog 8 1 1 3 := ⟨_, _, Try.underlying8, rfl, rfl, rfl⟩
instance : Fld Try.prog 8 2 2 4 := ⟨_, _, Try.underlying8, rfl, rfl, rfl⟩
instance : Fld Try.prog 8 3 3 6 := ⟨_, _, Try.underlying8, rfl, rfl, rfl⟩
instance : EqG Try.prog 8 := ⟨Try.eqGuardType8⟩
instance : Ty Try.prog 9 (TypeDesc.string) 1 16 (Value.string { data := #[] }) := ⟨Try.underlying9, Try.t9, info_of Try.typeInfo9, rfl, rfl, rfl⟩
instance : Ty Try.prog 10 (TypeDesc.string) 1 16 (Value.string { data := #[] }) := ⟨Try.underlying10, Try.t10, info_of Try.typeInfo10, rfl, rfl, rfl⟩
instance : Ty Try.prog 11 (TypeDesc.string) 1 16 (Value.string { data := #[] }) := ⟨Try.underlying11, Try.t11, info_of Try.typeInfo11, rfl, rfl, rfl⟩
instance : Ty Try.prog 12 (TypeDesc.int IntKind.u64) 1 8 (Value.int IntKind.u64 0) := ⟨Try.underlying12, Try.t12, info_of Try.typeInfo12, rfl, rfl, rfl⟩
instance : Ty Try.prog 13 (TypeDesc.struct #[{ name := "msg", type := 9, offset := 0, embedded := false, tag := "", pkgPath := "runtime", byteOffset := 0 }, { name := "addr", type := 12, offset := 1, embedded := false, tag := "", pkgPath := "runtime", byteOffset := 16 }]) 2 24 (Value.agg #[Value.string { data := #[] }, Value.int IntKind.u64 0]) := ⟨Try.underlying13, Try.t13, info_of Try.typeInfo13, rfl, rfl, rfl⟩
instance : Fld Try.prog 13 0 0 9 := ⟨_, _, Try.underlying13, rfl, rfl, rfl⟩
instance : Fld Try.prog 13 1 1 12 := ⟨_, _, Try.underlying13, rfl, rfl, rfl⟩
instance : EqG Try.prog 13 := ⟨Try.eqGuardType13⟩
instance : Ty Try.prog 14 (TypeDesc.struct #[{ name := "msg", type := 9, offset := 0, embedded := false, tag := "", pkgPath := "runtime", byteOffset := 0 }, { name := "addr", type := 12, offset := 1, embedded := false, tag := "", pkgPath := "runtime", byteOffset := 16 }]) 2 24 (Value.agg #[Value.string { data := #[] }, Value.int IntKind.u64 0]) := ⟨Try.underlying14, Try.t14, info_of Try.typeInfo14, rfl, rfl, rfl⟩
instance : Fld Try.prog 14 0 0 9 := ⟨_, _, Try.underlying14, rfl, rfl, rfl⟩
instance : Fld Try.prog 14 1 1 12 := ⟨_, _, Try.underlying14, rfl, rfl, rfl⟩
instance : EqG Try.prog 14 := ⟨Try.eqGuardType14⟩
instance : Ty Try.prog 15 (TypeDesc.pointer 151) 1 8 (Value.pointer none) := ⟨Try.underlying15, Try.t15, info_of Try.typeInfo15, rfl, rfl, rfl⟩
instance : Ty Try.prog 16 (TypeDesc.pointer 154) 1 8 (Value.pointer none) := ⟨Try.underlying16, Try.t16, info_of Try.typeInfo16, rfl, rfl, rfl⟩
instance : Ty Try.prog 17 (TypeDesc.pointer 162) 1 8 (Value.pointer none) := ⟨Try.underlying17, Try.t17, info_of Try.typeInfo17, rfl, rfl, rfl⟩
instance : Ty Try.prog 18 (TypeDesc.struct #[{ name := "typ", type := 17, offset := 0, embedded := false, tag := "", pkgPath := "internal/runtime/maps", byteOffset := 0 }]) 1 8 (Value.agg #[Value.pointer none]) := ⟨Try.underlying18, Try.t18, info_of Try.typeInfo18, rfl, rfl, rfl⟩
instance : Fld Try.prog 18 0 0 17 := ⟨_, _, Try.underlying18, rfl, rfl, rfl⟩
instance : EqG Try.prog 18 := ⟨Try.eqGuardType18⟩
instance : Ty Try.prog 19 (TypeDesc.struct #[{ name := "typ", type := 17, offset := 0, embedded := false, tag := "", pkgPath := "internal/runtime/maps", byteOffset := 0 }]) 1 8 (Value.agg #[Value.pointer none]) := ⟨Try.underlying19, Try.t19, info_of Try.typeInfo19, rfl, rfl, rfl⟩
instance : Fld Try.prog 19 0 0 17 := ⟨_, _, Try.underlying19, rfl, rfl, rfl⟩
instance : EqG Try.prog 19 := ⟨Try.eqGuardType19⟩
instance : Ty Try.prog 20 (TypeDesc.interface #[]) 1 16 Value.nilIface := ⟨Try.underlying20, Try.t20, info_of Try.typeInfo20, rfl, rfl, rfl⟩
instance : Ty Try.prog 21 (TypeDesc.int IntKind.i32) 1 4 (Value.int IntKind.i32 0) := ⟨Try.underlying21, Try.t21, info_of Try.typeInfo21, rfl, rfl, rfl⟩
instance : Ty Try.prog 22 (TypeDesc.slice 36) 1 24 (Value.slice none 0 0) := ⟨Try.underlying22, Try.t22, info_of Try.typeInfo22, rfl, rfl, rfl⟩
instance : Ty Try.prog 23 (TypeDesc.int IntKind.u16) 1 2 (Value.int IntKind.u16 0) := ⟨Try.underlying23, Try.t23, info_of Try.typeInfo23, rfl, rfl, rfl⟩
instance : Ty Try.prog 24 (TypeDesc.int IntKind.u32) 1 4 (Value.int IntKind.u32 0) := ⟨Try.underlying24, Try.t24, info_of Try.typeInfo24, rfl, rfl, rfl⟩
instance : Ty Try.prog 25 (TypeDesc.struct #[{ name := "Rep", type := 5, offset := 0, embedded := false, tag := "", pkgPath := "", byteOffset := 0 }, { name := "Seq", type := 24, offset := 1, embedded := false, tag := "", pkgPath := "", byteOffset := 4 }]) 2 8 (Value.agg #[Value.int IntKind.u8 0, Value.int IntKind.u32 0]) := ⟨Try.underlying25, Try.t25, info_of Try.typeInfo25, rfl, rfl, rfl⟩
instance : Fld Try.prog 25 0 0 5 := ⟨_, _, Try.underlying25, rfl, rfl, rfl⟩
instance : Fld Try.prog 25 1 1 24 := ⟨_, _, Try.underlying25, rfl, rfl, rfl⟩
instance : EqG Try.prog 25 := ⟨Try.eqGuardType25⟩
instance : Ty Try.prog 26 (TypeDesc.struct #[{ name := "Rep", type := 5, offset := 0, embedded := false, tag := "", pkgPath := "", byteOffset := 0 }, { name := "Seq", type := 24, offset := 1, embedded := false, tag := "", pkgPath := "", byteOffset := 4 }]) 2 8 (Value.agg #[Value.int IntKind.u8 0, Value.int IntKind.u32 0]) := ⟨Try.underlying26, Try.t26, info_of Try.typeInfo26, rfl, rfl, rfl⟩
instance : Fld Try.prog 26 0 0 5 := ⟨_, _, Try.underlying26, rfl, rfl, rfl⟩
instance : Fld Try.prog 26 1 1 24 := ⟨_, _, Try.underlying26, rfl, rfl, rfl⟩
instance : EqG Try.prog 26 := ⟨Try.eqGuardType26⟩
instance : Ty Try.prog 27 (TypeDesc.struct #[{ name := "Cart", type := 23, offset := 0, embedded := false, tag := "", pkgPath := "", byteOffset := 0 }, { name := "Dot", type := 26, offset := 1, embedded := false, tag := "", pkgPath := "", byteOffset := 4 }]) 3 12 (Value.agg #[Value.int IntKind.u16 0, Value.int IntKind.u8 0, Value.int IntKind.u32 0]) := ⟨Try.underlying27, Try.t27, info_of Try.typeInfo27, rfl, rfl, rfl⟩
instance : Fld Try.prog 27 0 0 23 := ⟨_, _, Try.underlying27, rfl, rfl, rfl⟩
instance : Fld Try.prog 27 1 1 26 := ⟨_, _, Try.underlying27, rfl, rfl, rfl⟩
instance : EqG Try.prog 27 := ⟨Try.eqGuardType27⟩
instance : Ty Try.prog 28 (TypeDesc.struct #[{ name := "Cart", type := 23, offset := 0, embedded := false, tag := "", pkgPath := "", byteOffset := 0 }, { name := "Dot", type := 26, offset := 1, embedded := false, tag := "", pkgPath := "", byteOffset := 4 }]) 3 12 (Value.agg #[Value.int IntKind.u16 0, Value.int IntKind.u8 0, Value.int IntKind.u32 0]) := ⟨Try.underlying28, Try.t28, info_of Try.typeInfo28, rfl, rfl, rfl⟩
instance : Fld Try.prog 28 0 0 23 := ⟨_, _, Try.underlying28, rfl, rfl, rfl⟩
instance : Fld Try.prog 28 1 1 26 := ⟨_, _, Try.underlying28, rfl, rfl, rfl⟩
instance : EqG Try.prog 28 := ⟨Try.eqGuardType28⟩
instance : Ty Try.prog 29 (TypeDesc.func #[] #[4] false) 1 8 Value.nilFunc := ⟨Try.underlying29, Try.t29, info_of Try.typeInfo29, rfl, rfl, rfl⟩
instance : Ty Try.prog 30 (TypeDesc.pointer 76) 1 8 (Value.pointer none) := ⟨Try.underlying30, Try.t30, info_of Try.typeInfo30, rfl, rfl, rfl⟩
instance : Ty Try.prog 31 (TypeDesc.func #[] #[30] false) 1 8 Value.nilFunc := ⟨Try.underlying31, Try.t31, info_of Try.typeInfo31, rfl, rfl, rfl⟩
instance : Ty Try.prog 32 (TypeDesc.slice 46) 1 24 (Value.slice none 0 0) := ⟨Try.underlying32, Try.t32, info_of Try.typeInfo32, rfl, rfl, rfl⟩
instance : Ty Try.prog 33 (TypeDesc.struct #[{ name := "Seg", type := 24, offset := 0, embedded := false, tag := "", pkgPath := "", byteOffset := 0 }, { name := "At", type := 24, offset := 1, embedded := false, tag := "", pkgPath := "", byteOffset := 4 }]) 2 8 (Value.agg #[Value.int IntKind.u32 0, Value.int IntKind.u32 0]) := ⟨Try.underlying33, Try.t33, info_of Try.typeInfo33, rfl, rfl, rfl⟩
instance : Fld Try.prog 33 0 0 24 := ⟨_, _, Try.underlying33, rfl, rfl, rfl⟩
instance : Fld Try.prog 33 1 1 24 := ⟨_, _, Try.underlying33, rfl, rfl, rfl⟩
instance : EqG Try.prog 33 := ⟨Try.eqGuardType33⟩
instance : Ty Try.prog 34 (TypeDesc.struct #[{ name := "Seg", type := 24, offset := 0, embedded := false, tag := "", pkgPath := "", byteOffset := 0 }, { name := "At", type := 24, offset := 1, embedded := false, tag := "", pkgPath := "", byteOffset := 4 }]) 2 8 (Value.agg #[Value.int IntKind.u32 0, Value.int IntKind.u32 0]) := ⟨Try.underlying34, Try.t34, info_of Try.typeInfo34, rfl, rfl, rfl⟩
instance : Fld Try.prog 34 0 0 24 := ⟨_, _, Try.underlying34, rfl, rfl, rfl⟩
instance : Fld Try.prog 34 1 1 24 := ⟨_, _, Try.underlying34, rfl, rfl, rfl⟩
instance : EqG Try.prog 34 := ⟨Try.eqGuardType34⟩
instance : Ty Try.prog 35 (TypeDesc.struct #[{ name := "Kind", type := 5, offset := 0, embedded := false, tag := "", pkgPath := "", byteOffset := 0 }, { name := "Key", type := 28, offset := 1, embedded := false, tag := "", pkgPath := "", byteOffset := 4 }, { name := "Loc", type := 34, offset := 4, embedded := false, tag := "", pkgPath := "", byteOffset := 16 }]) 6 24 (Value.agg #[Value.int IntKind.u8 0, Value.int IntKind.u16 0, Value.int IntKind.u8 0, Value.int IntKind.u32 0, Value.int IntKind.u32 0, Value.int IntKind.u32 0]) := ⟨Try.underlying35, Try.t35, info_of Try.typeInfo35, rfl, rfl, rfl⟩
instance : Fld Try.prog 35 0 0 5 := ⟨_, _, Try.underlying35, rfl, rfl, rfl⟩
instance : Fld Try.prog 35 1 1 28 := ⟨_, _, Try.underlying35, rfl, rfl, rfl⟩
instance : Fld Try.prog 35 2 4 34 := ⟨_, _, Try.underlying35, rfl, rfl, rfl⟩
instance : EqG Try.prog 35 := ⟨Try.eqGuardType35⟩
instance : Ty Try.prog 36 (TypeDesc.struct #[{ name := "Kind", type := 5, offset := 0, embedded := false, tag := "", pkgPath := "", byteOffset := 0 }, { name := "Key", type := 28, offset := 1, embedded := false, tag := "", pkgPath := "", byteOffset := 4 }, { name := "Loc", type := 34, offset := 4, embedded := false, tag := "", pkgPath := "", byteOffset := 16 }]) 6 24 (Value.agg #[Value.int IntKind.u8 0, Value.int IntKind.u16 0, Value.int IntKind.u8 0, Value.int IntKind.u32 0, Value.int IntKind.u32 0, Value.int IntKind.u32 0]) := ⟨Try.underlying36, Try.t36, info_of Try.typeInfo36, rfl, rfl, rfl⟩
instance : Fld Try.prog 36 0 0 5 := ⟨_, _, Try.underlying36, rfl, rfl, rfl⟩
instance : Fld Try.prog 36 1 1 28 := ⟨_, _, Try.underlying36, rfl, rfl, rfl⟩
instance : Fld Try.prog 36 2 4 34 := ⟨_, _, Try.underlying36, rfl, rfl, rfl⟩
instance : EqG Try.prog 36 := ⟨Try.eqGuardType36⟩
instance : Ty Try.prog 37 (TypeDesc.func #[] #[24] false) 1 8 Value.nilFunc := ⟨Try.underlying37, Try.t37, info_of Try.typeInfo37, rfl, rfl, rfl⟩
instance : Ty Try.prog 38 (TypeDesc.int IntKind.i64) 1 8 (Value.int IntKind.i64 0) := ⟨Try.underlying38, Try.t38, info_of Try.typeInfo38, rfl, rfl, rfl⟩
instance : Ty Try.prog 39 (TypeDesc.tuple #[32, 3]) 1 0 (Value.tuple #[Value.slice none 0 0, Value.int IntKind.i64 0]) := ⟨Try.underlying39, Try.t39, info_of Try.typeInfo39, rfl, rfl, rfl⟩
instance : Ty Try.prog 40 (TypeDesc.func #[32, 28] #[32, 3] false) 1 8 Value.nilFunc := ⟨Try.underlying40, Try.t40, info_of Try.typeInfo40, rfl, rfl, rfl⟩
instance : Ty Try.prog 41 (TypeDesc.func #[42] #[38] false) 1 8 Value.nilFunc := ⟨Try.underlying41, Try.t41, info_of Try.typeInfo41, rfl, rfl, rfl⟩
instance : Ty Try.prog 42 (TypeDesc.struct #[{ name := "Cart", type := 23, offset := 0, embedded := false, tag := "", pkgPath := "", byteOffset := 0 }, { name := "Dot", type := 26, offset := 1, embedded := false, tag := "", pkgPath := "", byteOffset := 4 }]) 3 12 (Value.agg #[Value.int IntKind.u16 0, Value.int IntKind.u8 0, Value.int IntKind.u32 0]) := ⟨Try.underlying42, Try.t42, info_of Try.typeInfo42, rfl, rfl, rfl⟩
instance : Fld Try.prog 42 0 0 23 := ⟨_, _, Try.underlying42, rfl, rfl, rfl⟩
instance : Fld Try.prog 42 1 1 26 := ⟨_, _, Try.underlying42, rfl, rfl, rfl⟩
instance : EqG Try.prog 42 := ⟨Try.eqGuardType42⟩
instance : Ty Try.prog 43 (TypeDesc.func #[] #[3] false) 1 8 Value.nilFunc := ⟨Try.underlying43, Try.t43, info_of Try.typeInfo43, rfl, rfl, rfl⟩
instance : Ty Try.prog 44 (TypeDesc.func #[32, 46] #[32, 3] false) 1 8 Value.nilFunc := ⟨Try.underlying44, Try.t44, info_of Try.typeInfo44, rfl, rfl, rfl⟩
instance : Ty Try.prog 45 (TypeDesc.struct #[{ name := "Key", type := 28, offset := 0, embedded := false, tag := "", pkgPath := "", byteOffset := 0 }, { name := "Loc", type := 34, offset := 3, embedded := false, tag := "", pkgPath := "", byteOffset := 12 }]) 5 20 (Value.agg #[Value.int IntKind.u16 0, Value.int IntKind.u8 0, Value.int IntKind.u32 0, Value.int IntKind.u32 0, Value.int IntKind.u32 0]) := ⟨Try.underlying45, Try.t45, info_of Try.typeInfo45, rfl, rfl, rfl⟩
instance : Fld Try.prog 45 0 0 28 := ⟨_, _, Try.underlying45, rfl, rfl, rfl⟩
instance : Fld Try.prog 45 1 3 34 := ⟨_, _, Try.underlying45, rfl, rfl, rfl⟩
instance : EqG Try.prog 45 := ⟨Try.eqGuardType45⟩
instance : Ty Try.prog 46 (TypeDesc.struct #[{ name := "Key", type := 28, offset := 0, embedded := false, tag := "", pkgPath := "", byteOffset := 0 }, { name := "Loc", type := 34, offset := 3, embedded := false, tag := "", pkgPath := "", byteOffset := 12 }]) 5 20 (Value.agg #[Value.int IntKind.u16 0, Value.int IntKind.u8 0, Value.int IntKind.u32 0, Value.int IntKind.u32 0, Value.int IntKind.u32 0]) := ⟨Try.underlying46, Try.t46, info_of Try.typeInfo46, rfl, rfl, rfl⟩
instance : Fld Try.prog 46 0 0 28 := ⟨_, _, Try.underlying46, rfl, rfl, rfl⟩
instance : Fld Try.prog 46 1 3 34 := ⟨_, _, Try.underlying46, rfl, rfl, rfl⟩
instance : EqG Try.prog 46 := ⟨Try.eqGuardType46⟩
instance : Ty Try.prog 47 (TypeDesc.func #[50] #[38] false) 1 8 Value.nilFunc := ⟨Try.underlying47, Try.t47, info_of Try.typeInfo47, rfl, rfl, rfl⟩
instance : Ty Try.prog 48 (TypeDesc.struct #[{ name := "Seg", type := 24, offset := 0, embedded := false, tag := "", pkgPath := "", byteOffset := 0 }, { name := "At", type := 24, offset := 1, embedded := false, tag := "", pkgPath := "", byteOffset := 4 }]) 2 8 (Value.agg #[Value.int IntKind.u32 0, Value.int IntKind.u32 0]) := ⟨Try.underlying48, Try.t48, info_of Try.typeInfo48, rfl, rfl, rfl⟩
instance : Fld Try.prog 48 0 0 24 := ⟨_, _, Try.underlying48, rfl, rfl, rfl⟩
instance : Fld Try.prog 48 1 1 24 := ⟨_, _, Try.underlying48, rfl, rfl, rfl⟩
instance : EqG Try.prog 48 := ⟨Try.eqGuardType48⟩
instance : Ty Try.prog 49 (TypeDesc.struct #[{ name := "Key", type := 42, offset := 0, embedded := false, tag := "", pkgPath := "", byteOffset := 0 }, { name := "Loc", type := 48, offset := 3, embedded := false, tag := "", pkgPath := "", byteOffset := 12 }]) 5 20 (Value.agg #[Value.int IntKind.u16 0, Value.int IntKind.u8 0, Value.int IntKind.u32 0, Value.int IntKind.u32 0, Value.int IntKind.u32 0]) := ⟨Try.underlying49, Try.t49, info_of Try.typeInfo49, rfl, rfl, rfl⟩
instance : Fld Try.prog 49 0 0 42 := ⟨_, _, Try.underlying49, rfl, rfl, rfl⟩
instance : Fld Try.prog 49 1 3 48 := ⟨_, _, Try.underlying49, rfl, rfl, rfl⟩
instance : EqG Try.prog 49 := ⟨Try.eqGuardType49⟩
instance : Ty Try.prog 50 (TypeDesc.struct #[{ name := "Key", type := 42, offset := 0, embedded := false, tag := "", pkgPath := "", byteOffset := 0 }, { name := "Loc", type := 48, offset := 3, embedded := false, tag := "", pkgPath := "", byteOffset := 12 }]) 5 20 (Value.agg #[Value.int IntKind.u16 0, Value.int IntKind.u8 0, Value.int IntKind.u32 0, Value.int IntKind.u32 0, Value.int IntKind.u32 0]) := ⟨Try.underlying50, Try.t50, info_of Try.typeInfo50, rfl, rfl, rfl⟩
instance : Fld Try.prog 50 0 0 42 := ⟨_, _, Try.underlying50, rfl, rfl, rfl⟩
instance : Fld Try.prog 50 1 3 48 := ⟨_, _, Try.underlying50, rfl, rfl, rfl⟩
instance : EqG Try.prog 50 := ⟨Try.eqGuardType50⟩
instance : Ty Try.prog 51 (TypeDesc.func #[36] #[50] false) 1 8 Value.nilFunc := ⟨Try.underlying51, Try.t51, info_of Try.typeInfo51, rfl, rfl, rfl⟩
instance : Ty Try.prog 52 (TypeDesc.tuple #[48, 38]) 1 0 (Value.tuple #[Value.agg #[Value.int IntKind.u32 0, Value.int IntKind.u32 0], Value.int IntKind.i64 0]) := ⟨Try.underlying52, Try.t52, info_of Try.typeInfo52, rfl, rfl, rfl⟩
instance : Ty Try.prog 53 (TypeDesc.func #[42] #[48, 38] false) 1 8 Value.nilFunc := ⟨Try.underlying53, Try.t53, info_of Try.typeInfo53, rfl, rfl, rfl⟩
instance : Ty Try.prog 54 (TypeDesc.tuple #[34, 3]) 1 0 (Value.tuple #[Value.agg #[Value.int IntKind.u32 0, Value.int IntKind.u32 0], Value.int IntKind.i64 0]) := ⟨Try.underlying54, Try.t54, info_of Try.typeInfo54, rfl, rfl, rfl⟩
instance : Ty Try.prog 55 (TypeDesc.func #[32, 28] #[34, 3] false) 1 8 Value.nilFunc := ⟨Try.underlying55, Try.t55, info_of Try.typeInfo55, rfl, rfl, rfl⟩
instance : Ty Try.prog 56 (TypeDesc.func #[57, 32] #[4] false) 1 8 Value.nilFunc := ⟨Try.underlying56, Try.t56, info_of Try.typeInfo56, rfl, rfl, rfl⟩
instance : Ty Try.prog 57 (TypeDesc.slice 50) 1 24 (Value.slice none 0 0) := ⟨Try.underlying57, Try.t57, info_of Try.typeInfo57, rfl, rfl, rfl⟩
instance : Ty Try.prog 58 (TypeDesc.func #[42, 42] #[57] false) 1 8 Value.nilFunc := ⟨Try.underlying58, Try.t58, info_of Try.typeInfo58, rfl, rfl, rfl⟩
instance : Ty Try.prog 59 (TypeDesc.func #[32, 28, 28] #[32] false) 1 8 Value.nilFunc := ⟨Try.underlying59, Try.t59, info_of Try.typeInfo59, rfl, rfl, rfl⟩
instance : Ty Try.prog 60 (TypeDesc.tuple #[57, 38]) 1 0 (Value.tuple #[Value.slice none 0 0, Value.int IntKind.i64 0]) := ⟨Try.underlying60, Try.t60, info_of Try.typeInfo60, rfl, rfl, rfl⟩
instance : Ty Try.prog 61 (TypeDesc.func #[24] #[57, 38] false) 1 8 Value.nilFunc := ⟨Try.underlying61, Try.t61, info_of Try.typeInfo61, rfl, rfl, rfl⟩
instance : Ty Try.prog 62 (TypeDesc.func #[] #[42] false) 1 8 Value.nilFunc := ⟨Try.underlying62, Try.t62, info_of Try.typeInfo62, rfl, rfl, rfl⟩
instance : Ty Try.prog 63 (TypeDesc.func #[22, 28, 28] #[4] false) 1 8 Value.nilFunc := ⟨Try.underlying63, Try.t63, info_of Try.typeInfo63, rfl, rfl, rfl⟩
instance : Ty Try.prog 64 (TypeDesc.slice 85) 1 24 (Value.slice none 0 0) := ⟨Try.underlying64, Try.t64, info_of Try.typeInfo64, rfl, rfl, rfl⟩
instance : Ty Try.prog 65 (TypeDesc.tuple #[64, 38]) 1 0 (Value.tuple #[Value.slice none 0 0, Value.int IntKind.i64 0]) := ⟨Try.underlying65, Try.t65, info_of Try.typeInfo65, rfl, rfl, rfl⟩
instance : Ty Try.prog 66 (TypeDesc.func #[24] #[64, 38] false) 1 8 Value.nilFunc := ⟨Try.underlying66, Try.t66, info_of Try.typeInfo66, rfl, rfl, rfl⟩
instance : Ty Try.prog 67 (TypeDesc.tuple #[3, 3, 42, 4]) 1 0 (Value.tuple #[Value.int IntKind.i64 0, Value.int IntKind.i64 0, Value.agg #[Value.int IntKind.u16 0, Value.int IntKind.u8 0, Value.int IntKind.u32 0], Value.bool false]) := ⟨Try.underlying67, Try.t67, info_of Try.typeInfo67, rfl, rfl, rfl⟩
instance : Ty Try.prog 68 (TypeDesc.func #[64, 4] #[3, 3, 42, 4] false) 1 8 Value.nilFunc := ⟨Try.underlying68, Try.t68, info_of Try.typeInfo68, rfl, rfl, rfl⟩
instance : Ty Try.prog 69 (TypeDesc.func #[22] #[4] false) 1 8 Value.nilFunc := ⟨Try.underlying69, Try.t69, info_of Try.typeInfo69, rfl, rfl, rfl⟩
instance : Ty Try.prog 70 (TypeDesc.struct #[{ name := "root", type := 24, offset := 0, embedded := false, tag := "", pkgPath := "trug/truglaw14", byteOffset := 0 }, { name := "items", type := 57, offset := 1, embedded := false, tag := "", pkgPath := "trug/truglaw14", byteOffset := 8 }]) 2 32 (Value.agg #[Value.int IntKind.u32 0, Value.slice none 0 0]) := ⟨Try.underlying70, Try.t70, info_of Try.typeInfo70, rfl, rfl, rfl⟩
instance : Fld Try.prog 70 0 0 24 := ⟨_, _, Try.underlying70, rfl, rfl, rfl⟩
instance : Fld Try.prog 70 1 1 57 := ⟨_, _, Try.underlying70, rfl, rfl, rfl⟩
instance : EqG Try.prog 70 := ⟨Try.eqGuardType70⟩
instance : Ty Try.prog 71 (TypeDesc.struct #[{ name := "root", type := 24, offset := 0, embedded := false, tag := "", pkgPath := "trug/truglaw14", byteOffset := 0 }, { name := "items", type := 57, offset := 1, embedded := false, tag := "", pkgPath := "trug/truglaw14", byteOffset := 8 }]) 2 32 (Value.agg #[Value.int IntKind.u32 0, Value.slice none 0 0]) := ⟨Try.underlying71, Try.t71, info_of Try.typeInfo71, rfl, rfl, rfl⟩
instance : Fld Try.prog 71 0 0 24 := ⟨_, _, Try.underlying71, rfl, rfl, rfl⟩
instance : Fld Try.prog 71 1 1 57 := ⟨_, _, Try.underlying71, rfl, rfl, rfl⟩
instance : EqG Try.prog 71 := ⟨Try.eqGuardType71⟩
instance : Ty Try.prog 72 (TypeDesc.slice 71) 1 24 (Value.slice none 0 0) := ⟨Try.underlying72, Try.t72, info_of Try.typeInfo72, rfl, rfl, rfl⟩
instance : Ty Try.prog 73 (TypeDesc.map 24 85) 1 8 (Value.map none) := ⟨Try.underlying73, Try.t73, info_of Try.typeInfo73, rfl, rfl, rfl⟩
instance : Ty Try.prog 74 (TypeDesc.map 24 3) 1 8 (Value.map none) := ⟨Try.underlying74, Try.t74, info_of Try.typeInfo74, rfl, rfl, rfl⟩
instance : Ty Try.prog 75 (TypeDesc.struct #[{ name := "pages", type := 73, offset := 0, embedded := false, tag := "", pkgPath := "trug/tree", byteOffset := 0 }, { name := "roots", type := 74, offset := 1, embedded := false, tag := "", pkgPath := "trug/tree", byteOffset := 8 }, { name := "root", type := 24, offset := 2, embedded := false, tag := "", pkgPath := "trug/tree", byteOffset := 16 }, { name := "next", type := 24, offset := 3, embedded := false, tag := "", pkgPath := "trug/tree", byteOffset := 20 }]) 4 24 (Value.agg #[Value.map none, Value.map none, Value.int IntKind.u32 0, Value.int IntKind.u32 0]) := ⟨Try.underlying75, Try.t75, info_of Try.typeInfo75, rfl, rfl, rfl⟩
instance : Fld Try.prog 75 0 0 73 := ⟨_, _, Try.underlying75, rfl, rfl, rfl⟩
instance : Fld Try.prog 75 1 1 74 := ⟨_, _, Try.underlying75, rfl, rfl, rfl⟩
instance : Fld Try.prog 75 2 2 24 := ⟨_, _, Try.underlying75, rfl, rfl, rfl⟩
instance : Fld Try.prog 75 3 3 24 := ⟨_, _, Try.underlying75, rfl, rfl, rfl⟩
instance : EqG Try.prog 75 := ⟨Try.eqGuardType75⟩
instance : Ty Try.prog 76 (TypeDesc.struct #[{ name := "pages", type := 73, offset := 0, embedded := false, tag := "", pkgPath := "trug/tree", byteOffset := 0 }, { name := "roots", type := 74, offset := 1, embedded := false, tag := "", pkgPath := "trug/tree", byteOffset := 8 }, { name := "root", type := 24, offset := 2, embedded := false, tag := "", pkgPath := "trug/tree", byteOffset := 16 }, { name := "next", type := 24, offset := 3, embedded := false, tag := "", pkgPath := "trug/tree", byteOffset := 20 }]) 4 24 (Value.agg #[Value.map none, Value.map none, Value.int IntKind.u32 0, Value.int IntKind.u32 0]) := ⟨Try.underlying76, Try.t76, info_of Try.typeInfo76, rfl, rfl, rfl⟩
instance : Fld Try.prog 76 0 0 73 := ⟨_, _, Try.underlying76, rfl, rfl, rfl⟩
instance : Fld Try.prog 76 1 1 74 := ⟨_, _, Try.underlying76, rfl, rfl, rfl⟩
instance : Fld Try.prog 76 2 2 24 := ⟨_, _, Try.underlying76, rfl, rfl, rfl⟩
instance : Fld Try.prog 76 3 3 24 := ⟨_, _, Try.underlying76, rfl, rfl, rfl⟩
instance : EqG Try.prog 76 := ⟨Try.eqGuardType76⟩
instance : Ty Try.prog 77 (TypeDesc.slice 30) 1 24 (Value.slice none 0 0) := ⟨Try.underlying77, Try.t77, info_of Try.typeInfo77, rfl, rfl, rfl⟩
instance : Ty Try.prog 78 (TypeDesc.func #[36, 24] #[4] false) 1 8 Value.nilFunc := ⟨Try.underlying78, Try.t78, info_of Try.typeInfo78, rfl, rfl, rfl⟩
instance : Ty Try.prog 79 (TypeDesc.func #[24, 3] #[] false) 1 8 Value.nilFunc := ⟨Try.underlying79, Try.t79, info_of Try.typeInfo79, rfl, rfl, rfl⟩
instance : Ty Try.prog 80 (TypeDesc.func #[85] #[24] false) 1 8 Value.nilFunc := ⟨Try.underlying80, Try.t80, info_of Try.typeInfo80, rfl, rfl, rfl⟩
instance : Ty Try.prog 81 (TypeDesc.slice 42) 1 24 (Value.slice none 0 0) := ⟨Try.underlying81, Try.t81, info_of Try.typeInfo81, rfl, rfl, rfl⟩
instance : Ty Try.prog 82 (TypeDesc.slice 48) 1 24 (Value.slice none 0 0) := ⟨Try.underlying82, Try.t82, info_of Try.typeInfo82, rfl, rfl, rfl⟩
instance : Ty Try.prog 83 (TypeDesc.slice 24) 1 24 (Value.slice none 0 0) := ⟨Try.underlying83, Try.t83, info_of Try.typeInfo83, rfl, rfl, rfl⟩
instance : Ty Try.prog 84 (TypeDesc.struct #[{ name := "Leaf", type := 4, offset := 0, embedded := false, tag := "", pkgPath := "", byteOffset := 0 }, { name := "Keys", type := 81, offset := 1, embedded := false, tag := "", pkgPath := "", byteOffset := 8 }, { name := "Locs", type := 82, offset := 2, embedded := false, tag := "", pkgPath := "", byteOffset := 32 }, { name := "Kids", type := 83, offset := 3, embedded := false, tag := "", pkgPath := "", byteOffset := 56 }]) 4 80 (Value.agg #[Value.bool false, Value.slice none 0 0, Value.slice none 0 0, Value.slice none 0 0]) := ⟨Try.underlying84, Try.t84, info_of Try.typeInfo84, rfl, rfl, rfl⟩
instance : Fld Try.prog 84 0 0 4 := ⟨_, _, Try.underlying84, rfl, rfl, rfl⟩
instance : Fld Try.prog 84 1 1 81 := ⟨_, _, Try.underlying84, rfl, rfl, rfl⟩
instance : Fld Try.prog 84 2 2 82 := ⟨_, _, Try.underlying84, rfl, rfl, rfl⟩
instance : Fld Try.prog 84 3 3 83 := ⟨_, _, Try.underlying84, rfl, rfl, rfl⟩
instance : EqG Try.prog 84 := ⟨Try.eqGuardType84⟩
instance : Ty Try.prog 85 (TypeDesc.struct #[{ name := "Leaf", type := 4, offset := 0, embedded := false, tag := "", pkgPath := "", byteOffset := 0 }, { name := "Keys", type := 81, offset := 1, embedded := false, tag := "", pkgPath := "", byteOffset := 8 }, { name := "Locs", type := 82, offset := 2, embedded := false, tag := "", pkgPath := "", byteOffset := 32 }, { name := "Kids", type := 83, offset := 3, embedded := false, tag := "", pkgPath := "", byteOffset := 56 }]) 4 80 (Value.agg #[Value.bool false, Value.slice none 0 0, Value.slice none 0 0, Value.slice none 0 0]) := ⟨Try.underlying85, Try.t85, info_of Try.typeInfo85, rfl, rfl, rfl⟩
instance : Fld Try.prog 85 0 0 4 := ⟨_, _, Try.underlying85, rfl, rfl, rfl⟩
instance : Fld Try.prog 85 1 1 81 := ⟨_, _, Try.underlying85, rfl, rfl, rfl⟩
instance : Fld Try.prog 85 2 2 82 := ⟨_, _, Try.underlying85, rfl, rfl, rfl⟩
instance : Fld Try.prog 85 3 3 83 := ⟨_, _, Try.underlying85, rfl, rfl, rfl⟩
instance : EqG Try.prog 85 := ⟨Try.eqGuardType85⟩
instance : Ty Try.prog 86 (TypeDesc.func #[32, 28] #[3] false) 1 8 Value.nilFunc := ⟨Try.underlying86, Try.t86, info_of Try.typeInfo86, rfl, rfl, rfl⟩
instance : Ty Try.prog 87 (TypeDesc.func #[88, 3] #[] false) 1 8 Value.nilFunc := ⟨Try.underlying87, Try.t87, info_of Try.typeInfo87, rfl, rfl, rfl⟩
instance : Ty Try.prog 88 (TypeDesc.slice 115) 1 24 (Value.slice none 0 0) := ⟨Try.underlying88, Try.t88, info_of Try.typeInfo88, rfl, rfl, rfl⟩
instance : Ty Try.prog 89 (TypeDesc.func #[24, 42, 95] #[88] false) 1 8 Value.nilFunc := ⟨Try.underlying89, Try.t89, info_of Try.typeInfo89, rfl, rfl, rfl⟩
instance : Ty Try.prog 90 (TypeDesc.pointer 85) 1 8 (Value.pointer none) := ⟨Try.underlying90, Try.t90, info_of Try.typeInfo90, rfl, rfl, rfl⟩
instance : Ty Try.prog 91 (TypeDesc.tuple #[3, 4]) 1 0 (Value.tuple #[Value.int IntKind.i64 0, Value.bool false]) := ⟨Try.underlying91, Try.t91, info_of Try.typeInfo91, rfl, rfl, rfl⟩
instance : Ty Try.prog 92 (TypeDesc.func #[85, 42] #[3, 4] false) 1 8 Value.nilFunc := ⟨Try.underlying92, Try.t92, info_of Try.typeInfo92, rfl, rfl, rfl⟩
instance : Ty Try.prog 93 (TypeDesc.func #[81, 3, 3] #[81] false) 1 8 Value.nilFunc := ⟨Try.underlying93, Try.t93, info_of Try.typeInfo93, rfl, rfl, rfl⟩
instance : Ty Try.prog 94 (TypeDesc.func #[82, 3, 3] #[82] false) 1 8 Value.nilFunc := ⟨Try.underlying94, Try.t94, info_of Try.typeInfo94, rfl, rfl, rfl⟩
instance : Ty Try.prog 95 (TypeDesc.func #[90] #[] false) 1 8 Value.nilFunc := ⟨Try.underlying95, Try.t95, info_of Try.typeInfo95, rfl, rfl, rfl⟩
instance : Ty Try.prog 96 (TypeDesc.func #[24] #[83] false) 1 8 Value.nilFunc := ⟨Try.underlying96, Try.t96, info_of Try.typeInfo96, rfl, rfl, rfl⟩
instance : Ty Try.prog 97 (TypeDesc.func #[28, 28] #[4] false) 1 8 Value.nilFunc := ⟨Try.underlying97, Try.t97, info_of Try.typeInfo97, rfl, rfl, rfl⟩
instance : Ty Try.prog 98 (TypeDesc.func #[81, 3, 81] #[81] true) 1 8 Value.nilFunc := ⟨Try.underlying98, Try.t98, info_of Try.typeInfo98, rfl, rfl, rfl⟩
instance : Ty Try.prog 99 (TypeDesc.func #[82, 3, 82] #[82] true) 1 8 Value.nilFunc := ⟨Try.underlying99, Try.t99, info_of Try.typeInfo99, rfl, rfl, rfl⟩
instance : Ty Try.prog 100 (TypeDesc.func #[42] #[85] false) 1 8 Value.nilFunc := ⟨Try.underlying100, Try.t100, info_of Try.typeInfo100, rfl, rfl, rfl⟩
instance : Ty Try.prog 101 (TypeDesc.func #[126] #[] false) 1 8 Value.nilFunc := ⟨Try.underlying101, Try.t101, info_of Try.typeInfo101, rfl, rfl, rfl⟩
instance : Ty Try.prog 102 (TypeDesc.func #[126] #[] false) 1 8 Value.nilFunc := ⟨Try.underlying102, Try.t102, info_of Try.typeInfo102, rfl, rfl, rfl⟩
instance : Ty Try.prog 103 (TypeDesc.func #[24] #[102] false) 1 8 Value.nilFunc := ⟨Try.underlying103, Try.t103, info_of Try.typeInfo103, rfl, rfl, rfl⟩
instance : Ty Try.prog 104 (TypeDesc.func #[42, 42] #[4] false) 1 8 Value.nilFunc := ⟨Try.underlying104, Try.t104, info_of Try.typeInfo104, rfl, rfl, rfl⟩
instance : Ty Try.prog 105 (TypeDesc.func #[24] #[38] false) 1 8 Value.nilFunc := ⟨Try.underlying105, Try.t105, info_of Try.typeInfo105, rfl, rfl, rfl⟩
instance : Ty Try.prog 106 (TypeDesc.func #[102] #[57] false) 1 8 Value.nilFunc := ⟨Try.underlying106, Try.t106, info_of Try.typeInfo106, rfl, rfl, rfl⟩
instance : Ty Try.prog 107 (TypeDesc.func #[85] #[85] false) 1 8 Value.nilFunc := ⟨Try.underlying107, Try.t107, info_of Try.typeInfo107, rfl, rfl, rfl⟩
instance : Ty Try.prog 108 (TypeDesc.func #[112] #[4] false) 1 8 Value.nilFunc := ⟨Try.underlying108, Try.t108, info_of Try.typeInfo108, rfl, rfl, rfl⟩
instance : Ty Try.prog 109 (TypeDesc.slice 28) 1 24 (Value.slice none 0 0) := ⟨Try.underlying109, Try.t109, info_of Try.typeInfo109, rfl, rfl, rfl⟩
instance : Ty Try.prog 110 (TypeDesc.slice 34) 1 24 (Value.slice none 0 0) := ⟨Try.underlying110, Try.t110, info_of Try.typeInfo110, rfl, rfl, rfl⟩
instance : Ty Try.prog 111 (TypeDesc.struct #[{ name := "Leaf", type := 4, offset := 0, embedded := false, tag := "", pkgPath := "", byteOffset := 0 }, { name := "Keys", type := 109, offset := 1, embedded := false, tag := "", pkgPath := "", byteOffset := 8 }, { name := "Locs", type := 110, offset := 2, embedded := false, tag := "", pkgPath := "", byteOffset := 32 }, { name := "Kids", type := 83, offset := 3, embedded := false, tag := "", pkgPath := "", byteOffset := 56 }]) 4 80 (Value.agg #[Value.bool false, Value.slice none 0 0, Value.slice none 0 0, Value.slice none 0 0]) := ⟨Try.underlying111, Try.t111, info_of Try.typeInfo111, rfl, rfl, rfl⟩
instance : Fld Try.prog 111 0 0 4 := ⟨_, _, Try.underlying111, rfl, rfl, rfl⟩
instance : Fld Try.prog 111 1 1 109 := ⟨_, _, Try.underlying111, rfl, rfl, rfl⟩
instance : Fld Try.prog 111 2 2 110 := ⟨_, _, Try.underlying111, rfl, rfl, rfl⟩
instance : Fld Try.prog 111 3 3 83 := ⟨_, _, Try.underlying111, rfl, rfl, rfl⟩
instance : EqG Try.prog 111 := ⟨Try.eqGuardType111⟩
instance : Ty Try.prog 112 (TypeDesc.struct #[{ name := "Leaf", type := 4, offset := 0, embedded := false, tag := "", pkgPath := "", byteOffset := 0 }, { name := "Keys", type := 109, offset := 1, embedded := false, tag := "", pkgPath := "", byteOffset := 8 }, { name := "Locs", type := 110, offset := 2, embedded := false, tag := "", pkgPath := "", byteOffset := 32 }, { name := "Kids", type := 83, offset := 3, embedded := false, tag := "", pkgPath := "", byteOffset := 56 }]) 4 80 (Value.agg #[Value.bool false, Value.slice none 0 0, Value.slice none 0 0, Value.slice none 0 0]) := ⟨Try.underlying112, Try.t112, info_of Try.typeInfo112, rfl, rfl, rfl⟩
instance : Fld Try.prog 112 0 0 4 := ⟨_, _, Try.underlying112, rfl, rfl, rfl⟩
instance : Fld Try.prog 112 1 1 109 := ⟨_, _, Try.underlying112, rfl, rfl, rfl⟩
instance : Fld Try.prog 112 2 2 110 := ⟨_, _, Try.underlying112, rfl, rfl, rfl⟩
instance : Fld Try.prog 112 3 3 83 := ⟨_, _, Try.underlying112, rfl, rfl, rfl⟩
instance : EqG Try.prog 112 := ⟨Try.eqGuardType112⟩
instance : Ty Try.prog 113 (TypeDesc.func #[85] #[112] false) 1 8 Value.nilFunc := ⟨Try.underlying113, Try.t113, info_of Try.typeInfo113, rfl, rfl, rfl⟩
instance : Ty Try.prog 114 (TypeDesc.struct #[{ name := "key", type := 42, offset := 0, embedded := false, tag := "", pkgPath := "trug/tree", byteOffset := 0 }, { name := "n", type := 24, offset := 3, embedded := false, tag := "", pkgPath := "trug/tree", byteOffset := 12 }]) 4 16 (Value.agg #[Value.int IntKind.u16 0, Value.int IntKind.u8 0, Value.int IntKind.u32 0, Value.int IntKind.u32 0]) := ⟨Try.underlying114, Try.t114, info_of Try.typeInfo114, rfl, rfl, rfl⟩
instance : Fld Try.prog 114 0 0 42 := ⟨_, _, Try.underlying114, rfl, rfl, rfl⟩
instance : Fld Try.prog 114 1 3 24 := ⟨_, _, Try.underlying114, rfl, rfl, rfl⟩
instance : EqG Try.prog 114 := ⟨Try.eqGuardType114⟩
instance : Ty Try.prog 115 (TypeDesc.struct #[{ name := "key", type := 42, offset := 0, embedded := false, tag := "", pkgPath := "trug/tree", byteOffset := 0 }, { name := "n", type := 24, offset := 3, embedded := false, tag := "", pkgPath := "trug/tree", byteOffset := 12 }]) 4 16 (Value.agg #[Value.int IntKind.u16 0, Value.int IntKind.u8 0, Value.int IntKind.u32 0, Value.int IntKind.u32 0]) := ⟨Try.underlying115, Try.t115, info_of Try.typeInfo115, rfl, rfl, rfl⟩
instance : Fld Try.prog 115 0 0 42 := ⟨_, _, Try.underlying115, rfl, rfl, rfl⟩
instance : Fld Try.prog 115 1 3 24 := ⟨_, _, Try.underlying115, rfl, rfl, rfl⟩
instance : EqG Try.prog 115 := ⟨Try.eqGuardType115⟩
instance : Ty Try.prog 116 (TypeDesc.func #[85] #[88] false) 1 8 Value.nilFunc := ⟨Try.underlying116, Try.t116, info_of Try.typeInfo116, rfl, rfl, rfl⟩
instance : Ty Try.prog 117 (TypeDesc.func #[85, 42] #[3] false) 1 8 Value.nilFunc := ⟨Try.underlying117, Try.t117, info_of Try.typeInfo117, rfl, rfl, rfl⟩
instance : Ty Try.prog 118 (TypeDesc.func #[85, 3, 88] #[88] false) 1 8 Value.nilFunc := ⟨Try.underlying118, Try.t118, info_of Try.typeInfo118, rfl, rfl, rfl⟩
instance : Ty Try.prog 119 (TypeDesc.func #[85] #[4] false) 1 8 Value.nilFunc := ⟨Try.underlying119, Try.t119, info_of Try.typeInfo119, rfl, rfl, rfl⟩
instance : Ty Try.prog 120 (TypeDesc.func #[81, 42, 121] #[3, 4] false) 1 8 Value.nilFunc := ⟨Try.underlying120, Try.t120, info_of Try.typeInfo120, rfl, rfl, rfl⟩
instance : Ty Try.prog 121 (TypeDesc.func #[42, 42] #[3] false) 1 8 Value.nilFunc := ⟨Try.underlying121, Try.t121, info_of Try.typeInfo121, rfl, rfl, rfl⟩
instance : Ty Try.prog 122 (TypeDesc.func #[81, 81] #[4] false) 1 8 Value.nilFunc := ⟨Try.underlying122, Try.t122, info_of Try.typeInfo122, rfl, rfl, rfl⟩
instance : Ty Try.prog 123 (TypeDesc.func #[81, 3] #[] false) 1 8 Value.nilFunc := ⟨Try.underlying123, Try.t123, info_of Try.typeInfo123, rfl, rfl, rfl⟩
instance : Ty Try.prog 124 (TypeDesc.func #[82, 82] #[4] false) 1 8 Value.nilFunc := ⟨Try.underlying124, Try.t124, info_of Try.typeInfo124, rfl, rfl, rfl⟩
instance : Ty Try.prog 125 (TypeDesc.func #[82, 3] #[] false) 1 8 Value.nilFunc := ⟨Try.underlying125, Try.t125, info_of Try.typeInfo125, rfl, rfl, rfl⟩
instance : Ty Try.prog 126 (TypeDesc.func #[50] #[4] false) 1 8 Value.nilFunc := ⟨Try.underlying126, Try.t126, info_of Try.typeInfo126, rfl, rfl, rfl⟩
instance : Ty Try.prog 127 (TypeDesc.func #[24, 126] #[4] false) 1 8 Value.nilFunc := ⟨Try.underlying127, Try.t127, info_of Try.typeInfo127, rfl, rfl, rfl⟩
instance : Ty Try.prog 128 (TypeDesc.func #[57, 102] #[57] false) 1 8 Value.nilFunc := ⟨Try.underlying128, Try.t128, info_of Try.typeInfo128, rfl, rfl, rfl⟩
instance : Ty Try.prog 129 (TypeDesc.func #[81] #[81] false) 1 8 Value.nilFunc := ⟨Try.underlying129, Try.t129, info_of Try.typeInfo129, rfl, rfl, rfl⟩
instance : Ty Try.prog 130 (TypeDesc.func #[82] #[82] false) 1 8 Value.nilFunc := ⟨Try.underlying130, Try.t130, info_of Try.typeInfo130, rfl, rfl, rfl⟩
instance : Ty Try.prog 131 (TypeDesc.func #[83] #[83] false) 1 8 Value.nilFunc := ⟨Try.underlying131, Try.t131, info_of Try.typeInfo131, rfl, rfl, rfl⟩
instance : Ty Try.prog 132 (TypeDesc.func #[85, 3, 3] #[85] false) 1 8 Value.nilFunc := ⟨Try.underlying132, Try.t132, info_of Try.typeInfo132, rfl, rfl, rfl⟩
instance : Ty Try.prog 133 (TypeDesc.func #[83, 3, 3] #[83] false) 1 8 Value.nilFunc := ⟨Try.underlying133, Try.t133, info_of Try.typeInfo133, rfl, rfl, rfl⟩
instance : Ty Try.prog 134 (TypeDesc.func #[83, 3, 83] #[83] true) 1 8 Value.nilFunc := ⟨Try.underlying134, Try.t134, info_of Try.typeInfo134, rfl, rfl, rfl⟩
instance : Ty Try.prog 135 (TypeDesc.int IntKind.u64) 1 8 (Value.int IntKind.u64 0) := ⟨Try.underlying135, Try.t135, info_of Try.typeInfo135, rfl, rfl, rfl⟩
instance : Ty Try.prog 136 (TypeDesc.func #[142] #[3] true) 1 8 Value.nilFunc := ⟨Try.underlying136, Try.t136, info_of Try.typeInfo136, rfl, rfl, rfl⟩
instance : Ty Try.prog 137 (TypeDesc.func #[23, 23] #[3] false) 1 8 Value.nilFunc := ⟨Try.underlying137, Try.t137, info_of Try.typeInfo137, rfl, rfl, rfl⟩
instance : Ty Try.prog 138 (TypeDesc.func #[5, 5] #[3] false) 1 8 Value.nilFunc := ⟨Try.underlying138, Try.t138, info_of Try.typeInfo138, rfl, rfl, rfl⟩
instance : Ty Try.prog 139 (TypeDesc.func #[24, 24] #[3] false) 1 8 Value.nilFunc := ⟨Try.underlying139, Try.t139, info_of Try.typeInfo139, rfl, rfl, rfl⟩
instance : Ty Try.prog 140 (TypeDesc.func #[83, 83] #[4] false) 1 8 Value.nilFunc := ⟨Try.underlying140, Try.t140, info_of Try.typeInfo140, rfl, rfl, rfl⟩
instance : Ty Try.prog 141 (TypeDesc.func #[83, 3] #[] false) 1 8 Value.nilFunc := ⟨Try.underlying141, Try.t141, info_of Try.typeInfo141, rfl, rfl, rfl⟩
instance : Ty Try.prog 142 (TypeDesc.slice 3) 1 24 (Value.slice none 0 0) := ⟨Try.underlying142, Try.t142, info_of Try.typeInfo142, rfl, rfl, rfl⟩
instance : Ty Try.prog 143 (TypeDesc.func #[23] #[4] false) 1 8 Value.nilFunc := ⟨Try.underlying143, Try.t143, info_of Try.typeInfo143, rfl, rfl, rfl⟩
instance : Ty Try.prog 144 (TypeDesc.func #[5] #[4] false) 1 8 Value.nilFunc := ⟨Try.underlying144, Try.t144, info_of Try.typeInfo144, rfl, rfl, rfl⟩
instance : Ty Try.prog 145 (TypeDesc.func #[24] #[4] false) 1 8 Value.nilFunc := ⟨Try.underlying145, Try.t145, info_of Try.typeInfo145, rfl, rfl, rfl⟩
instance : Ty Try.prog 146 (TypeDesc.func #[81] #[] false) 1 8 Value.nilFunc := ⟨Try.underlying146, Try.t146, info_of Try.typeInfo146, rfl, rfl, rfl⟩
instance : Ty Try.prog 147 (TypeDesc.func #[82] #[] false) 1 8 Value.nilFunc := ⟨Try.underlying147, Try.t147, info_of Try.typeInfo147, rfl, rfl, rfl⟩
instance : Ty Try.prog 148 (TypeDesc.func #[83] #[] false) 1 8 Value.nilFunc := ⟨Try.underlying148, Try.t148, info_of Try.typeInfo148, rfl, rfl, rfl⟩
instance : Ty Try.prog 149 (TypeDesc.func #[] #[9] false) 1 8 Value.nilFunc := ⟨Try.underlying149, Try.t149, info_of Try.typeInfo149, rfl, rfl, rfl⟩
instance : Ty Try.prog 150 (TypeDesc.struct #[{ name := "_interface", type := 17, offset := 0, embedded := false, tag := "", pkgPath := "runtime", byteOffset := 0 }, { name := "concrete", type := 17, offset := 1, embedded := false, tag := "", pkgPath := "runtime", byteOffset := 8 }, { name := "asserted", type := 17, offset := 2, embedded := false, tag := "", pkgPath := "runtime", byteOffset := 16 }, { name := "missingMethod", type := 9, offset := 3, embedded := false, tag := "", pkgPath := "runtime", byteOffset := 24 }]) 4 40 (Value.agg #[Value.pointer none, Value.pointer none, Value.pointer none, Value.string { data := #[] }]) := ⟨Try.underlying150, Try.t150, info_of Try.typeInfo150, rfl, rfl, rfl⟩
instance : Fld Try.prog 150 0 0 17 := ⟨_, _, Try.underlying150, rfl, rfl, rfl⟩
instance : Fld Try.prog 150 1 1 17 := ⟨_, _, Try.underlying150, rfl, rfl, rfl⟩
instance : Fld Try.prog 150 2 2 17 := ⟨_, _, Try.underlying150, rfl, rfl, rfl⟩
instance : Fld Try.prog 150 3 3 9 := ⟨_, _, Try.underlying150, rfl, rfl, rfl⟩
instance : EqG Try.prog 150 := ⟨Try.eqGuardType150⟩
instance : Ty Try.prog 151 (TypeDesc.struct #[{ name := "_interface", type := 17, offset := 0, embedded := false, tag := "", pkgPath := "runtime", byteOffset := 0 }, { name := "concrete", type := 17, offset := 1, embedded := false, tag := "", pkgPath := "runtime", byteOffset := 8 }, { name := "asserted", type := 17, offset := 2, embedded := false, tag := "", pkgPath := "runtime", byteOffset := 16 }, { name := "missingMethod", type := 9, offset := 3, embedded := false, tag := "", pkgPath := "runtime", byteOffset := 24 }]) 4 40 (Value.agg #[Value.pointer none, Value.pointer none, Value.pointer none, Value.string { data := #[] }]) := ⟨Try.underlying151, Try.t151, info_of Try.typeInfo151, rfl, rfl, rfl⟩
instance : Fld Try.prog 151 0 0 17 := ⟨_, _, Try.underlying151, rfl, rfl, rfl⟩
instance : Fld Try.prog 151 1 1 17 := ⟨_, _, Try.underlying151, rfl, rfl, rfl⟩
instance : Fld Try.prog 151 2 2 17 := ⟨_, _, Try.underlying151, rfl, rfl, rfl⟩
instance : Fld Try.prog 151 3 3 9 := ⟨_, _, Try.underlying151, rfl, rfl, rfl⟩
instance : EqG Try.prog 151 := ⟨Try.eqGuardType151⟩
instance : Ty Try.prog 152 (TypeDesc.array 0 16) 0 0 (Value.agg #[]) := ⟨Try.underlying152, Try.t152, info_of Try.typeInfo152, rfl, rfl, rfl⟩
instance : EqG Try.prog 152 := ⟨Try.eqGuardType152⟩
instance : Ty Try.prog 153 (TypeDesc.struct #[{ name := "_", type := 152, offset := 0, embedded := false, tag := "", pkgPath := "runtime", byteOffset := 0 }]) 0 0 (Value.agg #[]) := ⟨Try.underlying153, Try.t153, info_of Try.typeInfo153, rfl, rfl, rfl⟩
instance : Fld Try.prog 153 0 0 152 := ⟨_, _, Try.underlying153, rfl, rfl, rfl⟩
instance : EqG Try.prog 153 := ⟨Try.eqGuardType153⟩
instance : Ty Try.prog 154 (TypeDesc.struct #[{ name := "_", type := 152, offset := 0, embedded := false, tag := "", pkgPath := "runtime", byteOffset := 0 }]) 0 0 (Value.agg #[]) := ⟨Try.underlying154, Try.t154, info_of Try.typeInfo154, rfl, rfl, rfl⟩
instance : Fld Try.prog 154 0 0 152 := ⟨_, _, Try.underlying154, rfl, rfl, rfl⟩
instance : EqG Try.prog 154 := ⟨Try.eqGuardType154⟩
instance : Ty Try.prog 155 (TypeDesc.int IntKind.u8) 1 1 (Value.int IntKind.u8 0) := ⟨Try.underlying155, Try.t155, info_of Try.typeInfo155, rfl, rfl, rfl⟩
instance : Ty Try.prog 156 (TypeDesc.int IntKind.u8) 1 1 (Value.int IntKind.u8 0) := ⟨Try.underlying156, Try.t156, info_of Try.typeInfo156, rfl, rfl, rfl⟩
instance : Ty Try.prog 157 (TypeDesc.func #[163, 163] #[4] false) 1 8 Value.nilFunc := ⟨Try.underlying157, Try.t157, info_of Try.typeInfo157, rfl, rfl, rfl⟩
instance : Ty Try.prog 158 (TypeDesc.pointer 5) 1 8 (Value.pointer none) := ⟨Try.underlying158, Try.t158, info_of Try.typeInfo158, rfl, rfl, rfl⟩
instance : Ty Try.prog 159 (TypeDesc.int IntKind.i32) 1 4 (Value.int IntKind.i32 0) := ⟨Try.underlying159, Try.t159, info_of Try.typeInfo159, rfl, rfl, rfl⟩
instance : Ty Try.prog 160 (TypeDesc.int IntKind.i32) 1 4 (Value.int IntKind.i32 0) := ⟨Try.underlying160, Try.t160, info_of Try.typeInfo160, rfl, rfl, rfl⟩
instance : Ty Try.prog 161 (TypeDesc.struct #[{ name := "Size_", type := 12, offset := 0, embedded := false, tag := "", pkgPath := "", byteOffset := 0 }, { name := "PtrBytes", type := 12, offset := 1, embedded := false, tag := "", pkgPath := "", byteOffset := 8 }, { name := "Hash", type := 24, offset := 2, embedded := false, tag := "", pkgPath := "", byteOffset := 16 }, { name := "TFlag", type := 155, offset := 3, embedded := false, tag := "", pkgPath := "", byteOffset := 20 }, { name := "Align_", type := 5, offset := 4, embedded := false, tag := "", pkgPath := "", byteOffset := 21 }, { name := "FieldAlign_", type := 5, offset := 5, embedded := false, tag := "", pkgPath := "", byteOffset := 22 }, { name := "Kind_", type := 156, offset := 6, embedded := false, tag := "", pkgPath := "", byteOffset := 23 }, { name := "Equal", type := 157, offset := 7, embedded := false, tag := "", pkgPath := "", byteOffset := 24 }, { name := "GCData", type := 158, offset := 8, embedded := false, tag := "", pkgPath := "", byteOffset := 32 }, { name := "Str", type := 159, offset := 9, embedded := false, tag := "", pkgPath := "", byteOffset := 40 }, { name := "PtrToThis", type := 160, offset := 10, embedded := false, tag := "", pkgPath := "", byteOffset := 44 }]) 11 48 (Value.agg #[Value.int IntKind.u64 0, Value.int IntKind.u64 0, Value.int IntKind.u32 0, Value.int IntKind.u8 0, Value.int IntKind.u8 0, Value.int IntKind.u8 0, Value.int IntKind.u8 0, Value.nilFunc, Value.pointer none, Value.int IntKind.i32 0, Value.int IntKind.i32 0]) := ⟨Try.underlying161, Try.t161, info_of Try.typeInfo161, rfl, rfl, rfl⟩
instance : Fld Try.prog 161 0 0 12 := ⟨_, _, Try.underlying161, rfl, rfl, rfl⟩
instance : Fld Try.prog 161 1 1 12 := ⟨_, _, Try.underlying161, rfl, rfl, rfl⟩
instance : Fld Try.prog 161 2 2 24 := ⟨_, _, Try.underlying161, rfl, rfl, rfl⟩
instance : Fld Try.prog 161 3 3 155 := ⟨_, _, Try.underlying161, rfl, rfl, rfl⟩
instance : Fld Try.prog 161 4 4 5 := ⟨_, _, Try.underlying161, rfl, rfl, rfl⟩
instance : Fld Try.prog 161 5 5 5 := ⟨_, _, Try.underlying161, rfl, rfl, rfl⟩
instance : Fld Try.prog 161 6 6 156 := ⟨_, _, Try.underlying161, rfl, rfl, rfl⟩
instance : Fld Try.prog 161 7 7 157 := ⟨_, _, Try.underlying161, rfl, rfl, rfl⟩
instance : Fld Try.prog 161 8 8 158 := ⟨_, _, Try.underlying161, rfl, rfl, rfl⟩
instance : Fld Try.prog 161 9 9 159 := ⟨_, _, Try.underlying161, rfl, rfl, rfl⟩
instance : Fld Try.prog 161 10 10 160 := ⟨_, _, Try.underlying161, rfl, rfl, rfl⟩
instance : EqG Try.prog 161 := ⟨Try.eqGuardType161⟩
instance : Ty Try.prog 162 (TypeDesc.struct #[{ name := "Size_", type := 12, offset := 0, embedded := false, tag := "", pkgPath := "", byteOffset := 0 }, { name := "PtrBytes", type := 12, offset := 1, embedded := false, tag := "", pkgPath := "", byteOffset := 8 }, { name := "Hash", type := 24, offset := 2, embedded := false, tag := "", pkgPath := "", byteOffset := 16 }, { name := "TFlag", type := 155, offset := 3, embedded := false, tag := "", pkgPath := "", byteOffset := 20 }, { name := "Align_", type := 5, offset := 4, embedded := false, tag := "", pkgPath := "", byteOffset := 21 }, { name := "FieldAlign_", type := 5, offset := 5, embedded := false, tag := "", pkgPath := "", byteOffset := 22 }, { name := "Kind_", type := 156, offset := 6, embedded := false, tag := "", pkgPath := "", byteOffset := 23 }, { name := "Equal", type := 157, offset := 7, embedded := false, tag := "", pkgPath := "", byteOffset := 24 }, { name := "GCData", type := 158, offset := 8, embedded := false, tag := "", pkgPath := "", byteOffset := 32 }, { name := "Str", type := 159, offset := 9, embedded := false, tag := "", pkgPath := "", byteOffset := 40 }, { name := "PtrToThis", type := 160, offset := 10, embedded := false, tag := "", pkgPath := "", byteOffset := 44 }]) 11 48 (Value.agg #[Value.int IntKind.u64 0, Value.int IntKind.u64 0, Value.int IntKind.u32 0, Value.int IntKind.u8 0, Value.int IntKind.u8 0, Value.int IntKind.u8 0, Value.int IntKind.u8 0, Value.nilFunc, Value.pointer none, Value.int IntKind.i32 0, Value.int IntKind.i32 0]) := ⟨Try.underlying162, Try.t162, info_of Try.typeInfo162, rfl, rfl, rfl⟩
instance : Fld Try.prog 162 0 0 12 := ⟨_, _, Try.underlying162, rfl, rfl, rfl⟩
instance : Fld Try.prog 162 1 1 12 := ⟨_, _, Try.underlying162, rfl, rfl, rfl⟩
instance : Fld Try.prog 162 2 2 24 := ⟨_, _, Try.underlying162, rfl, rfl, rfl⟩
instance : Fld Try.prog 162 3 3 155 := ⟨_, _, Try.underlying162, rfl, rfl, rfl⟩
instance : Fld Try.prog 162 4 4 5 := ⟨_, _, Try.underlying162, rfl, rfl, rfl⟩
instance : Fld Try.prog 162 5 5 5 := ⟨_, _, Try.underlying162, rfl, rfl, rfl⟩
instance : Fld Try.prog 162 6 6 156 := ⟨_, _, Try.underlying162, rfl, rfl, rfl⟩
instance : Fld Try.prog 162 7 7 157 := ⟨_, _, Try.underlying162, rfl, rfl, rfl⟩
instance : Fld Try.prog 162 8 8 158 := ⟨_, _, Try.underlying162, rfl, rfl, rfl⟩
instance : Fld Try.prog 162 9 9 159 := ⟨_, _, Try.underlying162, rfl, rfl, rfl⟩
instance : Fld Try.prog 162 10 10 160 := ⟨_, _, Try.underlying162, rfl, rfl, rfl⟩
instance : EqG Try.prog 162 := ⟨Try.eqGuardType162⟩
instance : Ty Try.prog 163 (TypeDesc.unsafePointer) 1 8 (Value.pointer none) := ⟨Try.underlying163, Try.t163, info_of Try.typeInfo163, rfl, rfl, rfl⟩
instance : Plc Try.prog 7 [(0, 1), (1, 1), (2, 1), (3, 1)] := ⟨_, Try.underlying7, (.mk 2 0 1 rfl rfl (.mk 3 1 1 rfl rfl (.mk 4 2 1 rfl rfl (.mk 6 3 1 rfl rfl .nil))))⟩
instance : Plc Try.prog 8 [(0, 1), (1, 1), (2, 1), (3, 1)] := ⟨_, Try.underlying8, (.mk 2 0 1 rfl rfl (.mk 3 1 1 rfl rfl (.mk 4 2 1 rfl rfl (.mk 6 3 1 rfl rfl .nil))))⟩
instance : Plc Try.prog 13 [(0, 1), (1, 1)] := ⟨_, Try.underlying13, (.mk 9 0 1 rfl rfl (.mk 12 1 1 rfl rfl .nil))⟩
instance : Plc Try.prog 14 [(0, 1), (1, 1)] := ⟨_, Try.underlying14, (.mk 9 0 1 rfl rfl (.mk 12 1 1 rfl rfl .nil))⟩
instance : Plc Try.prog 18 [(0, 1)] := ⟨_, Try.underlying18, (.mk 17 0 1 rfl rfl .nil)⟩
instance : Plc Try.prog 19 [(0, 1)] := ⟨_, Try.underlying19, (.mk 17 0 1 rfl rfl .nil)⟩
instance : Plc Try.prog 25 [(0, 1), (1, 1)] := ⟨_, Try.underlying25, (.mk 5 0 1 rfl rfl (.mk 24 1 1 rfl rfl .nil))⟩
instance : Plc Try.prog 26 [(0, 1), (1, 1)] := ⟨_, Try.underlying26, (.mk 5 0 1 rfl rfl (.mk 24 1 1 rfl rfl .nil))⟩
instance : Plc Try.prog 27 [(0, 1), (1, 2)] := ⟨_, Try.underlying27, (.mk 23 0 1 rfl rfl (.mk 26 1 2 rfl rfl .nil))⟩
instance : Plc Try.prog 28 [(0, 1), (1, 2)] := ⟨_, Try.underlying28, (.mk 23 0 1 rfl rfl (.mk 26 1 2 rfl rfl .nil))⟩
instance : Plc Try.prog 33 [(0, 1), (1, 1)] := ⟨_, Try.underlying33, (.mk 24 0 1 rfl rfl (.mk 24 1 1 rfl rfl .nil))⟩
instance : Plc Try.prog 34 [(0, 1), (1, 1)] := ⟨_, Try.underlying34, (.mk 24 0 1 rfl rfl (.mk 24 1 1 rfl rfl .nil))⟩
instance : Plc Try.prog 35 [(0, 1), (1, 3), (4, 2)] := ⟨_, Try.underlying35, (.mk 5 0 1 rfl rfl (.mk 28 1 3 rfl rfl (.mk 34 4 2 rfl rfl .nil)))⟩
instance : Plc Try.prog 36 [(0, 1), (1, 3), (4, 2)] := ⟨_, Try.underlying36, (.mk 5 0 1 rfl rfl (.mk 28 1 3 rfl rfl (.mk 34 4 2 rfl rfl .nil)))⟩
instance : Plc Try.prog 42 [(0, 1), (1, 2)] := ⟨_, Try.underlying42, (.mk 23 0 1 rfl rfl (.mk 26 1 2 rfl rfl .nil))⟩
instance : Plc Try.prog 45 [(0, 3), (3, 2)] := ⟨_, Try.underlying45, (.mk 28 0 3 rfl rfl (.mk 34 3 2 rfl rfl .nil))⟩
instance : Plc Try.prog 46 [(0, 3), (3, 2)] := ⟨_, Try.underlying46, (.mk 28 0 3 rfl rfl (.mk 34 3 2 rfl rfl .nil))⟩
instance : Plc Try.prog 48 [(0, 1), (1, 1)] := ⟨_, Try.underlying48, (.mk 24 0 1 rfl rfl (.mk 24 1 1 rfl rfl .nil))⟩
instance : Plc Try.prog 49 [(0, 3), (3, 2)] := ⟨_, Try.underlying49, (.mk 42 0 3 rfl rfl (.mk 48 3 2 rfl rfl .nil))⟩
instance : Plc Try.prog 50 [(0, 3), (3, 2)] := ⟨_, Try.underlying50, (.mk 42 0 3 rfl rfl (.mk 48 3 2 rfl rfl .nil))⟩
instance : Plc Try.prog 70 [(0, 1), (1, 1)] := ⟨_, Try.underlying70, (.mk 24 0 1 rfl rfl (.mk 57 1 1 rfl rfl .nil))⟩
instance : Plc Try.prog 71 [(0, 1), (1, 1)] := ⟨_, Try.underlying71, (.mk 24 0 1 rfl rfl (.mk 57 1 1 rfl rfl .nil))⟩
instance : Plc Try.prog 75 [(0, 1), (1, 1), (2, 1), (3, 1)] := ⟨_, Try.underlying75, (.mk 73 0 1 rfl rfl (.mk 74 1 1 rfl rfl (.mk 24 2 1 rfl rfl (.mk 24 3 1 rfl rfl .nil))))⟩
instance : Plc Try.prog 76 [(0, 1), (1, 1), (2, 1), (3, 1)] := ⟨_, Try.underlying76, (.mk 73 0 1 rfl rfl (.mk 74 1 1 rfl rfl (.mk 24 2 1 rfl rfl (.mk 24 3 1 rfl rfl .nil))))⟩
instance : Plc Try.prog 84 [(0, 1), (1, 1), (2, 1), (3, 1)] := ⟨_, Try.underlying84, (.mk 4 0 1 rfl rfl (.mk 81 1 1 rfl rfl (.mk 82 2 1 rfl rfl (.mk 83 3 1 rfl rfl .nil))))⟩
instance : Plc Try.prog 85 [(0, 1), (1, 1), (2, 1), (3, 1)] := ⟨_, Try.underlying85, (.mk 4 0 1 rfl rfl (.mk 81 1 1 rfl rfl (.mk 82 2 1 rfl rfl (.mk 83 3 1 rfl rfl .nil))))⟩
instance : Plc Try.prog 111 [(0, 1), (1, 1), (2, 1), (3, 1)] := ⟨_, Try.underlying111, (.mk 4 0 1 rfl rfl (.mk 109 1 1 rfl rfl (.mk 110 2 1 rfl rfl (.mk 83 3 1 rfl rfl .nil))))⟩
instance : Plc Try.prog 112 [(0, 1), (1, 1), (2, 1), (3, 1)] := ⟨_, Try.underlying112, (.mk 4 0 1 rfl rfl (.mk 109 1 1 rfl rfl (.mk 110 2 1 rfl rfl (.mk 83 3 1 rfl rfl .nil))))⟩
instance : Plc Try.prog 114 [(0, 3), (3, 1)] := ⟨_, Try.underlying114, (.mk 42 0 3 rfl rfl (.mk 24 3 1 rfl rfl .nil))⟩
instance : Plc Try.prog 115 [(0, 3), (3, 1)] := ⟨_, Try.underlying115, (.mk 42 0 3 rfl rfl (.mk 24 3 1 rfl rfl .nil))⟩
instance : Plc Try.prog 150 [(0, 1), (1, 1), (2, 1), (3, 1)] := ⟨_, Try.underlying150, (.mk 17 0 1 rfl rfl (.mk 17 1 1 rfl rfl (.mk 17 2 1 rfl rfl (.mk 9 3 1 rfl rfl .nil))))⟩
instance : Plc Try.prog 151 [(0, 1), (1, 1), (2, 1), (3, 1)] := ⟨_, Try.underlying151, (.mk 17 0 1 rfl rfl (.mk 17 1 1 rfl rfl (.mk 17 2 1 rfl rfl (.mk 9 3 1 rfl rfl .nil))))⟩
instance : Plc Try.prog 153 [(0, 0)] := ⟨_, Try.underlying153, (.mk 152 0 0 rfl rfl .nil)⟩
instance : Plc Try.prog 154 [(0, 0)] := ⟨_, Try.underlying154, (.mk 152 0 0 rfl rfl .nil)⟩
instance : Plc Try.prog 161 [(0, 1), (1, 1), (2, 1), (3, 1), (4, 1), (5, 1), (6, 1), (7, 1), (8, 1), (9, 1), (10, 1)] := ⟨_, Try.underlying161, (.mk 12 0 1 rfl rfl (.mk 12 1 1 rfl rfl (.mk 24 2 1 rfl rfl (.mk 155 3 1 rfl rfl (.mk 5 4 1 rfl rfl (.mk 5 5 1 rfl rfl (.mk 156 6 1 rfl rfl (.mk 157 7 1 rfl rfl (.mk 158 8 1 rfl rfl (.mk 159 9 1 rfl rfl (.mk 160 10 1 rfl rfl .nil)))))))))))⟩
instance : Plc Try.prog 162 [(0, 1), (1, 1), (2, 1), (3, 1), (4, 1), (5, 1), (6, 1), (7, 1), (8, 1), (9, 1), (10, 1)] := ⟨_, Try.underlying162, (.mk 12 0 1 rfl rfl (.mk 12 1 1 rfl rfl (.mk 24 2 1 rfl rfl (.mk 155 3 1 rfl rfl (.mk 5 4 1 rfl rfl (.mk 5 5 1 rfl rfl (.mk 156 6 1 rfl rfl (.mk 157 7 1 rfl rfl (.mk 158 8 1 rfl rfl (.mk 159 9 1 rfl rfl (.mk 160 10 1 rfl rfl .nil)))))))))))⟩
instance : EqT Try.prog 2 false 1 [.i .i64] := eqt_int Try.underlying2
instance : EqT Try.prog 3 false 1 [.i .i64] := eqt_int Try.underlying3
instance : EqT Try.prog 4 false 1 [.b] := eqt_bool Try.underlying4
instance : EqT Try.prog 5 false 1 [.i .u8] := eqt_int Try.underlying5
instance : EqT Try.prog 6 false 1 [.i .u8] := eqt_int Try.underlying6
instance : EqT Try.prog 7 true 2 [.i .i64, .i .i64, .b, .i .u8] := by
  have h := eqt_struct (dd := 1) Try.underlying7 Try.stoodInHeld7 (FOk.mk2 (P := Try.prog) (dd := 1) 2 (f := { name := "x", type := 2, offset := 0, embedded := false, tag := "", pkgPath := "runtime", byteOffset := 0 }) (off := 0) rfl rfl rfl rfl (by decide) (by decide) (FOk.mk2 (P := Try.prog) (dd := 1) 3 (f := { name := "y", type := 3, offset := 1, embedded := false, tag := "", pkgPath := "runtime", byteOffset := 8 }) (off := 1) rfl rfl rfl rfl (by decide) (by decide) (FOk.mk2 (P := Try.prog) (dd := 1) 4 (f := { name := "signed", type := 4, offset := 2, embedded := false, tag := "", pkgPath := "runtime", byteOffset := 16 }) (off := 2) rfl rfl rfl rfl (by decide) (by decide) (FOk.mk2 (P := Try.prog) (dd := 1) 6 (f := { name := "code", type := 6, offset := 3, embedded := false, tag := "", pkgPath := "runtime", byteOffset := 17 }) (off := 3) rfl rfl rfl rfl (by decide) (by decide) (FOk.nil (P := Try.prog) (dd := 1) _)))))
  exact h
instance : EqT Try.prog 8 true 2 [.i .i64, .i .i64, .b, .i .u8] := by
  have h := eqt_struct (dd := 1) Try.underlying8 Try.stoodInHeld8 (FOk.mk2 (P := Try.prog) (dd := 1) 2 (f := { name := "x", type := 2, offset := 0, embedded := false, tag := "", pkgPath := "runtime", byteOffset := 0 }) (off := 0) rfl rfl rfl rfl (by decide) (by decide) (FOk.mk2 (P := Try.prog) (dd := 1) 3 (f := { name := "y", type := 3, offset := 1, embedded := false, tag := "", pkgPath := "runtime", byteOffset := 8 }) (off := 1) rfl rfl rfl rfl (by decide) (by decide) (FOk.mk2 (P := Try.prog) (dd := 1) 4 (f := { name := "signed", type := 4, offset := 2, embedded := false, tag := "", pkgPath := "runtime", byteOffset := 16 }) (off := 2) rfl rfl rfl rfl (by decide) (by decide) (FOk.mk2 (P := Try.prog) (dd := 1) 6 (f := { name := "code", type := 6, offset := 3, embedded := false, tag := "", pkgPath := "runtime", byteOffset := 17 }) (off := 3) rfl rfl rfl rfl (by decide) (by decide) (FOk.nil (P := Try.prog) (dd := 1) _)))))
  exact h
instance : EqT Try.prog 12 false 1 [.i .u64] := eqt_int Try.underlying12
instance : EqT Try.prog 21 false 1 [.i .i32] := eqt_int Try.underlying21
instance : EqT Try.prog 23 false 1 [.i .u16] := eqt_int Try.underlying23
instance : EqT Try.prog 24 false 1 [.i .u32] := eqt_int Try.underlying24
instance : EqT Try.prog 25 true 2 [.i .u8, .i .u32] := by
  have h := eqt_struct (dd := 1) Try.underlying25 Try.stoodInHeld25 (FOk.mk2 (P := Try.prog) (dd := 1) 5 (f := { name := "Rep", type := 5, offset := 0, embedded := false, tag := "", pkgPath := "", byteOffset := 0 }) (off := 0) rfl rfl rfl rfl (by decide) (by decide) (FOk.mk2 (P := Try.prog) (dd := 1) 24 (f := { name := "Seq", type := 24, offset := 1, embedded := false, tag := "", pkgPath := "", byteOffset := 4 }) (off := 1) rfl rfl rfl rfl (by decide) (by decide) (FOk.nil (P := Try.prog) (dd := 1) _)))
  exact h
instance : EqT Try.prog 26 true 2 [.i .u8, .i .u32] := by
  have h := eqt_struct (dd := 1) Try.underlying26 Try.stoodInHeld26 (FOk.mk2 (P := Try.prog) (dd := 1) 5 (f := { name := "Rep", type := 5, offset := 0, embedded := false, tag := "", pkgPath := "", byteOffset := 0 }) (off := 0) rfl rfl rfl rfl (by decide) (by decide) (FOk.mk2 (P := Try.prog) (dd := 1) 24 (f := { name := "Seq", type := 24, offset := 1, embedded := false, tag := "", pkgPath := "", byteOffset := 4 }) (off := 1) rfl rfl rfl rfl (by decide) (by decide) (FOk.nil (P := Try.prog) (dd := 1) _)))
  exact h
instance : EqT Try.prog 27 true 3 [.i .u16, .i .u8, .i .u32] := by
  have h := eqt_struct (dd := 2) Try.underlying27 Try.stoodInHeld27 (FOk.mk2 (P := Try.prog) (dd := 2) 23 (f := { name := "Cart", type := 23, offset := 0, embedded := false, tag := "", pkgPath := "", byteOffset := 0 }) (off := 0) rfl rfl rfl rfl (by decide) (by decide) (FOk.mk2 (P := Try.prog) (dd := 2) 26 (f := { name := "Dot", type := 26, offset := 1, embedded := false, tag := "", pkgPath := "", byteOffset := 4 }) (off := 1) rfl rfl rfl rfl (by decide) (by decide) (FOk.nil (P := Try.prog) (dd := 2) _)))
  exact h
instance : EqT Try.prog 28 true 3 [.i .u16, .i .u8, .i .u32] := by
  have h := eqt_struct (dd := 2) Try.underlying28 Try.stoodInHeld28 (FOk.mk2 (P := Try.prog) (dd := 2) 23 (f := { name := "Cart", type := 23, offset := 0, embedded := false, tag := "", pkgPath := "", byteOffset := 0 }) (off := 0) rfl rfl rfl rfl (by decide) (by decide) (FOk.mk2 (P := Try.prog) (dd := 2) 26 (f := { name := "Dot", type := 26, offset := 1, embedded := false, tag := "", pkgPath := "", byteOffset := 4 }) (off := 1) rfl rfl rfl rfl (by decide) (by decide) (FOk.nil (P := Try.prog) (dd := 2) _)))
  exact h
instance : EqT Try.prog 33 true 2 [.i .u32, .i .u32] := by
  have h := eqt_struct (dd := 1) Try.underlying33 Try.stoodInHeld33 (FOk.mk2 (P := Try.prog) (dd := 1) 24 (f := { name := "Seg", type := 24, offset := 0, embedded := false, tag := "", pkgPath := "", byteOffset := 0 }) (off := 0) rfl rfl rfl rfl (by decide) (by decide) (FOk.mk2 (P := Try.prog) (dd := 1) 24 (f := { name := "At", type := 24, offset := 1, embedded := false, tag := "", pkgPath := "", byteOffset := 4 }) (off := 1) rfl rfl rfl rfl (by decide) (by decide) (FOk.nil (P := Try.prog) (dd := 1) _)))
  exact h
instance : EqT Try.prog 34 true 2 [.i .u32, .i .u32] := by
  have h := eqt_struct (dd := 1) Try.underlying34 Try.stoodInHeld34 (FOk.mk2 (P := Try.prog) (dd := 1) 24 (f := { name := "Seg", type := 24, offset := 0, embedded := false, tag := "", pkgPath := "", byteOffset := 0 }) (off := 0) rfl rfl rfl rfl (by decide) (by decide) (FOk.mk2 (P := Try.prog) (dd := 1) 24 (f := { name := "At", type := 24, offset := 1, embedded := false, tag := "", pkgPath := "", byteOffset := 4 }) (off := 1) rfl rfl rfl rfl (by decide) (by decide) (FOk.nil (P := Try.prog) (dd := 1) _)))
  exact h
instance : EqT Try.prog 35 true 4 [.i .u8, .i .u16, .i .u8, .i .u32, .i .u32, .i .u32] := by
  have h := eqt_struct (dd := 3) Try.underlying35 Try.stoodInHeld35 (FOk.mk2 (P := Try.prog) (dd := 3) 5 (f := { name := "Kind", type := 5, offset := 0, embedded := false, tag := "", pkgPath := "", byteOffset := 0 }) (off := 0) rfl rfl rfl rfl (by decide) (by decide) (FOk.mk2 (P := Try.prog) (dd := 3) 28 (f := { name := "Key", type := 28, offset := 1, embedded := false, tag := "", pkgPath := "", byteOffset := 4 }) (off := 1) rfl rfl rfl rfl (by decide) (by decide) (FOk.mk2 (P := Try.prog) (dd := 3) 34 (f := { name := "Loc", type := 34, offset := 4, embedded := false, tag := "", pkgPath := "", byteOffset := 16 }) (off := 4) rfl rfl rfl rfl (by decide) (by decide) (FOk.nil (P := Try.prog) (dd := 3) _))))
  exact h
instance : EqT Try.prog 36 true 4 [.i .u8, .i .u16, .i .u8, .i .u32, .i .u32, .i .u32] := by
  have h := eqt_struct (dd := 3) Try.underlying36 Try.stoodInHeld36 (FOk.mk2 (P := Try.prog) (dd := 3) 5 (f := { name := "Kind", type := 5, offset := 0, embedded := false, tag := "", pkgPath := "", byteOffset := 0 }) (off := 0) rfl rfl rfl rfl (by decide) (by decide) (FOk.mk2 (P := Try.prog) (dd := 3) 28 (f := { name := "Key", type := 28, offset := 1, embedded := false, tag := "", pkgPath := "", byteOffset := 4 }) (off := 1) rfl rfl rfl rfl (by decide) (by decide) (FOk.mk2 (P := Try.prog) (dd := 3) 34 (f := { name := "Loc", type := 34, offset := 4, embedded := false, tag := "", pkgPath := "", byteOffset := 16 }) (off := 4) rfl rfl rfl rfl (by decide) (by decide) (FOk.nil (P := Try.prog) (dd := 3) _))))
  exact h
instance : EqT Try.prog 38 false 1 [.i .i64] := eqt_int Try.underlying38
instance : EqT Try.prog 42 true 3 [.i .u16, .i .u8, .i .u32] := by
  have h := eqt_struct (dd := 2) Try.underlying42 Try.stoodInHeld42 (FOk.mk2 (P := Try.prog) (dd := 2) 23 (f := { name := "Cart", type := 23, offset := 0, embedded := false, tag := "", pkgPath := "", byteOffset := 0 }) (off := 0) rfl rfl rfl rfl (by decide) (by decide) (FOk.mk2 (P := Try.prog) (dd := 2) 26 (f := { name := "Dot", type := 26, offset := 1, embedded := false, tag := "", pkgPath := "", byteOffset := 4 }) (off := 1) rfl rfl rfl rfl (by decide) (by decide) (FOk.nil (P := Try.prog) (dd := 2) _)))
  exact h
instance : EqT Try.prog 45 true 4 [.i .u16, .i .u8, .i .u32, .i .u32, .i .u32] := by
  have h := eqt_struct (dd := 3) Try.underlying45 Try.stoodInHeld45 (FOk.mk2 (P := Try.prog) (dd := 3) 28 (f := { name := "Key", type := 28, offset := 0, embedded := false, tag := "", pkgPath := "", byteOffset := 0 }) (off := 0) rfl rfl rfl rfl (by decide) (by decide) (FOk.mk2 (P := Try.prog) (dd := 3) 34 (f := { name := "Loc", type := 34, offset := 3, embedded := false, tag := "", pkgPath := "", byteOffset := 12 }) (off := 3) rfl rfl rfl rfl (by decide) (by decide) (FOk.nil (P := Try.prog) (dd := 3) _)))
  exact h
instance : EqT Try.prog 46 true 4 [.i .u16, .i .u8, .i .u32, .i .u32, .i .u32] := by
  have h := eqt_struct (dd := 3) Try.underlying46 Try.stoodInHeld46 (FOk.mk2 (P := Try.prog) (dd := 3) 28 (f := { name := "Key", type := 28, offset := 0, embedded := false, tag := "", pkgPath := "", byteOffset := 0 }) (off := 0) rfl rfl rfl rfl (by decide) (by decide) (FOk.mk2 (P := Try.prog) (dd := 3) 34 (f := { name := "Loc", type := 34, offset := 3, embedded := false, tag := "", pkgPath := "", byteOffset := 12 }) (off := 3) rfl rfl rfl rfl (by decide) (by decide) (FOk.nil (P := Try.prog) (dd := 3) _)))
  exact h
instance : EqT Try.prog 48 true 2 [.i .u32, .i .u32] := by
  have h := eqt_struct (dd := 1) Try.underlying48 Try.stoodInHeld48 (FOk.mk2 (P := Try.prog) (dd := 1) 24 (f := { name := "Seg", type := 24, offset := 0, embedded := false, tag := "", pkgPath := "", byteOffset := 0 }) (off := 0) rfl rfl rfl rfl (by decide) (by decide) (FOk.mk2 (P := Try.prog) (dd := 1) 24 (f := { name := "At", type := 24, offset := 1, embedded := false, tag := "", pkgPath := "", byteOffset := 4 }) (off := 1) rfl rfl rfl rfl (by decide) (by decide) (FOk.nil (P := Try.prog) (dd := 1) _)))
  exact h
instance : EqT Try.prog 49 true 4 [.i .u16, .i .u8, .i .u32, .i .u32, .i .u32] := by
  have h := eqt_struct (dd := 3) Try.underlying49 Try.stoodInHeld49 (FOk.mk2 (P := Try.prog) (dd := 3) 42 (f := { name := "Key", type := 42, offset := 0, embedded := false, tag := "", pkgPath := "", byteOffset := 0 }) (off := 0) rfl rfl rfl rfl (by decide) (by decide) (FOk.mk2 (P := Try.prog) (dd := 3) 48 (f := { name := "Loc", type := 48, offset := 3, embedded := false, tag := "", pkgPath := "", byteOffset := 12 }) (off := 3) rfl rfl rfl rfl (by decide) (by decide) (FOk.nil (P := Try.prog) (dd := 3) _)))
  exact h
instance : EqT Try.prog 50 true 4 [.i .u16, .i .u8, .i .u32, .i .u32, .i .u32] := by
  have h := eqt_struct (dd := 3) Try.underlying50 Try.stoodInHeld50 (FOk.mk2 (P := Try.prog) (dd := 3) 42 (f := { name := "Key", type := 42, offset := 0, embedded := false, tag := "", pkgPath := "", byteOffset := 0 }) (off := 0) rfl rfl rfl rfl (by decide) (by decide) (FOk.mk2 (P := Try.prog) (dd := 3) 48 (f := { name := "Loc", type := 48, offset := 3, embedded := false, tag := "", pkgPath := "", byteOffset := 12 }) (off := 3) rfl rfl rfl rfl (by decide) (by decide) (FOk.nil (P := Try.prog) (dd := 3) _)))
  exact h
instance : EqT Try.prog 114 true 4 [.i .u16, .i .u8, .i .u32, .i .u32] := by
  have h := eqt_struct (dd := 3) Try.underlying114 Try.stoodInHeld114 (FOk.mk2 (P := Try.prog) (dd := 3) 42 (f := { name := "key", type := 42, offset := 0, embedded := false, tag := "", pkgPath := "trug/tree", byteOffset := 0 }) (off := 0) rfl rfl rfl rfl (by decide) (by decide) (FOk.mk2 (P := Try.prog) (dd := 3) 24 (f := { name := "n", type := 24, offset := 3, embedded := false, tag := "", pkgPath := "trug/tree", byteOffset := 12 }) (off := 3) rfl rfl rfl rfl (by decide) (by decide) (FOk.nil (P := Try.prog) (dd := 3) _)))
  exact h
instance : EqT Try.prog 115 true 4 [.i .u16, .i .u8, .i .u32, .i .u32] := by
  have h := eqt_struct (dd := 3) Try.underlying115 Try.stoodInHeld115 (FOk.mk2 (P := Try.prog) (dd := 3) 42 (f := { name := "key", type := 42, offset := 0, embedded := false, tag := "", pkgPath := "trug/tree", byteOffset := 0 }) (off := 0) rfl rfl rfl rfl (by decide) (by decide) (FOk.mk2 (P := Try.prog) (dd := 3) 24 (f := { name := "n", type := 24, offset := 3, embedded := false, tag := "", pkgPath := "trug/tree", byteOffset := 12 }) (off := 3) rfl rfl rfl rfl (by decide) (by decide) (FOk.nil (P := Try.prog) (dd := 3) _)))
  exact h
instance : EqT Try.prog 135 false 1 [.i .u64] := eqt_int Try.underlying135
instance : EqT Try.prog 155 false 1 [.i .u8] := eqt_int Try.underlying155
instance : EqT Try.prog 156 false 1 [.i .u8] := eqt_int Try.underlying156
instance : EqT Try.prog 159 false 1 [.i .i32] := eqt_int Try.underlying159
instance : EqT Try.prog 160 false 1 [.i .i32] := eqt_int Try.underlying160
instance : Fun Try.prog 2 := ⟨Try.call2⟩
instance : Fun Try.prog 3 := ⟨Try.call3⟩
instance : Fun Try.prog 4 := ⟨Try.call4⟩
instance : Fun Try.prog 5 := ⟨Try.call5⟩
instance : Fun Try.prog 6 := ⟨Try.call6⟩
instance : Fun Try.prog 7 := ⟨Try.call7⟩
instance : Fun Try.prog 8 := ⟨Try.call8⟩
instance : Fun Try.prog 9 := ⟨Try.call9⟩
instance : Fun Try.prog 10 := ⟨Try.call10⟩
instance : Fun Try.prog 11 := ⟨Try.call11⟩
instance : Fun Try.prog 12 := ⟨Try.call12⟩
instance : Fun Try.prog 13 := ⟨Try.call13⟩
instance : Fun Try.prog 14 := ⟨Try.call14⟩
instance : Fun Try.prog 15 := ⟨Try.call15⟩
instance : Fun Try.prog 16 := ⟨Try.call16⟩
instance : Fun Try.prog 17 := ⟨Try.call17⟩
instance : Fun Try.prog 18 := ⟨Try.call18⟩
instance : Fun Try.prog 19 := ⟨Try.call19⟩
instance : Fun Try.prog 20 := ⟨Try.call20⟩
instance : Fun Try.prog 21 := ⟨Try.call21⟩
instance : Fun Try.prog 22 := ⟨Try.call22⟩
instance : Fun Try.prog 23 := ⟨Try.call23⟩
instance : Fun Try.prog 24 := ⟨Try.call24⟩
instance : Fun Try.prog 25 := ⟨Try.call25⟩
instance : Fun Try.prog 26 := ⟨Try.call26⟩
instance : Fun Try.prog 27 := ⟨Try.call27⟩
instance : Fun Try.prog 28 := ⟨Try.call28⟩
instance : Fun Try.prog 29 := ⟨Try.call29⟩
instance : Fun Try.prog 30 := ⟨Try.call30⟩
instance : Fun Try.prog 31 := ⟨Try.call31⟩
instance : Fun Try.prog 32 := ⟨Try.call32⟩
instance : Fun Try.prog 33 := ⟨Try.call33⟩
instance : Fun Try.prog 34 := ⟨Try.call34⟩
instance : Fun Try.prog 35 := ⟨Try.call35⟩
instance : Fun Try.prog 36 := ⟨Try.call36⟩
instance : Fun Try.prog 37 := ⟨Try.call37⟩
instance : Fun Try.prog 38 := ⟨Try.call38⟩
instance : Fun Try.prog 39 := ⟨Try.call39⟩
instance : Fun Try.prog 40 := ⟨Try.call40⟩
instance : Fun Try.prog 41 := ⟨Try.call41⟩
instance : Fun Try.prog 42 := ⟨Try.call42⟩
instance : Fun Try.prog 43 := ⟨Try.call43⟩
instance : Fun Try.prog 44 := ⟨Try.call44⟩
instance : Fun Try.prog 45 := ⟨Try.call45⟩
instance : Fun Try.prog 46 := ⟨Try.call46⟩
instance : Fun Try.prog 47 := ⟨Try.call47⟩
instance : Fun Try.prog 48 := ⟨Try.call48⟩
instance : Fun Try.prog 49 := ⟨Try.call49⟩
instance : Fun Try.prog 50 := ⟨Try.call50⟩
instance : Fun Try.prog 51 := ⟨Try.call51⟩
instance : Fun Try.prog 52 := ⟨Try.call52⟩
instance : Fun Try.prog 53 := ⟨Try.call53⟩
instance : Fun Try.prog 54 := ⟨Try.call54⟩
instance : Fun Try.prog 55 := ⟨Try.call55⟩
instance : Fun Try.prog 57 := ⟨Try.call57⟩
instance : Fun Try.prog 59 := ⟨Try.call59⟩
instance : Fun Try.prog 60 := ⟨Try.call60⟩
instance : Fun Try.prog 61 := ⟨Try.call61⟩
instance : Fun Try.prog 62 := ⟨Try.call62⟩
instance : Fun Try.prog 63 := ⟨Try.call63⟩
instance : Fun Try.prog 64 := ⟨Try.call64⟩
instance : Fun Try.prog 65 := ⟨Try.call65⟩
instance : Fun Try.prog 66 := ⟨Try.call66⟩
instance : Fun Try.prog 67 := ⟨Try.call67⟩
instance : Fun Try.prog 68 := ⟨Try.call68⟩
instance : Fun Try.prog 69 := ⟨Try.call69⟩
instance : Fun Try.prog 70 := ⟨Try.call70⟩
instance : Fun Try.prog 71 := ⟨Try.call71⟩
instance : Fun Try.prog 72 := ⟨Try.call72⟩
instance : Fun Try.prog 73 := ⟨Try.call73⟩
instance : Fun Try.prog 74 := ⟨Try.call74⟩
instance : Fun Try.prog 76 := ⟨Try.call76⟩
instance : Fun Try.prog 77 := ⟨Try.call77⟩
instance : Fun Try.prog 78 := ⟨Try.call78⟩
instance : Fun Try.prog 79 := ⟨Try.call79⟩
instance : Fun Try.prog 80 := ⟨Try.call80⟩
instance : Fun Try.prog 81 := ⟨Try.call81⟩
instance : Fun Try.prog 82 := ⟨Try.call82⟩
instance : Fun Try.prog 83 := ⟨Try.call83⟩
instance : Mix Try.prog := ⟨by as_aux_lemma => kernel_rfl⟩
end Go.Tg

