/- The types and functions of this program, as the walks want them. Printed by a program of this claim (geninst.py). -/
import Derived.KernelRfl
import Derived.Test.YtbfilhaigbebpaaDoorProg
import Derived.Test.YtbfilhaigbebpaaDoorOps2
set_option maxRecDepth 100000
namespace Go.Tg
open Go Go.Proofs
theorem info_of {P : Program} {t : TypeId} {i : TypeInfo} (h : ∀ w, (typeInfo t).run P w = .ok i w) : P.info? t = some i := by
  have h1 := h default
  unfold typeInfo at h1
  simp only [Sem.run_bind, run_program, Result.andThen_ok] at h1
  cases hi : P.info? t with
  | none => rw [hi] at h1; cases h1
  | some j =>
    rw [hi] at h1
    have h2 : (Result.ok j default : Result TypeInfo) = .ok i default := h1
    injection h2 with h3 h4; rw [h3]
instance : Ty Tryd.prog 0 (TypeDesc.tuple #[]) 1 0 (Value.tuple #[]) := ⟨Tryd.underlying0, Tryd.t0, info_of Tryd.typeInfo0, rfl, rfl, rfl⟩
instance : Ty Tryd.prog 1 (TypeDesc.func #[] #[] false) 1 8 Value.nilFunc := ⟨Tryd.underlying1, Tryd.t1, info_of Tryd.typeInfo1, rfl, rfl, rfl⟩
instance : Ty Tryd.prog 2 (TypeDesc.int IntKind.i64) 1 8 (Value.int IntKind.i64 0) := ⟨Tryd.underlying2, Tryd.t2, info_of Tryd.typeInfo2, rfl, rfl, rfl⟩
instance : Ty Tryd.prog 3 (TypeDesc.int IntKind.i64) 1 8 (Value.int IntKind.i64 0) := ⟨Tryd.underlying3, Tryd.t3, info_of Tryd.typeInfo3, rfl, rfl, rfl⟩
instance : Ty Tryd.prog 4 (TypeDesc.bool) 1 1 (Value.bool false) := ⟨Tryd.underlying4, Tryd.t4, info_of Tryd.typeInfo4, rfl, rfl, rfl⟩
instance : Ty Tryd.prog 5 (TypeDesc.int IntKind.u8) 1 1 (Value.int IntKind.u8 0) := ⟨Tryd.underlying5, Tryd.t5, info_of Tryd.typeInfo5, rfl, rfl, rfl⟩
instance : Ty Tryd.prog 6 (TypeDesc.int IntKind.u8) 1 1 (Value.int IntKind.u8 0) := ⟨Tryd.underlying6, Tryd.t6, info_of Tryd.typeInfo6, rfl, rfl, rfl⟩
instance : Ty Tryd.prog 7 (TypeDesc.struct #[{ name := "x", type := 2, offset := 0, embedded := false, tag := "", pkgPath := "runtime", byteOffset := 0 }, { name := "y", type := 3, offset := 1, embedded := false, tag := "", pkgPath := "runtime", byteOffset := 8 }, { name := "signed", type := 4, offset := 2, embedded := false, tag := "", pkgPath := "runtime", byteOffset := 16 }, { name := "code", type := 6, offset := 3, embedded := false, tag := "", pkgPath := "runtime", byteOffset := 17 }]) 4 24 (Value.agg #[Value.int IntKind.i64 0, Value.int IntKind.i64 0, Value.bool false, Value.int IntKind.u8 0]) := ⟨Tryd.underlying7, Tryd.t7, info_of Tryd.typeInfo7, rfl, rfl, rfl⟩
instance : Fld Tryd.prog 7 0 0 2 := ⟨_, _, Tryd.underlying7, rfl, rfl, rfl⟩
instance : Fld Tryd.prog 7 1 1 3 := ⟨_, _, Tryd.underlying7, rfl, rfl, rfl⟩
instance : Fld Tryd.prog 7 2 2 4 := ⟨_, _, Tryd.underlying7, rfl, rfl, rfl⟩
instance : Fld Tryd.prog 7 3 3 6 := ⟨_, _, Tryd.underlying7, rfl, rfl, rfl⟩
instance : EqG Tryd.prog 7 := ⟨Tryd.eqGuardType7⟩
instance : Ty Tryd.prog 8 (TypeDesc.struct #[{ name := "x", type := 2, offset := 0, embedded := false, tag := "", pkgPath := "runtime", byteOffset := 0 }, { name := "y", type := 3, offset := 1, embedded := false, tag := "", pkgPath := "runtime", byteOffset := 8 }, { name := "signed", type := 4, offset := 2, embedded := false, tag := "", pkgPath := "runtime", byteOffset := 16 }, { name := "code", type := 6, offset := 3, embedded := false, tag := "", pkgPath := "runtime", byteOffset := 17 }]) 4 24 (Value.agg #[Value.int IntKind.i64 0, Value.int IntKind.i64 0, Value.bool false, Value.int IntKind.u8 0]) := ⟨Tryd.underlying8, Tryd.t8, info_of Tryd.typeInfo8, rfl, rfl, rfl⟩
instance : Fld Tryd.prog 8 0 0 2 := ⟨_, _, Tryd.underlying8, rfl, rfl, rfl⟩
instance : Fld Tryd.prog 8 1 1 3 := ⟨_, _, Tryd.underlying8, rfl, rfl, rfl⟩
instance : Fld Tryd.prog 8 2 2 4 := ⟨_, _, Tryd.underlying8, rfl, rfl, rfl⟩
instance : Fld Tryd.prog 8 3 3 6 := ⟨_, _, Tryd.underlying8, rfl, rfl, rfl⟩
instance : EqG Tryd.prog 8 := ⟨Tryd.eqGuardType8⟩
instance : Ty Tryd.prog 9 (TypeDesc.string) 1 16 (Value.string { data := #[] }) := ⟨Tryd.underlying9, Tryd.t9, info_of Tryd.typeInfo9, rfl, rfl, rfl⟩
instance : Ty Tryd.prog 10 (TypeDesc.string) 1 16 (Value.string { data := #[] }) := ⟨Tryd.underlying10, Tryd.t10, info_of Tryd.typeInfo10, rfl, rfl, rfl⟩
instance : Ty Tryd.prog 11 (TypeDesc.string) 1 16 (Value.string { data := #[] }) := ⟨Tryd.underlying11, Tryd.t11, info_of Tryd.typeInfo11, rfl, rfl, rfl⟩
instance : Ty Tryd.prog 12 (TypeDesc.int IntKind.u64) 1 8 (Value.int IntKind.u64 0) := ⟨Tryd.underlying12, Tryd.t12, info_of Tryd.typeInfo12, rfl, rfl, rfl⟩
instance : Ty Tryd.prog 13 (TypeDesc.struct #[{ name := "msg", type := 9, offset := 0, embedded := false, tag := "", pkgPath := "runtime", byteOffset := 0 }, { name := "addr", type := 12, offset := 1, embedded := false, tag := "", pkgPath := "runtime", byteOffset := 16 }]) 2 24 (Value.agg #[Value.string { data := #[] }, Value.int IntKind.u64 0]) := ⟨Tryd.underlying13, Tryd.t13, info_of Tryd.typeInfo13, rfl, rfl, rfl⟩
instance : Fld Tryd.prog 13 0 0 9 := ⟨_, _, Tryd.underlying13, rfl, rfl, rfl⟩
instance : Fld Tryd.prog 13 1 1 12 := ⟨_, _, Tryd.underlying13, rfl, rfl, rfl⟩
instance : EqG Tryd.prog 13 := ⟨Tryd.eqGuardType13⟩
instance : Ty Tryd.prog 14 (TypeDesc.struct #[{ name := "msg", type := 9, offset := 0, embedded := false, tag := "", pkgPath := "runtime", byteOffset := 0 }, { name := "addr", type := 12, offset := 1, embedded := false, tag := "", pkgPath := "runtime", byteOffset := 16 }]) 2 24 (Value.agg #[Value.string { data := #[] }, Value.int IntKind.u64 0]) := ⟨Tryd.underlying14, Tryd.t14, info_of Tryd.typeInfo14, rfl, rfl, rfl⟩
instance : Fld Tryd.prog 14 0 0 9 := ⟨_, _, Tryd.underlying14, rfl, rfl, rfl⟩
instance : Fld Tryd.prog 14 1 1 12 := ⟨_, _, Tryd.underlying14, rfl, rfl, rfl⟩
instance : EqG Tryd.prog 14 := ⟨Tryd.eqGuardType14⟩
instance : Ty Tryd.prog 15 (TypeDesc.pointer 189) 1 8 (Value.pointer none) := ⟨Tryd.underlying15, Tryd.t15, info_of Tryd.typeInfo15, rfl, rfl, rfl⟩
instance : Ty Tryd.prog 16 (TypeDesc.pointer 192) 1 8 (Value.pointer none) := ⟨Tryd.underlying16, Tryd.t16, info_of Tryd.typeInfo16, rfl, rfl, rfl⟩
instance : Ty Tryd.prog 17 (TypeDesc.pointer 201) 1 8 (Value.pointer none) := ⟨Tryd.underlying17, Tryd.t17, info_of Tryd.typeInfo17, rfl, rfl, rfl⟩
instance : Ty Tryd.prog 18 (TypeDesc.struct #[{ name := "typ", type := 17, offset := 0, embedded := false, tag := "", pkgPath := "internal/runtime/maps", byteOffset := 0 }]) 1 8 (Value.agg #[Value.pointer none]) := ⟨Tryd.underlying18, Tryd.t18, info_of Tryd.typeInfo18, rfl, rfl, rfl⟩
instance : Fld Tryd.prog 18 0 0 17 := ⟨_, _, Tryd.underlying18, rfl, rfl, rfl⟩
instance : EqG Tryd.prog 18 := ⟨Tryd.eqGuardType18⟩
instance : Ty Tryd.prog 19 (TypeDesc.struct #[{ name := "typ", type := 17, offset := 0, embedded := false, tag := "", pkgPath := "internal/runtime/maps", byteOffset := 0 }]) 1 8 (Value.agg #[Value.pointer none]) := ⟨Tryd.underlying19, Tryd.t19, info_of Tryd.typeInfo19, rfl, rfl, rfl⟩
instance : Fld Tryd.prog 19 0 0 17 := ⟨_, _, Tryd.underlying19, rfl, rfl, rfl⟩
instance : EqG Tryd.prog 19 := ⟨Tryd.eqGuardType19⟩
instance : Ty Tryd.prog 20 (TypeDesc.interface #[]) 1 16 Value.nilIface := ⟨Tryd.underlying20, Tryd.t20, info_of Tryd.typeInfo20, rfl, rfl, rfl⟩
instance : Ty Tryd.prog 21 (TypeDesc.int IntKind.i32) 1 4 (Value.int IntKind.i32 0) := ⟨Tryd.underlying21, Tryd.t21, info_of Tryd.typeInfo21, rfl, rfl, rfl⟩
instance : Ty Tryd.prog 22 (TypeDesc.slice 83) 1 24 (Value.slice none 0 0) := ⟨Tryd.underlying22, Tryd.t22, info_of Tryd.typeInfo22, rfl, rfl, rfl⟩
instance : Ty Tryd.prog 23 (TypeDesc.int IntKind.u64) 1 8 (Value.int IntKind.u64 0) := ⟨Tryd.underlying23, Tryd.t23, info_of Tryd.typeInfo23, rfl, rfl, rfl⟩
instance : Ty Tryd.prog 24 (TypeDesc.func #[] #[4] false) 1 8 Value.nilFunc := ⟨Tryd.underlying24, Tryd.t24, info_of Tryd.typeInfo24, rfl, rfl, rfl⟩
instance : Ty Tryd.prog 25 (TypeDesc.slice 5) 1 24 (Value.slice none 0 0) := ⟨Tryd.underlying25, Tryd.t25, info_of Tryd.typeInfo25, rfl, rfl, rfl⟩
instance : Ty Tryd.prog 26 (TypeDesc.int IntKind.u32) 1 4 (Value.int IntKind.u32 0) := ⟨Tryd.underlying26, Tryd.t26, info_of Tryd.typeInfo26, rfl, rfl, rfl⟩
instance : Ty Tryd.prog 27 (TypeDesc.struct #[{ name := "Version", type := 23, offset := 0, embedded := false, tag := "", pkgPath := "", byteOffset := 0 }, { name := "At", type := 26, offset := 1, embedded := false, tag := "", pkgPath := "", byteOffset := 8 }, { name := "End", type := 26, offset := 2, embedded := false, tag := "", pkgPath := "", byteOffset := 12 }, { name := "Items", type := 26, offset := 3, embedded := false, tag := "", pkgPath := "", byteOffset := 16 }]) 4 24 (Value.agg #[Value.int IntKind.u64 0, Value.int IntKind.u32 0, Value.int IntKind.u32 0, Value.int IntKind.u32 0]) := ⟨Tryd.underlying27, Tryd.t27, info_of Tryd.typeInfo27, rfl, rfl, rfl⟩
instance : Fld Tryd.prog 27 0 0 23 := ⟨_, _, Tryd.underlying27, rfl, rfl, rfl⟩
instance : Fld Tryd.prog 27 1 1 26 := ⟨_, _, Tryd.underlying27, rfl, rfl, rfl⟩
instance : Fld Tryd.prog 27 2 2 26 := ⟨_, _, Tryd.underlying27, rfl, rfl, rfl⟩
instance : Fld Tryd.prog 27 3 3 26 := ⟨_, _, Tryd.underlying27, rfl, rfl, rfl⟩
instance : EqG Tryd.prog 27 := ⟨Tryd.eqGuardType27⟩
instance : Ty Tryd.prog 28 (TypeDesc.struct #[{ name := "Version", type := 23, offset := 0, embedded := false, tag := "", pkgPath := "", byteOffset := 0 }, { name := "At", type := 26, offset := 1, embedded := false, tag := "", pkgPath := "", byteOffset := 8 }, { name := "End", type := 26, offset := 2, embedded := false, tag := "", pkgPath := "", byteOffset := 12 }, { name := "Items", type := 26, offset := 3, embedded := false, tag := "", pkgPath := "", byteOffset := 16 }]) 4 24 (Value.agg #[Value.int IntKind.u64 0, Value.int IntKind.u32 0, Value.int IntKind.u32 0, Value.int IntKind.u32 0]) := ⟨Tryd.underlying28, Tryd.t28, info_of Tryd.typeInfo28, rfl, rfl, rfl⟩
instance : Fld Tryd.prog 28 0 0 23 := ⟨_, _, Tryd.underlying28, rfl, rfl, rfl⟩
instance : Fld Tryd.prog 28 1 1 26 := ⟨_, _, Tryd.underlying28, rfl, rfl, rfl⟩
instance : Fld Tryd.prog 28 2 2 26 := ⟨_, _, Tryd.underlying28, rfl, rfl, rfl⟩
instance : Fld Tryd.prog 28 3 3 26 := ⟨_, _, Tryd.underlying28, rfl, rfl, rfl⟩
instance : EqG Tryd.prog 28 := ⟨Tryd.eqGuardType28⟩
instance : Ty Tryd.prog 29 (TypeDesc.int IntKind.i64) 1 8 (Value.int IntKind.i64 0) := ⟨Tryd.underlying29, Tryd.t29, info_of Tryd.typeInfo29, rfl, rfl, rfl⟩
instance : Ty Tryd.prog 30 (TypeDesc.tuple #[25, 28, 29]) 1 0 (Value.tuple #[Value.slice none 0 0, Value.agg #[Value.int IntKind.u64 0, Value.int IntKind.u32 0, Value.int IntKind.u32 0, Value.int IntKind.u32 0], Value.int IntKind.i64 0]) := ⟨Tryd.underlying30, Tryd.t30, info_of Tryd.typeInfo30, rfl, rfl, rfl⟩
instance : Ty Tryd.prog 31 (TypeDesc.func #[32, 23, 3] #[25, 28, 29] false) 1 8 Value.nilFunc := ⟨Tryd.underlying31, Tryd.t31, info_of Tryd.typeInfo31, rfl, rfl, rfl⟩
instance : Ty Tryd.prog 32 (TypeDesc.slice 70) 1 24 (Value.slice none 0 0) := ⟨Tryd.underlying32, Tryd.t32, info_of Tryd.typeInfo32, rfl, rfl, rfl⟩
instance : Ty Tryd.prog 33 (TypeDesc.func #[22] #[32] false) 1 8 Value.nilFunc := ⟨Tryd.underlying33, Tryd.t33, info_of Tryd.typeInfo33, rfl, rfl, rfl⟩
instance : Ty Tryd.prog 34 (TypeDesc.struct #[{ name := "Version", type := 23, offset := 0, embedded := false, tag := "", pkgPath := "", byteOffset := 0 }, { name := "At", type := 26, offset := 1, embedded := false, tag := "", pkgPath := "", byteOffset := 8 }, { name := "End", type := 26, offset := 2, embedded := false, tag := "", pkgPath := "", byteOffset := 12 }, { name := "Items", type := 26, offset := 3, embedded := false, tag := "", pkgPath := "", byteOffset := 16 }]) 4 24 (Value.agg #[Value.int IntKind.u64 0, Value.int IntKind.u32 0, Value.int IntKind.u32 0, Value.int IntKind.u32 0]) := ⟨Tryd.underlying34, Tryd.t34, info_of Tryd.typeInfo34, rfl, rfl, rfl⟩
instance : Fld Tryd.prog 34 0 0 23 := ⟨_, _, Tryd.underlying34, rfl, rfl, rfl⟩
instance : Fld Tryd.prog 34 1 1 26 := ⟨_, _, Tryd.underlying34, rfl, rfl, rfl⟩
instance : Fld Tryd.prog 34 2 2 26 := ⟨_, _, Tryd.underlying34, rfl, rfl, rfl⟩
instance : Fld Tryd.prog 34 3 3 26 := ⟨_, _, Tryd.underlying34, rfl, rfl, rfl⟩
instance : EqG Tryd.prog 34 := ⟨Tryd.eqGuardType34⟩
instance : Ty Tryd.prog 35 (TypeDesc.tuple #[25, 34, 3]) 1 0 (Value.tuple #[Value.slice none 0 0, Value.agg #[Value.int IntKind.u64 0, Value.int IntKind.u32 0, Value.int IntKind.u32 0, Value.int IntKind.u32 0], Value.int IntKind.i64 0]) := ⟨Tryd.underlying35, Tryd.t35, info_of Tryd.typeInfo35, rfl, rfl, rfl⟩
instance : Ty Tryd.prog 36 (TypeDesc.func #[22, 23, 3] #[25, 34, 3] false) 1 8 Value.nilFunc := ⟨Tryd.underlying36, Tryd.t36, info_of Tryd.typeInfo36, rfl, rfl, rfl⟩
instance : Ty Tryd.prog 37 (TypeDesc.func #[22, 23, 3] #[4] false) 1 8 Value.nilFunc := ⟨Tryd.underlying37, Tryd.t37, info_of Tryd.typeInfo37, rfl, rfl, rfl⟩
instance : Ty Tryd.prog 38 (TypeDesc.tuple #[32, 29]) 1 0 (Value.tuple #[Value.slice none 0 0, Value.int IntKind.i64 0]) := ⟨Tryd.underlying38, Tryd.t38, info_of Tryd.typeInfo38, rfl, rfl, rfl⟩
instance : Ty Tryd.prog 39 (TypeDesc.func #[25, 28] #[32, 29] false) 1 8 Value.nilFunc := ⟨Tryd.underlying39, Tryd.t39, info_of Tryd.typeInfo39, rfl, rfl, rfl⟩
instance : Ty Tryd.prog 40 (TypeDesc.tuple #[22, 3]) 1 0 (Value.tuple #[Value.slice none 0 0, Value.int IntKind.i64 0]) := ⟨Tryd.underlying40, Tryd.t40, info_of Tryd.typeInfo40, rfl, rfl, rfl⟩
instance : Ty Tryd.prog 41 (TypeDesc.func #[25, 34] #[22, 3] false) 1 8 Value.nilFunc := ⟨Tryd.underlying41, Tryd.t41, info_of Tryd.typeInfo41, rfl, rfl, rfl⟩
instance : Ty Tryd.prog 42 (TypeDesc.func #[32, 22] #[4] false) 1 8 Value.nilFunc := ⟨Tryd.underlying42, Tryd.t42, info_of Tryd.typeInfo42, rfl, rfl, rfl⟩
instance : Ty Tryd.prog 43 (TypeDesc.func #[25, 34] #[4] false) 1 8 Value.nilFunc := ⟨Tryd.underlying43, Tryd.t43, info_of Tryd.typeInfo43, rfl, rfl, rfl⟩
instance : Ty Tryd.prog 44 (TypeDesc.tuple #[28, 29]) 1 0 (Value.tuple #[Value.agg #[Value.int IntKind.u64 0, Value.int IntKind.u32 0, Value.int IntKind.u32 0, Value.int IntKind.u32 0], Value.int IntKind.i64 0]) := ⟨Tryd.underlying44, Tryd.t44, info_of Tryd.typeInfo44, rfl, rfl, rfl⟩
instance : Ty Tryd.prog 45 (TypeDesc.func #[25, 25] #[28, 29] false) 1 8 Value.nilFunc := ⟨Tryd.underlying45, Tryd.t45, info_of Tryd.typeInfo45, rfl, rfl, rfl⟩
instance : Ty Tryd.prog 46 (TypeDesc.tuple #[34, 3]) 1 0 (Value.tuple #[Value.agg #[Value.int IntKind.u64 0, Value.int IntKind.u32 0, Value.int IntKind.u32 0, Value.int IntKind.u32 0], Value.int IntKind.i64 0]) := ⟨Tryd.underlying46, Tryd.t46, info_of Tryd.typeInfo46, rfl, rfl, rfl⟩
instance : Ty Tryd.prog 47 (TypeDesc.func #[25, 25] #[34, 3] false) 1 8 Value.nilFunc := ⟨Tryd.underlying47, Tryd.t47, info_of Tryd.typeInfo47, rfl, rfl, rfl⟩
instance : Ty Tryd.prog 48 (TypeDesc.func #[28] #[25] false) 1 8 Value.nilFunc := ⟨Tryd.underlying48, Tryd.t48, info_of Tryd.typeInfo48, rfl, rfl, rfl⟩
instance : Ty Tryd.prog 49 (TypeDesc.func #[34] #[25] false) 1 8 Value.nilFunc := ⟨Tryd.underlying49, Tryd.t49, info_of Tryd.typeInfo49, rfl, rfl, rfl⟩
instance : Ty Tryd.prog 50 (TypeDesc.func #[34, 25, 25] #[4] false) 1 8 Value.nilFunc := ⟨Tryd.underlying50, Tryd.t50, info_of Tryd.typeInfo50, rfl, rfl, rfl⟩
instance : Ty Tryd.prog 51 (TypeDesc.array 2 25) 2 48 (Value.agg #[Value.slice none 0 0, Value.slice none 0 0]) := ⟨Tryd.underlying51, Tryd.t51, info_of Tryd.typeInfo51, rfl, rfl, rfl⟩
instance : EqG Tryd.prog 51 := ⟨Tryd.eqGuardType51⟩
instance : Ty Tryd.prog 52 (TypeDesc.func #[22, 23, 51] #[4] false) 1 8 Value.nilFunc := ⟨Tryd.underlying52, Tryd.t52, info_of Tryd.typeInfo52, rfl, rfl, rfl⟩
instance : Ty Tryd.prog 53 (TypeDesc.func #[34, 34, 5] #[4] false) 1 8 Value.nilFunc := ⟨Tryd.underlying53, Tryd.t53, info_of Tryd.typeInfo53, rfl, rfl, rfl⟩
instance : Ty Tryd.prog 54 (TypeDesc.int IntKind.u16) 1 2 (Value.int IntKind.u16 0) := ⟨Tryd.underlying54, Tryd.t54, info_of Tryd.typeInfo54, rfl, rfl, rfl⟩
instance : Ty Tryd.prog 55 (TypeDesc.slice 66) 1 24 (Value.slice none 0 0) := ⟨Tryd.underlying55, Tryd.t55, info_of Tryd.typeInfo55, rfl, rfl, rfl⟩
instance : Ty Tryd.prog 56 (TypeDesc.slice 68) 1 24 (Value.slice none 0 0) := ⟨Tryd.underlying56, Tryd.t56, info_of Tryd.typeInfo56, rfl, rfl, rfl⟩
instance : Ty Tryd.prog 57 (TypeDesc.slice 26) 1 24 (Value.slice none 0 0) := ⟨Tryd.underlying57, Tryd.t57, info_of Tryd.typeInfo57, rfl, rfl, rfl⟩
instance : Ty Tryd.prog 58 (TypeDesc.struct #[{ name := "Leaf", type := 4, offset := 0, embedded := false, tag := "", pkgPath := "", byteOffset := 0 }, { name := "Keys", type := 55, offset := 1, embedded := false, tag := "", pkgPath := "", byteOffset := 8 }, { name := "Locs", type := 56, offset := 2, embedded := false, tag := "", pkgPath := "", byteOffset := 32 }, { name := "Kids", type := 57, offset := 3, embedded := false, tag := "", pkgPath := "", byteOffset := 56 }]) 4 80 (Value.agg #[Value.bool false, Value.slice none 0 0, Value.slice none 0 0, Value.slice none 0 0]) := ⟨Tryd.underlying58, Tryd.t58, info_of Tryd.typeInfo58, rfl, rfl, rfl⟩
instance : Fld Tryd.prog 58 0 0 4 := ⟨_, _, Tryd.underlying58, rfl, rfl, rfl⟩
instance : Fld Tryd.prog 58 1 1 55 := ⟨_, _, Tryd.underlying58, rfl, rfl, rfl⟩
instance : Fld Tryd.prog 58 2 2 56 := ⟨_, _, Tryd.underlying58, rfl, rfl, rfl⟩
instance : Fld Tryd.prog 58 3 3 57 := ⟨_, _, Tryd.underlying58, rfl, rfl, rfl⟩
instance : EqG Tryd.prog 58 := ⟨Tryd.eqGuardType58⟩
instance : Ty Tryd.prog 59 (TypeDesc.struct #[{ name := "Leaf", type := 4, offset := 0, embedded := false, tag := "", pkgPath := "", byteOffset := 0 }, { name := "Keys", type := 55, offset := 1, embedded := false, tag := "", pkgPath := "", byteOffset := 8 }, { name := "Locs", type := 56, offset := 2, embedded := false, tag := "", pkgPath := "", byteOffset := 32 }, { name := "Kids", type := 57, offset := 3, embedded := false, tag := "", pkgPath := "", byteOffset := 56 }]) 4 80 (Value.agg #[Value.bool false, Value.slice none 0 0, Value.slice none 0 0, Value.slice none 0 0]) := ⟨Tryd.underlying59, Tryd.t59, info_of Tryd.typeInfo59, rfl, rfl, rfl⟩
instance : Fld Tryd.prog 59 0 0 4 := ⟨_, _, Tryd.underlying59, rfl, rfl, rfl⟩
instance : Fld Tryd.prog 59 1 1 55 := ⟨_, _, Tryd.underlying59, rfl, rfl, rfl⟩
instance : Fld Tryd.prog 59 2 2 56 := ⟨_, _, Tryd.underlying59, rfl, rfl, rfl⟩
instance : Fld Tryd.prog 59 3 3 57 := ⟨_, _, Tryd.underlying59, rfl, rfl, rfl⟩
instance : EqG Tryd.prog 59 := ⟨Tryd.eqGuardType59⟩
instance : Ty Tryd.prog 60 (TypeDesc.tuple #[59, 29]) 1 0 (Value.tuple #[Value.agg #[Value.bool false, Value.slice none 0 0, Value.slice none 0 0, Value.slice none 0 0], Value.int IntKind.i64 0]) := ⟨Tryd.underlying60, Tryd.t60, info_of Tryd.typeInfo60, rfl, rfl, rfl⟩
instance : Ty Tryd.prog 61 (TypeDesc.func #[25] #[59, 29] false) 1 8 Value.nilFunc := ⟨Tryd.underlying61, Tryd.t61, info_of Tryd.typeInfo61, rfl, rfl, rfl⟩
instance : Ty Tryd.prog 62 (TypeDesc.func #[22, 54] #[4] false) 1 8 Value.nilFunc := ⟨Tryd.underlying62, Tryd.t62, info_of Tryd.typeInfo62, rfl, rfl, rfl⟩
instance : Ty Tryd.prog 63 (TypeDesc.struct #[{ name := "Rep", type := 5, offset := 0, embedded := false, tag := "", pkgPath := "", byteOffset := 0 }, { name := "Seq", type := 26, offset := 1, embedded := false, tag := "", pkgPath := "", byteOffset := 4 }]) 2 8 (Value.agg #[Value.int IntKind.u8 0, Value.int IntKind.u32 0]) := ⟨Tryd.underlying63, Tryd.t63, info_of Tryd.typeInfo63, rfl, rfl, rfl⟩
instance : Fld Tryd.prog 63 0 0 5 := ⟨_, _, Tryd.underlying63, rfl, rfl, rfl⟩
instance : Fld Tryd.prog 63 1 1 26 := ⟨_, _, Tryd.underlying63, rfl, rfl, rfl⟩
instance : EqG Tryd.prog 63 := ⟨Tryd.eqGuardType63⟩
instance : Ty Tryd.prog 64 (TypeDesc.struct #[{ name := "Rep", type := 5, offset := 0, embedded := false, tag := "", pkgPath := "", byteOffset := 0 }, { name := "Seq", type := 26, offset := 1, embedded := false, tag := "", pkgPath := "", byteOffset := 4 }]) 2 8 (Value.agg #[Value.int IntKind.u8 0, Value.int IntKind.u32 0]) := ⟨Tryd.underlying64, Tryd.t64, info_of Tryd.typeInfo64, rfl, rfl, rfl⟩
instance : Fld Tryd.prog 64 0 0 5 := ⟨_, _, Tryd.underlying64, rfl, rfl, rfl⟩
instance : Fld Tryd.prog 64 1 1 26 := ⟨_, _, Tryd.underlying64, rfl, rfl, rfl⟩
instance : EqG Tryd.prog 64 := ⟨Tryd.eqGuardType64⟩
instance : Ty Tryd.prog 65 (TypeDesc.struct #[{ name := "Cart", type := 54, offset := 0, embedded := false, tag := "", pkgPath := "", byteOffset := 0 }, { name := "Dot", type := 64, offset := 1, embedded := false, tag := "", pkgPath := "", byteOffset := 4 }]) 3 12 (Value.agg #[Value.int IntKind.u16 0, Value.int IntKind.u8 0, Value.int IntKind.u32 0]) := ⟨Tryd.underlying65, Tryd.t65, info_of Tryd.typeInfo65, rfl, rfl, rfl⟩
instance : Fld Tryd.prog 65 0 0 54 := ⟨_, _, Tryd.underlying65, rfl, rfl, rfl⟩
instance : Fld Tryd.prog 65 1 1 64 := ⟨_, _, Tryd.underlying65, rfl, rfl, rfl⟩
instance : EqG Tryd.prog 65 := ⟨Tryd.eqGuardType65⟩
instance : Ty Tryd.prog 66 (TypeDesc.struct #[{ name := "Cart", type := 54, offset := 0, embedded := false, tag := "", pkgPath := "", byteOffset := 0 }, { name := "Dot", type := 64, offset := 1, embedded := false, tag := "", pkgPath := "", byteOffset := 4 }]) 3 12 (Value.agg #[Value.int IntKind.u16 0, Value.int IntKind.u8 0, Value.int IntKind.u32 0]) := ⟨Tryd.underlying66, Tryd.t66, info_of Tryd.typeInfo66, rfl, rfl, rfl⟩
instance : Fld Tryd.prog 66 0 0 54 := ⟨_, _, Tryd.underlying66, rfl, rfl, rfl⟩
instance : Fld Tryd.prog 66 1 1 64 := ⟨_, _, Tryd.underlying66, rfl, rfl, rfl⟩
instance : EqG Tryd.prog 66 := ⟨Tryd.eqGuardType66⟩
instance : Ty Tryd.prog 67 (TypeDesc.struct #[{ name := "Seg", type := 26, offset := 0, embedded := false, tag := "", pkgPath := "", byteOffset := 0 }, { name := "At", type := 26, offset := 1, embedded := false, tag := "", pkgPath := "", byteOffset := 4 }]) 2 8 (Value.agg #[Value.int IntKind.u32 0, Value.int IntKind.u32 0]) := ⟨Tryd.underlying67, Tryd.t67, info_of Tryd.typeInfo67, rfl, rfl, rfl⟩
instance : Fld Tryd.prog 67 0 0 26 := ⟨_, _, Tryd.underlying67, rfl, rfl, rfl⟩
instance : Fld Tryd.prog 67 1 1 26 := ⟨_, _, Tryd.underlying67, rfl, rfl, rfl⟩
instance : EqG Tryd.prog 67 := ⟨Tryd.eqGuardType67⟩
instance : Ty Tryd.prog 68 (TypeDesc.struct #[{ name := "Seg", type := 26, offset := 0, embedded := false, tag := "", pkgPath := "", byteOffset := 0 }, { name := "At", type := 26, offset := 1, embedded := false, tag := "", pkgPath := "", byteOffset := 4 }]) 2 8 (Value.agg #[Value.int IntKind.u32 0, Value.int IntKind.u32 0]) := ⟨Tryd.underlying68, Tryd.t68, info_of Tryd.typeInfo68, rfl, rfl, rfl⟩
instance : Fld Tryd.prog 68 0 0 26 := ⟨_, _, Tryd.underlying68, rfl, rfl, rfl⟩
instance : Fld Tryd.prog 68 1 1 26 := ⟨_, _, Tryd.underlying68, rfl, rfl, rfl⟩
instance : EqG Tryd.prog 68 := ⟨Tryd.eqGuardType68⟩
instance : Ty Tryd.prog 69 (TypeDesc.struct #[{ name := "Key", type := 66, offset := 0, embedded := false, tag := "", pkgPath := "", byteOffset := 0 }, { name := "Loc", type := 68, offset := 3, embedded := false, tag := "", pkgPath := "", byteOffset := 12 }]) 5 20 (Value.agg #[Value.int IntKind.u16 0, Value.int IntKind.u8 0, Value.int IntKind.u32 0, Value.int IntKind.u32 0, Value.int IntKind.u32 0]) := ⟨Tryd.underlying69, Tryd.t69, info_of Tryd.typeInfo69, rfl, rfl, rfl⟩
instance : Fld Tryd.prog 69 0 0 66 := ⟨_, _, Tryd.underlying69, rfl, rfl, rfl⟩
instance : Fld Tryd.prog 69 1 3 68 := ⟨_, _, Tryd.underlying69, rfl, rfl, rfl⟩
instance : EqG Tryd.prog 69 := ⟨Tryd.eqGuardType69⟩
instance : Ty Tryd.prog 70 (TypeDesc.struct #[{ name := "Key", type := 66, offset := 0, embedded := false, tag := "", pkgPath := "", byteOffset := 0 }, { name := "Loc", type := 68, offset := 3, embedded := false, tag := "", pkgPath := "", byteOffset := 12 }]) 5 20 (Value.agg #[Value.int IntKind.u16 0, Value.int IntKind.u8 0, Value.int IntKind.u32 0, Value.int IntKind.u32 0, Value.int IntKind.u32 0]) := ⟨Tryd.underlying70, Tryd.t70, info_of Tryd.typeInfo70, rfl, rfl, rfl⟩
instance : Fld Tryd.prog 70 0 0 66 := ⟨_, _, Tryd.underlying70, rfl, rfl, rfl⟩
instance : Fld Tryd.prog 70 1 3 68 := ⟨_, _, Tryd.underlying70, rfl, rfl, rfl⟩
instance : EqG Tryd.prog 70 := ⟨Tryd.eqGuardType70⟩
instance : Ty Tryd.prog 71 (TypeDesc.func #[32] #[4] false) 1 8 Value.nilFunc := ⟨Tryd.underlying71, Tryd.t71, info_of Tryd.typeInfo71, rfl, rfl, rfl⟩
instance : Ty Tryd.prog 72 (TypeDesc.pointer 74) 1 8 (Value.pointer none) := ⟨Tryd.underlying72, Tryd.t72, info_of Tryd.typeInfo72, rfl, rfl, rfl⟩
instance : Ty Tryd.prog 73 (TypeDesc.struct #[{ name := "b", type := 25, offset := 0, embedded := false, tag := "", pkgPath := "trug/roots", byteOffset := 0 }, { name := "base", type := 3, offset := 1, embedded := false, tag := "", pkgPath := "trug/roots", byteOffset := 24 }]) 2 32 (Value.agg #[Value.slice none 0 0, Value.int IntKind.i64 0]) := ⟨Tryd.underlying73, Tryd.t73, info_of Tryd.typeInfo73, rfl, rfl, rfl⟩
instance : Fld Tryd.prog 73 0 0 25 := ⟨_, _, Tryd.underlying73, rfl, rfl, rfl⟩
instance : Fld Tryd.prog 73 1 1 3 := ⟨_, _, Tryd.underlying73, rfl, rfl, rfl⟩
instance : EqG Tryd.prog 73 := ⟨Tryd.eqGuardType73⟩
instance : Ty Tryd.prog 74 (TypeDesc.struct #[{ name := "b", type := 25, offset := 0, embedded := false, tag := "", pkgPath := "trug/roots", byteOffset := 0 }, { name := "base", type := 3, offset := 1, embedded := false, tag := "", pkgPath := "trug/roots", byteOffset := 24 }]) 2 32 (Value.agg #[Value.slice none 0 0, Value.int IntKind.i64 0]) := ⟨Tryd.underlying74, Tryd.t74, info_of Tryd.typeInfo74, rfl, rfl, rfl⟩
instance : Fld Tryd.prog 74 0 0 25 := ⟨_, _, Tryd.underlying74, rfl, rfl, rfl⟩
instance : Fld Tryd.prog 74 1 1 3 := ⟨_, _, Tryd.underlying74, rfl, rfl, rfl⟩
instance : EqG Tryd.prog 74 := ⟨Tryd.eqGuardType74⟩
instance : Ty Tryd.prog 75 (TypeDesc.slice 79) 1 24 (Value.slice none 0 0) := ⟨Tryd.underlying75, Tryd.t75, info_of Tryd.typeInfo75, rfl, rfl, rfl⟩
instance : Ty Tryd.prog 76 (TypeDesc.func #[32] #[75] false) 1 8 Value.nilFunc := ⟨Tryd.underlying76, Tryd.t76, info_of Tryd.typeInfo76, rfl, rfl, rfl⟩
instance : Ty Tryd.prog 77 (TypeDesc.func #[75] #[75] false) 1 8 Value.nilFunc := ⟨Tryd.underlying77, Tryd.t77, info_of Tryd.typeInfo77, rfl, rfl, rfl⟩
instance : Ty Tryd.prog 78 (TypeDesc.struct #[{ name := "key", type := 66, offset := 0, embedded := false, tag := "", pkgPath := "trug/roots", byteOffset := 0 }, { name := "at", type := 3, offset := 3, embedded := false, tag := "", pkgPath := "trug/roots", byteOffset := 16 }]) 4 24 (Value.agg #[Value.int IntKind.u16 0, Value.int IntKind.u8 0, Value.int IntKind.u32 0, Value.int IntKind.i64 0]) := ⟨Tryd.underlying78, Tryd.t78, info_of Tryd.typeInfo78, rfl, rfl, rfl⟩
instance : Fld Tryd.prog 78 0 0 66 := ⟨_, _, Tryd.underlying78, rfl, rfl, rfl⟩
instance : Fld Tryd.prog 78 1 3 3 := ⟨_, _, Tryd.underlying78, rfl, rfl, rfl⟩
instance : EqG Tryd.prog 78 := ⟨Tryd.eqGuardType78⟩
instance : Ty Tryd.prog 79 (TypeDesc.struct #[{ name := "key", type := 66, offset := 0, embedded := false, tag := "", pkgPath := "trug/roots", byteOffset := 0 }, { name := "at", type := 3, offset := 3, embedded := false, tag := "", pkgPath := "trug/roots", byteOffset := 16 }]) 4 24 (Value.agg #[Value.int IntKind.u16 0, Value.int IntKind.u8 0, Value.int IntKind.u32 0, Value.int IntKind.i64 0]) := ⟨Tryd.underlying79, Tryd.t79, info_of Tryd.typeInfo79, rfl, rfl, rfl⟩
instance : Fld Tryd.prog 79 0 0 66 := ⟨_, _, Tryd.underlying79, rfl, rfl, rfl⟩
instance : Fld Tryd.prog 79 1 3 3 := ⟨_, _, Tryd.underlying79, rfl, rfl, rfl⟩
instance : EqG Tryd.prog 79 := ⟨Tryd.eqGuardType79⟩
instance : Ty Tryd.prog 80 (TypeDesc.struct #[{ name := "Cart", type := 54, offset := 0, embedded := false, tag := "", pkgPath := "", byteOffset := 0 }, { name := "Dot", type := 64, offset := 1, embedded := false, tag := "", pkgPath := "", byteOffset := 4 }]) 3 12 (Value.agg #[Value.int IntKind.u16 0, Value.int IntKind.u8 0, Value.int IntKind.u32 0]) := ⟨Tryd.underlying80, Tryd.t80, info_of Tryd.typeInfo80, rfl, rfl, rfl⟩
instance : Fld Tryd.prog 80 0 0 54 := ⟨_, _, Tryd.underlying80, rfl, rfl, rfl⟩
instance : Fld Tryd.prog 80 1 1 64 := ⟨_, _, Tryd.underlying80, rfl, rfl, rfl⟩
instance : EqG Tryd.prog 80 := ⟨Tryd.eqGuardType80⟩
instance : Ty Tryd.prog 81 (TypeDesc.struct #[{ name := "Seg", type := 26, offset := 0, embedded := false, tag := "", pkgPath := "", byteOffset := 0 }, { name := "At", type := 26, offset := 1, embedded := false, tag := "", pkgPath := "", byteOffset := 4 }]) 2 8 (Value.agg #[Value.int IntKind.u32 0, Value.int IntKind.u32 0]) := ⟨Tryd.underlying81, Tryd.t81, info_of Tryd.typeInfo81, rfl, rfl, rfl⟩
instance : Fld Tryd.prog 81 0 0 26 := ⟨_, _, Tryd.underlying81, rfl, rfl, rfl⟩
instance : Fld Tryd.prog 81 1 1 26 := ⟨_, _, Tryd.underlying81, rfl, rfl, rfl⟩
instance : EqG Tryd.prog 81 := ⟨Tryd.eqGuardType81⟩
instance : Ty Tryd.prog 82 (TypeDesc.struct #[{ name := "Key", type := 80, offset := 0, embedded := false, tag := "", pkgPath := "", byteOffset := 0 }, { name := "Loc", type := 81, offset := 3, embedded := false, tag := "", pkgPath := "", byteOffset := 12 }]) 5 20 (Value.agg #[Value.int IntKind.u16 0, Value.int IntKind.u8 0, Value.int IntKind.u32 0, Value.int IntKind.u32 0, Value.int IntKind.u32 0]) := ⟨Tryd.underlying82, Tryd.t82, info_of Tryd.typeInfo82, rfl, rfl, rfl⟩
instance : Fld Tryd.prog 82 0 0 80 := ⟨_, _, Tryd.underlying82, rfl, rfl, rfl⟩
instance : Fld Tryd.prog 82 1 3 81 := ⟨_, _, Tryd.underlying82, rfl, rfl, rfl⟩
instance : EqG Tryd.prog 82 := ⟨Tryd.eqGuardType82⟩
instance : Ty Tryd.prog 83 (TypeDesc.struct #[{ name := "Key", type := 80, offset := 0, embedded := false, tag := "", pkgPath := "", byteOffset := 0 }, { name := "Loc", type := 81, offset := 3, embedded := false, tag := "", pkgPath := "", byteOffset := 12 }]) 5 20 (Value.agg #[Value.int IntKind.u16 0, Value.int IntKind.u8 0, Value.int IntKind.u32 0, Value.int IntKind.u32 0, Value.int IntKind.u32 0]) := ⟨Tryd.underlying83, Tryd.t83, info_of Tryd.typeInfo83, rfl, rfl, rfl⟩
instance : Fld Tryd.prog 83 0 0 80 := ⟨_, _, Tryd.underlying83, rfl, rfl, rfl⟩
instance : Fld Tryd.prog 83 1 3 81 := ⟨_, _, Tryd.underlying83, rfl, rfl, rfl⟩
instance : EqG Tryd.prog 83 := ⟨Tryd.eqGuardType83⟩
instance : Ty Tryd.prog 84 (TypeDesc.func #[22] #[4] false) 1 8 Value.nilFunc := ⟨Tryd.underlying84, Tryd.t84, info_of Tryd.typeInfo84, rfl, rfl, rfl⟩
instance : Ty Tryd.prog 85 (TypeDesc.slice 91) 1 24 (Value.slice none 0 0) := ⟨Tryd.underlying85, Tryd.t85, info_of Tryd.typeInfo85, rfl, rfl, rfl⟩
instance : Ty Tryd.prog 86 (TypeDesc.tuple #[25, 85]) 1 0 (Value.tuple #[Value.slice none 0 0, Value.slice none 0 0]) := ⟨Tryd.underlying86, Tryd.t86, info_of Tryd.typeInfo86, rfl, rfl, rfl⟩
instance : Ty Tryd.prog 87 (TypeDesc.func #[22, 3] #[25, 85] false) 1 8 Value.nilFunc := ⟨Tryd.underlying87, Tryd.t87, info_of Tryd.typeInfo87, rfl, rfl, rfl⟩
instance : Ty Tryd.prog 88 (TypeDesc.func #[85, 3] #[25, 85] false) 1 8 Value.nilFunc := ⟨Tryd.underlying88, Tryd.t88, info_of Tryd.typeInfo88, rfl, rfl, rfl⟩
instance : Ty Tryd.prog 89 (TypeDesc.func #[25, 25] #[25] false) 1 8 Value.nilFunc := ⟨Tryd.underlying89, Tryd.t89, info_of Tryd.typeInfo89, rfl, rfl, rfl⟩
instance : Ty Tryd.prog 90 (TypeDesc.struct #[{ name := "Key", type := 80, offset := 0, embedded := false, tag := "", pkgPath := "", byteOffset := 0 }, { name := "At", type := 3, offset := 3, embedded := false, tag := "", pkgPath := "", byteOffset := 16 }]) 4 24 (Value.agg #[Value.int IntKind.u16 0, Value.int IntKind.u8 0, Value.int IntKind.u32 0, Value.int IntKind.i64 0]) := ⟨Tryd.underlying90, Tryd.t90, info_of Tryd.typeInfo90, rfl, rfl, rfl⟩
instance : Fld Tryd.prog 90 0 0 80 := ⟨_, _, Tryd.underlying90, rfl, rfl, rfl⟩
instance : Fld Tryd.prog 90 1 3 3 := ⟨_, _, Tryd.underlying90, rfl, rfl, rfl⟩
instance : EqG Tryd.prog 90 := ⟨Tryd.eqGuardType90⟩
instance : Ty Tryd.prog 91 (TypeDesc.struct #[{ name := "Key", type := 80, offset := 0, embedded := false, tag := "", pkgPath := "", byteOffset := 0 }, { name := "At", type := 3, offset := 3, embedded := false, tag := "", pkgPath := "", byteOffset := 16 }]) 4 24 (Value.agg #[Value.int IntKind.u16 0, Value.int IntKind.u8 0, Value.int IntKind.u32 0, Value.int IntKind.i64 0]) := ⟨Tryd.underlying91, Tryd.t91, info_of Tryd.typeInfo91, rfl, rfl, rfl⟩
instance : Fld Tryd.prog 91 0 0 80 := ⟨_, _, Tryd.underlying91, rfl, rfl, rfl⟩
instance : Fld Tryd.prog 91 1 3 3 := ⟨_, _, Tryd.underlying91, rfl, rfl, rfl⟩
instance : EqG Tryd.prog 91 := ⟨Tryd.eqGuardType91⟩
instance : Ty Tryd.prog 92 (TypeDesc.pointer 94) 1 8 (Value.pointer none) := ⟨Tryd.underlying92, Tryd.t92, info_of Tryd.typeInfo92, rfl, rfl, rfl⟩
instance : Ty Tryd.prog 93 (TypeDesc.struct #[{ name := "b", type := 25, offset := 0, embedded := false, tag := "", pkgPath := "trug/roots", byteOffset := 0 }, { name := "left", type := 3, offset := 1, embedded := false, tag := "", pkgPath := "trug/roots", byteOffset := 24 }, { name := "out", type := 32, offset := 2, embedded := false, tag := "", pkgPath := "trug/roots", byteOffset := 32 }]) 3 56 (Value.agg #[Value.slice none 0 0, Value.int IntKind.i64 0, Value.slice none 0 0]) := ⟨Tryd.underlying93, Tryd.t93, info_of Tryd.typeInfo93, rfl, rfl, rfl⟩
instance : Fld Tryd.prog 93 0 0 25 := ⟨_, _, Tryd.underlying93, rfl, rfl, rfl⟩
instance : Fld Tryd.prog 93 1 1 3 := ⟨_, _, Tryd.underlying93, rfl, rfl, rfl⟩
instance : Fld Tryd.prog 93 2 2 32 := ⟨_, _, Tryd.underlying93, rfl, rfl, rfl⟩
instance : EqG Tryd.prog 93 := ⟨Tryd.eqGuardType93⟩
instance : Ty Tryd.prog 94 (TypeDesc.struct #[{ name := "b", type := 25, offset := 0, embedded := false, tag := "", pkgPath := "trug/roots", byteOffset := 0 }, { name := "left", type := 3, offset := 1, embedded := false, tag := "", pkgPath := "trug/roots", byteOffset := 24 }, { name := "out", type := 32, offset := 2, embedded := false, tag := "", pkgPath := "trug/roots", byteOffset := 32 }]) 3 56 (Value.agg #[Value.slice none 0 0, Value.int IntKind.i64 0, Value.slice none 0 0]) := ⟨Tryd.underlying94, Tryd.t94, info_of Tryd.typeInfo94, rfl, rfl, rfl⟩
instance : Fld Tryd.prog 94 0 0 25 := ⟨_, _, Tryd.underlying94, rfl, rfl, rfl⟩
instance : Fld Tryd.prog 94 1 1 3 := ⟨_, _, Tryd.underlying94, rfl, rfl, rfl⟩
instance : Fld Tryd.prog 94 2 2 32 := ⟨_, _, Tryd.underlying94, rfl, rfl, rfl⟩
instance : EqG Tryd.prog 94 := ⟨Tryd.eqGuardType94⟩
instance : Ty Tryd.prog 95 (TypeDesc.func #[26] #[4] false) 1 8 Value.nilFunc := ⟨Tryd.underlying95, Tryd.t95, info_of Tryd.typeInfo95, rfl, rfl, rfl⟩
instance : Ty Tryd.prog 96 (TypeDesc.tuple #[22, 4]) 1 0 (Value.tuple #[Value.slice none 0 0, Value.bool false]) := ⟨Tryd.underlying96, Tryd.t96, info_of Tryd.typeInfo96, rfl, rfl, rfl⟩
instance : Ty Tryd.prog 97 (TypeDesc.func #[25, 3] #[22, 4] false) 1 8 Value.nilFunc := ⟨Tryd.underlying97, Tryd.t97, info_of Tryd.typeInfo97, rfl, rfl, rfl⟩
instance : Ty Tryd.prog 98 (TypeDesc.tuple #[28, 4]) 1 0 (Value.tuple #[Value.agg #[Value.int IntKind.u64 0, Value.int IntKind.u32 0, Value.int IntKind.u32 0, Value.int IntKind.u32 0], Value.bool false]) := ⟨Tryd.underlying98, Tryd.t98, info_of Tryd.typeInfo98, rfl, rfl, rfl⟩
instance : Ty Tryd.prog 99 (TypeDesc.func #[25] #[28, 4] false) 1 8 Value.nilFunc := ⟨Tryd.underlying99, Tryd.t99, info_of Tryd.typeInfo99, rfl, rfl, rfl⟩
instance : Ty Tryd.prog 100 (TypeDesc.tuple #[34, 4]) 1 0 (Value.tuple #[Value.agg #[Value.int IntKind.u64 0, Value.int IntKind.u32 0, Value.int IntKind.u32 0, Value.int IntKind.u32 0], Value.bool false]) := ⟨Tryd.underlying100, Tryd.t100, info_of Tryd.typeInfo100, rfl, rfl, rfl⟩
instance : Ty Tryd.prog 101 (TypeDesc.func #[25] #[34, 4] false) 1 8 Value.nilFunc := ⟨Tryd.underlying101, Tryd.t101, info_of Tryd.typeInfo101, rfl, rfl, rfl⟩
instance : Ty Tryd.prog 102 (TypeDesc.pointer 152) 1 8 (Value.pointer none) := ⟨Tryd.underlying102, Tryd.t102, info_of Tryd.typeInfo102, rfl, rfl, rfl⟩
instance : Ty Tryd.prog 103 (TypeDesc.func #[] #[102] false) 1 8 Value.nilFunc := ⟨Tryd.underlying103, Tryd.t103, info_of Tryd.typeInfo103, rfl, rfl, rfl⟩
instance : Ty Tryd.prog 104 (TypeDesc.array 4 23) 4 32 (Value.agg #[Value.int IntKind.u64 0, Value.int IntKind.u64 0, Value.int IntKind.u64 0, Value.int IntKind.u64 0]) := ⟨Tryd.underlying104, Tryd.t104, info_of Tryd.typeInfo104, rfl, rfl, rfl⟩
instance : EqG Tryd.prog 104 := ⟨Tryd.eqGuardType104⟩
instance : Ty Tryd.prog 105 (TypeDesc.func #[23] #[29] false) 1 8 Value.nilFunc := ⟨Tryd.underlying105, Tryd.t105, info_of Tryd.typeInfo105, rfl, rfl, rfl⟩
instance : Ty Tryd.prog 106 (TypeDesc.tuple #[25, 29]) 1 0 (Value.tuple #[Value.slice none 0 0, Value.int IntKind.i64 0]) := ⟨Tryd.underlying106, Tryd.t106, info_of Tryd.typeInfo106, rfl, rfl, rfl⟩
instance : Ty Tryd.prog 107 (TypeDesc.func #[] #[25, 29] false) 1 8 Value.nilFunc := ⟨Tryd.underlying107, Tryd.t107, info_of Tryd.typeInfo107, rfl, rfl, rfl⟩
instance : Ty Tryd.prog 108 (TypeDesc.func #[25] #[25, 29] false) 1 8 Value.nilFunc := ⟨Tryd.underlying108, Tryd.t108, info_of Tryd.typeInfo108, rfl, rfl, rfl⟩
instance : Ty Tryd.prog 109 (TypeDesc.slice 23) 1 24 (Value.slice none 0 0) := ⟨Tryd.underlying109, Tryd.t109, info_of Tryd.typeInfo109, rfl, rfl, rfl⟩
instance : Ty Tryd.prog 110 (TypeDesc.func #[23] #[25] false) 1 8 Value.nilFunc := ⟨Tryd.underlying110, Tryd.t110, info_of Tryd.typeInfo110, rfl, rfl, rfl⟩
instance : Ty Tryd.prog 111 (TypeDesc.tuple #[25, 3]) 1 0 (Value.tuple #[Value.slice none 0 0, Value.int IntKind.i64 0]) := ⟨Tryd.underlying111, Tryd.t111, info_of Tryd.typeInfo111, rfl, rfl, rfl⟩
instance : Ty Tryd.prog 112 (TypeDesc.func #[25] #[25, 3] false) 1 8 Value.nilFunc := ⟨Tryd.underlying112, Tryd.t112, info_of Tryd.typeInfo112, rfl, rfl, rfl⟩
instance : Ty Tryd.prog 113 (TypeDesc.tuple #[25, 3, 29]) 1 0 (Value.tuple #[Value.slice none 0 0, Value.int IntKind.i64 0, Value.int IntKind.i64 0]) := ⟨Tryd.underlying113, Tryd.t113, info_of Tryd.typeInfo113, rfl, rfl, rfl⟩
instance : Ty Tryd.prog 114 (TypeDesc.func #[25] #[25, 3, 29] false) 1 8 Value.nilFunc := ⟨Tryd.underlying114, Tryd.t114, info_of Tryd.typeInfo114, rfl, rfl, rfl⟩
instance : Ty Tryd.prog 115 (TypeDesc.pointer 119) 1 8 (Value.pointer none) := ⟨Tryd.underlying115, Tryd.t115, info_of Tryd.typeInfo115, rfl, rfl, rfl⟩
instance : Ty Tryd.prog 116 (TypeDesc.pointer 160) 1 8 (Value.pointer none) := ⟨Tryd.underlying116, Tryd.t116, info_of Tryd.typeInfo116, rfl, rfl, rfl⟩
instance : Ty Tryd.prog 117 (TypeDesc.func #[25] #[116] false) 1 8 Value.nilFunc := ⟨Tryd.underlying117, Tryd.t117, info_of Tryd.typeInfo117, rfl, rfl, rfl⟩
instance : Ty Tryd.prog 118 (TypeDesc.struct #[{ name := "r", type := 116, offset := 0, embedded := false, tag := "", pkgPath := "trug/page", byteOffset := 0 }, { name := "bad", type := 4, offset := 1, embedded := false, tag := "", pkgPath := "trug/page", byteOffset := 8 }]) 2 16 (Value.agg #[Value.pointer none, Value.bool false]) := ⟨Tryd.underlying118, Tryd.t118, info_of Tryd.typeInfo118, rfl, rfl, rfl⟩
instance : Fld Tryd.prog 118 0 0 116 := ⟨_, _, Tryd.underlying118, rfl, rfl, rfl⟩
instance : Fld Tryd.prog 118 1 1 4 := ⟨_, _, Tryd.underlying118, rfl, rfl, rfl⟩
instance : EqG Tryd.prog 118 := ⟨Tryd.eqGuardType118⟩
instance : Ty Tryd.prog 119 (TypeDesc.struct #[{ name := "r", type := 116, offset := 0, embedded := false, tag := "", pkgPath := "trug/page", byteOffset := 0 }, { name := "bad", type := 4, offset := 1, embedded := false, tag := "", pkgPath := "trug/page", byteOffset := 8 }]) 2 16 (Value.agg #[Value.pointer none, Value.bool false]) := ⟨Tryd.underlying119, Tryd.t119, info_of Tryd.typeInfo119, rfl, rfl, rfl⟩
instance : Fld Tryd.prog 119 0 0 116 := ⟨_, _, Tryd.underlying119, rfl, rfl, rfl⟩
instance : Fld Tryd.prog 119 1 1 4 := ⟨_, _, Tryd.underlying119, rfl, rfl, rfl⟩
instance : EqG Tryd.prog 119 := ⟨Tryd.eqGuardType119⟩
instance : Ty Tryd.prog 120 (TypeDesc.func #[3] #[26] false) 1 8 Value.nilFunc := ⟨Tryd.underlying120, Tryd.t120, info_of Tryd.typeInfo120, rfl, rfl, rfl⟩
instance : Ty Tryd.prog 121 (TypeDesc.func #[59] #[4] false) 1 8 Value.nilFunc := ⟨Tryd.underlying121, Tryd.t121, info_of Tryd.typeInfo121, rfl, rfl, rfl⟩
instance : Ty Tryd.prog 122 (TypeDesc.func #[66, 66] #[4] false) 1 8 Value.nilFunc := ⟨Tryd.underlying122, Tryd.t122, info_of Tryd.typeInfo122, rfl, rfl, rfl⟩
instance : Ty Tryd.prog 123 (TypeDesc.func #[59] #[79] false) 1 8 Value.nilFunc := ⟨Tryd.underlying123, Tryd.t123, info_of Tryd.typeInfo123, rfl, rfl, rfl⟩
instance : Ty Tryd.prog 124 (TypeDesc.func #[71] #[] false) 1 8 Value.nilFunc := ⟨Tryd.underlying124, Tryd.t124, info_of Tryd.typeInfo124, rfl, rfl, rfl⟩
instance : Ty Tryd.prog 125 (TypeDesc.func #[71] #[] false) 1 8 Value.nilFunc := ⟨Tryd.underlying125, Tryd.t125, info_of Tryd.typeInfo125, rfl, rfl, rfl⟩
instance : Ty Tryd.prog 126 (TypeDesc.func #[32, 3] #[125] false) 1 8 Value.nilFunc := ⟨Tryd.underlying126, Tryd.t126, info_of Tryd.typeInfo126, rfl, rfl, rfl⟩
instance : Ty Tryd.prog 127 (TypeDesc.func #[163] #[] false) 1 8 Value.nilFunc := ⟨Tryd.underlying127, Tryd.t127, info_of Tryd.typeInfo127, rfl, rfl, rfl⟩
instance : Ty Tryd.prog 128 (TypeDesc.func #[163] #[] false) 1 8 Value.nilFunc := ⟨Tryd.underlying128, Tryd.t128, info_of Tryd.typeInfo128, rfl, rfl, rfl⟩
instance : Ty Tryd.prog 129 (TypeDesc.func #[75, 3] #[128] false) 1 8 Value.nilFunc := ⟨Tryd.underlying129, Tryd.t129, info_of Tryd.typeInfo129, rfl, rfl, rfl⟩
instance : Ty Tryd.prog 130 (TypeDesc.func #[80, 80] #[4] false) 1 8 Value.nilFunc := ⟨Tryd.underlying130, Tryd.t130, info_of Tryd.typeInfo130, rfl, rfl, rfl⟩
instance : Ty Tryd.prog 131 (TypeDesc.slice 80) 1 24 (Value.slice none 0 0) := ⟨Tryd.underlying131, Tryd.t131, info_of Tryd.typeInfo131, rfl, rfl, rfl⟩
instance : Ty Tryd.prog 132 (TypeDesc.slice 81) 1 24 (Value.slice none 0 0) := ⟨Tryd.underlying132, Tryd.t132, info_of Tryd.typeInfo132, rfl, rfl, rfl⟩
instance : Ty Tryd.prog 133 (TypeDesc.struct #[{ name := "Leaf", type := 4, offset := 0, embedded := false, tag := "", pkgPath := "", byteOffset := 0 }, { name := "Keys", type := 131, offset := 1, embedded := false, tag := "", pkgPath := "", byteOffset := 8 }, { name := "Locs", type := 132, offset := 2, embedded := false, tag := "", pkgPath := "", byteOffset := 32 }, { name := "Kids", type := 57, offset := 3, embedded := false, tag := "", pkgPath := "", byteOffset := 56 }]) 4 80 (Value.agg #[Value.bool false, Value.slice none 0 0, Value.slice none 0 0, Value.slice none 0 0]) := ⟨Tryd.underlying133, Tryd.t133, info_of Tryd.typeInfo133, rfl, rfl, rfl⟩
instance : Fld Tryd.prog 133 0 0 4 := ⟨_, _, Tryd.underlying133, rfl, rfl, rfl⟩
instance : Fld Tryd.prog 133 1 1 131 := ⟨_, _, Tryd.underlying133, rfl, rfl, rfl⟩
instance : Fld Tryd.prog 133 2 2 132 := ⟨_, _, Tryd.underlying133, rfl, rfl, rfl⟩
instance : Fld Tryd.prog 133 3 3 57 := ⟨_, _, Tryd.underlying133, rfl, rfl, rfl⟩
instance : EqG Tryd.prog 133 := ⟨Tryd.eqGuardType133⟩
instance : Ty Tryd.prog 134 (TypeDesc.struct #[{ name := "Leaf", type := 4, offset := 0, embedded := false, tag := "", pkgPath := "", byteOffset := 0 }, { name := "Keys", type := 131, offset := 1, embedded := false, tag := "", pkgPath := "", byteOffset := 8 }, { name := "Locs", type := 132, offset := 2, embedded := false, tag := "", pkgPath := "", byteOffset := 32 }, { name := "Kids", type := 57, offset := 3, embedded := false, tag := "", pkgPath := "", byteOffset := 56 }]) 4 80 (Value.agg #[Value.bool false, Value.slice none 0 0, Value.slice none 0 0, Value.slice none 0 0]) := ⟨Tryd.underlying134, Tryd.t134, info_of Tryd.typeInfo134, rfl, rfl, rfl⟩
instance : Fld Tryd.prog 134 0 0 4 := ⟨_, _, Tryd.underlying134, rfl, rfl, rfl⟩
instance : Fld Tryd.prog 134 1 1 131 := ⟨_, _, Tryd.underlying134, rfl, rfl, rfl⟩
instance : Fld Tryd.prog 134 2 2 132 := ⟨_, _, Tryd.underlying134, rfl, rfl, rfl⟩
instance : Fld Tryd.prog 134 3 3 57 := ⟨_, _, Tryd.underlying134, rfl, rfl, rfl⟩
instance : EqG Tryd.prog 134 := ⟨Tryd.eqGuardType134⟩
instance : Ty Tryd.prog 135 (TypeDesc.func #[134] #[25, 3] false) 1 8 Value.nilFunc := ⟨Tryd.underlying135, Tryd.t135, info_of Tryd.typeInfo135, rfl, rfl, rfl⟩
instance : Ty Tryd.prog 136 (TypeDesc.slice 3) 1 24 (Value.slice none 0 0) := ⟨Tryd.underlying136, Tryd.t136, info_of Tryd.typeInfo136, rfl, rfl, rfl⟩
instance : Ty Tryd.prog 137 (TypeDesc.tuple #[134, 4]) 1 0 (Value.tuple #[Value.agg #[Value.bool false, Value.slice none 0 0, Value.slice none 0 0, Value.slice none 0 0], Value.bool false]) := ⟨Tryd.underlying137, Tryd.t137, info_of Tryd.typeInfo137, rfl, rfl, rfl⟩
instance : Ty Tryd.prog 138 (TypeDesc.func #[25, 3] #[134, 4] false) 1 8 Value.nilFunc := ⟨Tryd.underlying138, Tryd.t138, info_of Tryd.typeInfo138, rfl, rfl, rfl⟩
instance : Ty Tryd.prog 139 (TypeDesc.tuple #[23, 29]) 1 0 (Value.tuple #[Value.int IntKind.u64 0, Value.int IntKind.i64 0]) := ⟨Tryd.underlying139, Tryd.t139, info_of Tryd.typeInfo139, rfl, rfl, rfl⟩
instance : Ty Tryd.prog 140 (TypeDesc.func #[] #[23, 29] false) 1 8 Value.nilFunc := ⟨Tryd.underlying140, Tryd.t140, info_of Tryd.typeInfo140, rfl, rfl, rfl⟩
instance : Ty Tryd.prog 141 (TypeDesc.array 3 23) 3 24 (Value.agg #[Value.int IntKind.u64 0, Value.int IntKind.u64 0, Value.int IntKind.u64 0]) := ⟨Tryd.underlying141, Tryd.t141, info_of Tryd.typeInfo141, rfl, rfl, rfl⟩
instance : EqG Tryd.prog 141 := ⟨Tryd.eqGuardType141⟩
instance : Ty Tryd.prog 142 (TypeDesc.int IntKind.u64) 1 8 (Value.int IntKind.u64 0) := ⟨Tryd.underlying142, Tryd.t142, info_of Tryd.typeInfo142, rfl, rfl, rfl⟩
instance : Ty Tryd.prog 143 (TypeDesc.tuple #[25, 3, 3]) 1 0 (Value.tuple #[Value.slice none 0 0, Value.int IntKind.i64 0, Value.int IntKind.i64 0]) := ⟨Tryd.underlying143, Tryd.t143, info_of Tryd.typeInfo143, rfl, rfl, rfl⟩
instance : Ty Tryd.prog 144 (TypeDesc.func #[25] #[25, 3, 3] false) 1 8 Value.nilFunc := ⟨Tryd.underlying144, Tryd.t144, info_of Tryd.typeInfo144, rfl, rfl, rfl⟩
instance : Ty Tryd.prog 145 (TypeDesc.struct #[{ name := "B", type := 25, offset := 0, embedded := false, tag := "", pkgPath := "", byteOffset := 0 }, { name := "Err", type := 3, offset := 1, embedded := false, tag := "", pkgPath := "", byteOffset := 24 }]) 2 32 (Value.agg #[Value.slice none 0 0, Value.int IntKind.i64 0]) := ⟨Tryd.underlying145, Tryd.t145, info_of Tryd.typeInfo145, rfl, rfl, rfl⟩
instance : Fld Tryd.prog 145 0 0 25 := ⟨_, _, Tryd.underlying145, rfl, rfl, rfl⟩
instance : Fld Tryd.prog 145 1 1 3 := ⟨_, _, Tryd.underlying145, rfl, rfl, rfl⟩
instance : EqG Tryd.prog 145 := ⟨Tryd.eqGuardType145⟩
instance : Ty Tryd.prog 146 (TypeDesc.struct #[{ name := "B", type := 25, offset := 0, embedded := false, tag := "", pkgPath := "", byteOffset := 0 }, { name := "Err", type := 3, offset := 1, embedded := false, tag := "", pkgPath := "", byteOffset := 24 }]) 2 32 (Value.agg #[Value.slice none 0 0, Value.int IntKind.i64 0]) := ⟨Tryd.underlying146, Tryd.t146, info_of Tryd.typeInfo146, rfl, rfl, rfl⟩
instance : Fld Tryd.prog 146 0 0 25 := ⟨_, _, Tryd.underlying146, rfl, rfl, rfl⟩
instance : Fld Tryd.prog 146 1 1 3 := ⟨_, _, Tryd.underlying146, rfl, rfl, rfl⟩
instance : EqG Tryd.prog 146 := ⟨Tryd.eqGuardType146⟩
instance : Ty Tryd.prog 147 (TypeDesc.tuple #[146, 23, 3]) 1 0 (Value.tuple #[Value.agg #[Value.slice none 0 0, Value.int IntKind.i64 0], Value.int IntKind.u64 0, Value.int IntKind.i64 0]) := ⟨Tryd.underlying147, Tryd.t147, info_of Tryd.typeInfo147, rfl, rfl, rfl⟩
instance : Ty Tryd.prog 148 (TypeDesc.func #[146] #[146, 23, 3] false) 1 8 Value.nilFunc := ⟨Tryd.underlying148, Tryd.t148, info_of Tryd.typeInfo148, rfl, rfl, rfl⟩
instance : Ty Tryd.prog 149 (TypeDesc.struct #[{ name := "made", type := 4, offset := 0, embedded := false, tag := "", pkgPath := "trug/pack", byteOffset := 0 }, { name := "e", type := 29, offset := 1, embedded := false, tag := "", pkgPath := "trug/pack", byteOffset := 8 }]) 2 16 (Value.agg #[Value.bool false, Value.int IntKind.i64 0]) := ⟨Tryd.underlying149, Tryd.t149, info_of Tryd.typeInfo149, rfl, rfl, rfl⟩
instance : Fld Tryd.prog 149 0 0 4 := ⟨_, _, Tryd.underlying149, rfl, rfl, rfl⟩
instance : Fld Tryd.prog 149 1 1 29 := ⟨_, _, Tryd.underlying149, rfl, rfl, rfl⟩
instance : EqG Tryd.prog 149 := ⟨Tryd.eqGuardType149⟩
instance : Ty Tryd.prog 150 (TypeDesc.struct #[{ name := "made", type := 4, offset := 0, embedded := false, tag := "", pkgPath := "trug/pack", byteOffset := 0 }, { name := "e", type := 29, offset := 1, embedded := false, tag := "", pkgPath := "trug/pack", byteOffset := 8 }]) 2 16 (Value.agg #[Value.bool false, Value.int IntKind.i64 0]) := ⟨Tryd.underlying150, Tryd.t150, info_of Tryd.typeInfo150, rfl, rfl, rfl⟩
instance : Fld Tryd.prog 150 0 0 4 := ⟨_, _, Tryd.underlying150, rfl, rfl, rfl⟩
instance : Fld Tryd.prog 150 1 1 29 := ⟨_, _, Tryd.underlying150, rfl, rfl, rfl⟩
instance : EqG Tryd.prog 150 := ⟨Tryd.eqGuardType150⟩
instance : Ty Tryd.prog 151 (TypeDesc.struct #[{ name := "stop", type := 150, offset := 0, embedded := true, tag := "", pkgPath := "trug/pack", byteOffset := 0 }, { name := "b", type := 25, offset := 2, embedded := false, tag := "", pkgPath := "trug/pack", byteOffset := 16 }]) 3 40 (Value.agg #[Value.bool false, Value.int IntKind.i64 0, Value.slice none 0 0]) := ⟨Tryd.underlying151, Tryd.t151, info_of Tryd.typeInfo151, rfl, rfl, rfl⟩
instance : Fld Tryd.prog 151 0 0 150 := ⟨_, _, Tryd.underlying151, rfl, rfl, rfl⟩
instance : Fld Tryd.prog 151 1 2 25 := ⟨_, _, Tryd.underlying151, rfl, rfl, rfl⟩
instance : EqG Tryd.prog 151 := ⟨Tryd.eqGuardType151⟩
instance : Ty Tryd.prog 152 (TypeDesc.struct #[{ name := "stop", type := 150, offset := 0, embedded := true, tag := "", pkgPath := "trug/pack", byteOffset := 0 }, { name := "b", type := 25, offset := 2, embedded := false, tag := "", pkgPath := "trug/pack", byteOffset := 16 }]) 3 40 (Value.agg #[Value.bool false, Value.int IntKind.i64 0, Value.slice none 0 0]) := ⟨Tryd.underlying152, Tryd.t152, info_of Tryd.typeInfo152, rfl, rfl, rfl⟩
instance : Fld Tryd.prog 152 0 0 150 := ⟨_, _, Tryd.underlying152, rfl, rfl, rfl⟩
instance : Fld Tryd.prog 152 1 2 25 := ⟨_, _, Tryd.underlying152, rfl, rfl, rfl⟩
instance : EqG Tryd.prog 152 := ⟨Tryd.eqGuardType152⟩
instance : Ty Tryd.prog 153 (TypeDesc.func #[171] #[29] true) 1 8 Value.nilFunc := ⟨Tryd.underlying153, Tryd.t153, info_of Tryd.typeInfo153, rfl, rfl, rfl⟩
instance : Ty Tryd.prog 154 (TypeDesc.func #[25] #[25] false) 1 8 Value.nilFunc := ⟨Tryd.underlying154, Tryd.t154, info_of Tryd.typeInfo154, rfl, rfl, rfl⟩
instance : Ty Tryd.prog 155 (TypeDesc.array 4 5) 4 4 (Value.agg #[Value.int IntKind.u8 0, Value.int IntKind.u8 0, Value.int IntKind.u8 0, Value.int IntKind.u8 0]) := ⟨Tryd.underlying155, Tryd.t155, info_of Tryd.typeInfo155, rfl, rfl, rfl⟩
instance : EqG Tryd.prog 155 := ⟨Tryd.eqGuardType155⟩
instance : Ty Tryd.prog 156 (TypeDesc.func #[25] #[155] false) 1 8 Value.nilFunc := ⟨Tryd.underlying156, Tryd.t156, info_of Tryd.typeInfo156, rfl, rfl, rfl⟩
instance : Ty Tryd.prog 157 (TypeDesc.func #[25] #[26] false) 1 8 Value.nilFunc := ⟨Tryd.underlying157, Tryd.t157, info_of Tryd.typeInfo157, rfl, rfl, rfl⟩
instance : Ty Tryd.prog 158 (TypeDesc.tuple #[23, 3, 29]) 1 0 (Value.tuple #[Value.int IntKind.u64 0, Value.int IntKind.i64 0, Value.int IntKind.i64 0]) := ⟨Tryd.underlying158, Tryd.t158, info_of Tryd.typeInfo158, rfl, rfl, rfl⟩
instance : Ty Tryd.prog 159 (TypeDesc.func #[25] #[23, 3, 29] false) 1 8 Value.nilFunc := ⟨Tryd.underlying159, Tryd.t159, info_of Tryd.typeInfo159, rfl, rfl, rfl⟩
instance : Ty Tryd.prog 160 (TypeDesc.struct #[{ name := "stop", type := 150, offset := 0, embedded := true, tag := "", pkgPath := "trug/pack", byteOffset := 0 }, { name := "b", type := 25, offset := 2, embedded := false, tag := "", pkgPath := "trug/pack", byteOffset := 16 }]) 3 40 (Value.agg #[Value.bool false, Value.int IntKind.i64 0, Value.slice none 0 0]) := ⟨Tryd.underlying160, Tryd.t160, info_of Tryd.typeInfo160, rfl, rfl, rfl⟩
instance : Fld Tryd.prog 160 0 0 150 := ⟨_, _, Tryd.underlying160, rfl, rfl, rfl⟩
instance : Fld Tryd.prog 160 1 2 25 := ⟨_, _, Tryd.underlying160, rfl, rfl, rfl⟩
instance : EqG Tryd.prog 160 := ⟨Tryd.eqGuardType160⟩
instance : Ty Tryd.prog 161 (TypeDesc.func #[66, 66] #[3] false) 1 8 Value.nilFunc := ⟨Tryd.underlying161, Tryd.t161, info_of Tryd.typeInfo161, rfl, rfl, rfl⟩
instance : Ty Tryd.prog 162 (TypeDesc.func #[59] #[25, 29] false) 1 8 Value.nilFunc := ⟨Tryd.underlying162, Tryd.t162, info_of Tryd.typeInfo162, rfl, rfl, rfl⟩
instance : Ty Tryd.prog 163 (TypeDesc.func #[75] #[4] false) 1 8 Value.nilFunc := ⟨Tryd.underlying163, Tryd.t163, info_of Tryd.typeInfo163, rfl, rfl, rfl⟩
instance : Ty Tryd.prog 164 (TypeDesc.func #[134] #[4] false) 1 8 Value.nilFunc := ⟨Tryd.underlying164, Tryd.t164, info_of Tryd.typeInfo164, rfl, rfl, rfl⟩
instance : Ty Tryd.prog 165 (TypeDesc.func #[134] #[25] false) 1 8 Value.nilFunc := ⟨Tryd.underlying165, Tryd.t165, info_of Tryd.typeInfo165, rfl, rfl, rfl⟩
instance : Ty Tryd.prog 166 (TypeDesc.tuple #[134, 3]) 1 0 (Value.tuple #[Value.agg #[Value.bool false, Value.slice none 0 0, Value.slice none 0 0, Value.slice none 0 0], Value.int IntKind.i64 0]) := ⟨Tryd.underlying166, Tryd.t166, info_of Tryd.typeInfo166, rfl, rfl, rfl⟩
instance : Ty Tryd.prog 167 (TypeDesc.func #[25] #[134, 3] false) 1 8 Value.nilFunc := ⟨Tryd.underlying167, Tryd.t167, info_of Tryd.typeInfo167, rfl, rfl, rfl⟩
instance : Ty Tryd.prog 168 (TypeDesc.func #[29] #[29] false) 1 8 Value.nilFunc := ⟨Tryd.underlying168, Tryd.t168, info_of Tryd.typeInfo168, rfl, rfl, rfl⟩
instance : Ty Tryd.prog 169 (TypeDesc.tuple #[23, 3, 3]) 1 0 (Value.tuple #[Value.int IntKind.u64 0, Value.int IntKind.i64 0, Value.int IntKind.i64 0]) := ⟨Tryd.underlying169, Tryd.t169, info_of Tryd.typeInfo169, rfl, rfl, rfl⟩
instance : Ty Tryd.prog 170 (TypeDesc.func #[25] #[23, 3, 3] false) 1 8 Value.nilFunc := ⟨Tryd.underlying170, Tryd.t170, info_of Tryd.typeInfo170, rfl, rfl, rfl⟩
instance : Ty Tryd.prog 171 (TypeDesc.slice 25) 1 24 (Value.slice none 0 0) := ⟨Tryd.underlying171, Tryd.t171, info_of Tryd.typeInfo171, rfl, rfl, rfl⟩
instance : Ty Tryd.prog 172 (TypeDesc.func #[171] #[25] true) 1 8 Value.nilFunc := ⟨Tryd.underlying172, Tryd.t172, info_of Tryd.typeInfo172, rfl, rfl, rfl⟩
instance : Ty Tryd.prog 173 (TypeDesc.func #[26, 25] #[26] false) 1 8 Value.nilFunc := ⟨Tryd.underlying173, Tryd.t173, info_of Tryd.typeInfo173, rfl, rfl, rfl⟩
instance : Ty Tryd.prog 174 (TypeDesc.func #[136] #[3] true) 1 8 Value.nilFunc := ⟨Tryd.underlying174, Tryd.t174, info_of Tryd.typeInfo174, rfl, rfl, rfl⟩
instance : Ty Tryd.prog 175 (TypeDesc.func #[54, 54] #[3] false) 1 8 Value.nilFunc := ⟨Tryd.underlying175, Tryd.t175, info_of Tryd.typeInfo175, rfl, rfl, rfl⟩
instance : Ty Tryd.prog 176 (TypeDesc.func #[5, 5] #[3] false) 1 8 Value.nilFunc := ⟨Tryd.underlying176, Tryd.t176, info_of Tryd.typeInfo176, rfl, rfl, rfl⟩
instance : Ty Tryd.prog 177 (TypeDesc.func #[26, 26] #[3] false) 1 8 Value.nilFunc := ⟨Tryd.underlying177, Tryd.t177, info_of Tryd.typeInfo177, rfl, rfl, rfl⟩
instance : Ty Tryd.prog 178 (TypeDesc.func #[25, 109] #[25] false) 1 8 Value.nilFunc := ⟨Tryd.underlying178, Tryd.t178, info_of Tryd.typeInfo178, rfl, rfl, rfl⟩
instance : Ty Tryd.prog 179 (TypeDesc.tuple #[109, 4]) 1 0 (Value.tuple #[Value.slice none 0 0, Value.bool false]) := ⟨Tryd.underlying179, Tryd.t179, info_of Tryd.typeInfo179, rfl, rfl, rfl⟩
instance : Ty Tryd.prog 180 (TypeDesc.func #[25] #[109, 4] false) 1 8 Value.nilFunc := ⟨Tryd.underlying180, Tryd.t180, info_of Tryd.typeInfo180, rfl, rfl, rfl⟩
instance : Ty Tryd.prog 181 (TypeDesc.pointer 150) 1 8 (Value.pointer none) := ⟨Tryd.underlying181, Tryd.t181, info_of Tryd.typeInfo181, rfl, rfl, rfl⟩
instance : Ty Tryd.prog 182 (TypeDesc.func #[25, 3] #[25] false) 1 8 Value.nilFunc := ⟨Tryd.underlying182, Tryd.t182, info_of Tryd.typeInfo182, rfl, rfl, rfl⟩
instance : Ty Tryd.prog 183 (TypeDesc.func #[26, 5] #[26] false) 1 8 Value.nilFunc := ⟨Tryd.underlying183, Tryd.t183, info_of Tryd.typeInfo183, rfl, rfl, rfl⟩
instance : Ty Tryd.prog 184 (TypeDesc.func #[54] #[4] false) 1 8 Value.nilFunc := ⟨Tryd.underlying184, Tryd.t184, info_of Tryd.typeInfo184, rfl, rfl, rfl⟩
instance : Ty Tryd.prog 185 (TypeDesc.func #[5] #[4] false) 1 8 Value.nilFunc := ⟨Tryd.underlying185, Tryd.t185, info_of Tryd.typeInfo185, rfl, rfl, rfl⟩
instance : Ty Tryd.prog 186 (TypeDesc.array 16 26) 16 64 (Value.agg #[Value.int IntKind.u32 0, Value.int IntKind.u32 0, Value.int IntKind.u32 0, Value.int IntKind.u32 0, Value.int IntKind.u32 0, Value.int IntKind.u32 0, Value.int IntKind.u32 0, Value.int IntKind.u32 0, Value.int IntKind.u32 0, Value.int IntKind.u32 0, Value.int IntKind.u32 0, Value.int IntKind.u32 0, Value.int IntKind.u32 0, Value.int IntKind.u32 0, Value.int IntKind.u32 0, Value.int IntKind.u32 0]) := ⟨Tryd.underlying186, Tryd.t186, info_of Tryd.typeInfo186, rfl, rfl, rfl⟩
instance : EqG Tryd.prog 186 := ⟨Tryd.eqGuardType186⟩
instance : Ty Tryd.prog 187 (TypeDesc.func #[] #[9] false) 1 8 Value.nilFunc := ⟨Tryd.underlying187, Tryd.t187, info_of Tryd.typeInfo187, rfl, rfl, rfl⟩
instance : Ty Tryd.prog 188 (TypeDesc.struct #[{ name := "_interface", type := 17, offset := 0, embedded := false, tag := "", pkgPath := "runtime", byteOffset := 0 }, { name := "concrete", type := 17, offset := 1, embedded := false, tag := "", pkgPath := "runtime", byteOffset := 8 }, { name := "asserted", type := 17, offset := 2, embedded := false, tag := "", pkgPath := "runtime", byteOffset := 16 }, { name := "missingMethod", type := 9, offset := 3, embedded := false, tag := "", pkgPath := "runtime", byteOffset := 24 }]) 4 40 (Value.agg #[Value.pointer none, Value.pointer none, Value.pointer none, Value.string { data := #[] }]) := ⟨Tryd.underlying188, Tryd.t188, info_of Tryd.typeInfo188, rfl, rfl, rfl⟩
instance : Fld Tryd.prog 188 0 0 17 := ⟨_, _, Tryd.underlying188, rfl, rfl, rfl⟩
instance : Fld Tryd.prog 188 1 1 17 := ⟨_, _, Tryd.underlying188, rfl, rfl, rfl⟩
instance : Fld Tryd.prog 188 2 2 17 := ⟨_, _, Tryd.underlying188, rfl, rfl, rfl⟩
instance : Fld Tryd.prog 188 3 3 9 := ⟨_, _, Tryd.underlying188, rfl, rfl, rfl⟩
instance : EqG Tryd.prog 188 := ⟨Tryd.eqGuardType188⟩
instance : Ty Tryd.prog 189 (TypeDesc.struct #[{ name := "_interface", type := 17, offset := 0, embedded := false, tag := "", pkgPath := "runtime", byteOffset := 0 }, { name := "concrete", type := 17, offset := 1, embedded := false, tag := "", pkgPath := "runtime", byteOffset := 8 }, { name := "asserted", type := 17, offset := 2, embedded := false, tag := "", pkgPath := "runtime", byteOffset := 16 }, { name := "missingMethod", type := 9, offset := 3, embedded := false, tag := "", pkgPath := "runtime", byteOffset := 24 }]) 4 40 (Value.agg #[Value.pointer none, Value.pointer none, Value.pointer none, Value.string { data := #[] }]) := ⟨Tryd.underlying189, Tryd.t189, info_of Tryd.typeInfo189, rfl, rfl, rfl⟩
instance : Fld Tryd.prog 189 0 0 17 := ⟨_, _, Tryd.underlying189, rfl, rfl, rfl⟩
instance : Fld Tryd.prog 189 1 1 17 := ⟨_, _, Tryd.underlying189, rfl, rfl, rfl⟩
instance : Fld Tryd.prog 189 2 2 17 := ⟨_, _, Tryd.underlying189, rfl, rfl, rfl⟩
instance : Fld Tryd.prog 189 3 3 9 := ⟨_, _, Tryd.underlying189, rfl, rfl, rfl⟩
instance : EqG Tryd.prog 189 := ⟨Tryd.eqGuardType189⟩
instance : Ty Tryd.prog 190 (TypeDesc.array 0 16) 0 0 (Value.agg #[]) := ⟨Tryd.underlying190, Tryd.t190, info_of Tryd.typeInfo190, rfl, rfl, rfl⟩
instance : EqG Tryd.prog 190 := ⟨Tryd.eqGuardType190⟩
instance : Ty Tryd.prog 191 (TypeDesc.struct #[{ name := "_", type := 190, offset := 0, embedded := false, tag := "", pkgPath := "runtime", byteOffset := 0 }]) 0 0 (Value.agg #[]) := ⟨Tryd.underlying191, Tryd.t191, info_of Tryd.typeInfo191, rfl, rfl, rfl⟩
instance : Fld Tryd.prog 191 0 0 190 := ⟨_, _, Tryd.underlying191, rfl, rfl, rfl⟩
instance : EqG Tryd.prog 191 := ⟨Tryd.eqGuardType191⟩
instance : Ty Tryd.prog 192 (TypeDesc.struct #[{ name := "_", type := 190, offset := 0, embedded := false, tag := "", pkgPath := "runtime", byteOffset := 0 }]) 0 0 (Value.agg #[]) := ⟨Tryd.underlying192, Tryd.t192, info_of Tryd.typeInfo192, rfl, rfl, rfl⟩
instance : Fld Tryd.prog 192 0 0 190 := ⟨_, _, Tryd.underlying192, rfl, rfl, rfl⟩
instance : EqG Tryd.prog 192 := ⟨Tryd.eqGuardType192⟩
instance : Ty Tryd.prog 193 (TypeDesc.func #[] #[3] false) 1 8 Value.nilFunc := ⟨Tryd.underlying193, Tryd.t193, info_of Tryd.typeInfo193, rfl, rfl, rfl⟩
instance : Ty Tryd.prog 194 (TypeDesc.int IntKind.u8) 1 1 (Value.int IntKind.u8 0) := ⟨Tryd.underlying194, Tryd.t194, info_of Tryd.typeInfo194, rfl, rfl, rfl⟩
instance : Ty Tryd.prog 195 (TypeDesc.int IntKind.u8) 1 1 (Value.int IntKind.u8 0) := ⟨Tryd.underlying195, Tryd.t195, info_of Tryd.typeInfo195, rfl, rfl, rfl⟩
instance : Ty Tryd.prog 196 (TypeDesc.func #[203, 203] #[4] false) 1 8 Value.nilFunc := ⟨Tryd.underlying196, Tryd.t196, info_of Tryd.typeInfo196, rfl, rfl, rfl⟩
instance : Ty Tryd.prog 197 (TypeDesc.pointer 5) 1 8 (Value.pointer none) := ⟨Tryd.underlying197, Tryd.t197, info_of Tryd.typeInfo197, rfl, rfl, rfl⟩
instance : Ty Tryd.prog 198 (TypeDesc.int IntKind.i32) 1 4 (Value.int IntKind.i32 0) := ⟨Tryd.underlying198, Tryd.t198, info_of Tryd.typeInfo198, rfl, rfl, rfl⟩
instance : Ty Tryd.prog 199 (TypeDesc.int IntKind.i32) 1 4 (Value.int IntKind.i32 0) := ⟨Tryd.underlying199, Tryd.t199, info_of Tryd.typeInfo199, rfl, rfl, rfl⟩
instance : Ty Tryd.prog 200 (TypeDesc.struct #[{ name := "Size_", type := 12, offset := 0, embedded := false, tag := "", pkgPath := "", byteOffset := 0 }, { name := "PtrBytes", type := 12, offset := 1, embedded := false, tag := "", pkgPath := "", byteOffset := 8 }, { name := "Hash", type := 26, offset := 2, embedded := false, tag := "", pkgPath := "", byteOffset := 16 }, { name := "TFlag", type := 194, offset := 3, embedded := false, tag := "", pkgPath := "", byteOffset := 20 }, { name := "Align_", type := 5, offset := 4, embedded := false, tag := "", pkgPath := "", byteOffset := 21 }, { name := "FieldAlign_", type := 5, offset := 5, embedded := false, tag := "", pkgPath := "", byteOffset := 22 }, { name := "Kind_", type := 195, offset := 6, embedded := false, tag := "", pkgPath := "", byteOffset := 23 }, { name := "Equal", type := 196, offset := 7, embedded := false, tag := "", pkgPath := "", byteOffset := 24 }, { name := "GCData", type := 197, offset := 8, embedded := false, tag := "", pkgPath := "", byteOffset := 32 }, { name := "Str", type := 198, offset := 9, embedded := false, tag := "", pkgPath := "", byteOffset := 40 }, { name := "PtrToThis", type := 199, offset := 10, embedded := false, tag := "", pkgPath := "", byteOffset := 44 }]) 11 48 (Value.agg #[Value.int IntKind.u64 0, Value.int IntKind.u64 0, Value.int IntKind.u32 0, Value.int IntKind.u8 0, Value.int IntKind.u8 0, Value.int IntKind.u8 0, Value.int IntKind.u8 0, Value.nilFunc, Value.pointer none, Value.int IntKind.i32 0, Value.int IntKind.i32 0]) := ⟨Tryd.underlying200, Tryd.t200, info_of Tryd.typeInfo200, rfl, rfl, rfl⟩
instance : Fld Tryd.prog 200 0 0 12 := ⟨_, _, Tryd.underlying200, rfl, rfl, rfl⟩
instance : Fld Tryd.prog 200 1 1 12 := ⟨_, _, Tryd.underlying200, rfl, rfl, rfl⟩
instance : Fld Tryd.prog 200 2 2 26 := ⟨_, _, Tryd.underlying200, rfl, rfl, rfl⟩
instance : Fld Tryd.prog 200 3 3 194 := ⟨_, _, Tryd.underlying200, rfl, rfl, rfl⟩
instance : Fld Tryd.prog 200 4 4 5 := ⟨_, _, Tryd.underlying200, rfl, rfl, rfl⟩
instance : Fld Tryd.prog 200 5 5 5 := ⟨_, _, Tryd.underlying200, rfl, rfl, rfl⟩
instance : Fld Tryd.prog 200 6 6 195 := ⟨_, _, Tryd.underlying200, rfl, rfl, rfl⟩
instance : Fld Tryd.prog 200 7 7 196 := ⟨_, _, Tryd.underlying200, rfl, rfl, rfl⟩
instance : Fld Tryd.prog 200 8 8 197 := ⟨_, _, Tryd.underlying200, rfl, rfl, rfl⟩
instance : Fld Tryd.prog 200 9 9 198 := ⟨_, _, Tryd.underlying200, rfl, rfl, rfl⟩
instance : Fld Tryd.prog 200 10 10 199 := ⟨_, _, Tryd.underlying200, rfl, rfl, rfl⟩
instance : EqG Tryd.prog 200 := ⟨Tryd.eqGuardType200⟩
instance : Ty Tryd.prog 201 (TypeDesc.struct #[{ name := "Size_", type := 12, offset := 0, embedded := false, tag := "", pkgPath := "", byteOffset := 0 }, { name := "PtrBytes", type := 12, offset := 1, embedded := false, tag := "", pkgPath := "", byteOffset := 8 }, { name := "Hash", type := 26, offset := 2, embedded := false, tag := "", pkgPath := "", byteOffset := 16 }, { name := "TFlag", type := 194, offset := 3, embedded := false, tag := "", pkgPath := "", byteOffset := 20 }, { name := "Align_", type := 5, offset := 4, embedded := false, tag := "", pkgPath := "", byteOffset := 21 }, { name := "FieldAlign_", type := 5, offset := 5, embedded := false, tag := "", pkgPath := "", byteOffset := 22 }, { name := "Kind_", type := 195, offset := 6, embedded := false, tag := "", pkgPath := "", byteOffset := 23 }, { name := "Equal", type := 196, offset := 7, embedded := false, tag := "", pkgPath := "", byteOffset := 24 }, { name := "GCData", type := 197, offset := 8, embedded := false, tag := "", pkgPath := "", byteOffset := 32 }, { name := "Str", type := 198, offset := 9, embedded := false, tag := "", pkgPath := "", byteOffset := 40 }, { name := "PtrToThis", type := 199, offset := 10, embedded := false, tag := "", pkgPath := "", byteOffset := 44 }]) 11 48 (Value.agg #[Value.int IntKind.u64 0, Value.int IntKind.u64 0, Value.int IntKind.u32 0, Value.int IntKind.u8 0, Value.int IntKind.u8 0, Value.int IntKind.u8 0, Value.int IntKind.u8 0, Value.nilFunc, Value.pointer none, Value.int IntKind.i32 0, Value.int IntKind.i32 0]) := ⟨Tryd.underlying201, Tryd.t201, info_of Tryd.typeInfo201, rfl, rfl, rfl⟩
instance : Fld Tryd.prog 201 0 0 12 := ⟨_, _, Tryd.underlying201, rfl, rfl, rfl⟩
instance : Fld Tryd.prog 201 1 1 12 := ⟨_, _, Tryd.underlying201, rfl, rfl, rfl⟩
instance : Fld Tryd.prog 201 2 2 26 := ⟨_, _, Tryd.underlying201, rfl, rfl, rfl⟩
instance : Fld Tryd.prog 201 3 3 194 := ⟨_, _, Tryd.underlying201, rfl, rfl, rfl⟩
instance : Fld Tryd.prog 201 4 4 5 := ⟨_, _, Tryd.underlying201, rfl, rfl, rfl⟩
instance : Fld Tryd.prog 201 5 5 5 := ⟨_, _, Tryd.underlying201, rfl, rfl, rfl⟩
instance : Fld Tryd.prog 201 6 6 195 := ⟨_, _, Tryd.underlying201, rfl, rfl, rfl⟩
instance : Fld Tryd.prog 201 7 7 196 := ⟨_, _, Tryd.underlying201, rfl, rfl, rfl⟩
instance : Fld Tryd.prog 201 8 8 197 := ⟨_, _, Tryd.underlying201, rfl, rfl, rfl⟩
instance : Fld Tryd.prog 201 9 9 198 := ⟨_, _, Tryd.underlying201, rfl, rfl, rfl⟩
instance : Fld Tryd.prog 201 10 10 199 := ⟨_, _, Tryd.underlying201, rfl, rfl, rfl⟩
instance : EqG Tryd.prog 201 := ⟨Tryd.eqGuardType201⟩
instance : Ty Tryd.prog 202 (TypeDesc.func #[2] #[29] false) 1 8 Value.nilFunc := ⟨Tryd.underlying202, Tryd.t202, info_of Tryd.typeInfo202, rfl, rfl, rfl⟩
instance : Ty Tryd.prog 203 (TypeDesc.unsafePointer) 1 8 (Value.pointer none) := ⟨Tryd.underlying203, Tryd.t203, info_of Tryd.typeInfo203, rfl, rfl, rfl⟩
instance : Plc Tryd.prog 7 [(0, 1), (1, 1), (2, 1), (3, 1)] := ⟨_, Tryd.underlying7, (.mk 2 0 1 rfl rfl (.mk 3 1 1 rfl rfl (.mk 4 2 1 rfl rfl (.mk 6 3 1 rfl rfl .nil))))⟩
instance : Plc Tryd.prog 8 [(0, 1), (1, 1), (2, 1), (3, 1)] := ⟨_, Tryd.underlying8, (.mk 2 0 1 rfl rfl (.mk 3 1 1 rfl rfl (.mk 4 2 1 rfl rfl (.mk 6 3 1 rfl rfl .nil))))⟩
instance : Plc Tryd.prog 13 [(0, 1), (1, 1)] := ⟨_, Tryd.underlying13, (.mk 9 0 1 rfl rfl (.mk 12 1 1 rfl rfl .nil))⟩
instance : Plc Tryd.prog 14 [(0, 1), (1, 1)] := ⟨_, Tryd.underlying14, (.mk 9 0 1 rfl rfl (.mk 12 1 1 rfl rfl .nil))⟩
instance : Plc Tryd.prog 18 [(0, 1)] := ⟨_, Tryd.underlying18, (.mk 17 0 1 rfl rfl .nil)⟩
instance : Plc Tryd.prog 19 [(0, 1)] := ⟨_, Tryd.underlying19, (.mk 17 0 1 rfl rfl .nil)⟩
instance : Plc Tryd.prog 27 [(0, 1), (1, 1), (2, 1), (3, 1)] := ⟨_, Tryd.underlying27, (.mk 23 0 1 rfl rfl (.mk 26 1 1 rfl rfl (.mk 26 2 1 rfl rfl (.mk 26 3 1 rfl rfl .nil))))⟩
instance : Plc Tryd.prog 28 [(0, 1), (1, 1), (2, 1), (3, 1)] := ⟨_, Tryd.underlying28, (.mk 23 0 1 rfl rfl (.mk 26 1 1 rfl rfl (.mk 26 2 1 rfl rfl (.mk 26 3 1 rfl rfl .nil))))⟩
instance : Plc Tryd.prog 34 [(0, 1), (1, 1), (2, 1), (3, 1)] := ⟨_, Tryd.underlying34, (.mk 23 0 1 rfl rfl (.mk 26 1 1 rfl rfl (.mk 26 2 1 rfl rfl (.mk 26 3 1 rfl rfl .nil))))⟩
instance : Plc Tryd.prog 58 [(0, 1), (1, 1), (2, 1), (3, 1)] := ⟨_, Tryd.underlying58, (.mk 4 0 1 rfl rfl (.mk 55 1 1 rfl rfl (.mk 56 2 1 rfl rfl (.mk 57 3 1 rfl rfl .nil))))⟩
instance : Plc Tryd.prog 59 [(0, 1), (1, 1), (2, 1), (3, 1)] := ⟨_, Tryd.underlying59, (.mk 4 0 1 rfl rfl (.mk 55 1 1 rfl rfl (.mk 56 2 1 rfl rfl (.mk 57 3 1 rfl rfl .nil))))⟩
instance : Plc Tryd.prog 63 [(0, 1), (1, 1)] := ⟨_, Tryd.underlying63, (.mk 5 0 1 rfl rfl (.mk 26 1 1 rfl rfl .nil))⟩
instance : Plc Tryd.prog 64 [(0, 1), (1, 1)] := ⟨_, Tryd.underlying64, (.mk 5 0 1 rfl rfl (.mk 26 1 1 rfl rfl .nil))⟩
instance : Plc Tryd.prog 65 [(0, 1), (1, 2)] := ⟨_, Tryd.underlying65, (.mk 54 0 1 rfl rfl (.mk 64 1 2 rfl rfl .nil))⟩
instance : Plc Tryd.prog 66 [(0, 1), (1, 2)] := ⟨_, Tryd.underlying66, (.mk 54 0 1 rfl rfl (.mk 64 1 2 rfl rfl .nil))⟩
instance : Plc Tryd.prog 67 [(0, 1), (1, 1)] := ⟨_, Tryd.underlying67, (.mk 26 0 1 rfl rfl (.mk 26 1 1 rfl rfl .nil))⟩
instance : Plc Tryd.prog 68 [(0, 1), (1, 1)] := ⟨_, Tryd.underlying68, (.mk 26 0 1 rfl rfl (.mk 26 1 1 rfl rfl .nil))⟩
instance : Plc Tryd.prog 69 [(0, 3), (3, 2)] := ⟨_, Tryd.underlying69, (.mk 66 0 3 rfl rfl (.mk 68 3 2 rfl rfl .nil))⟩
instance : Plc Tryd.prog 70 [(0, 3), (3, 2)] := ⟨_, Tryd.underlying70, (.mk 66 0 3 rfl rfl (.mk 68 3 2 rfl rfl .nil))⟩
instance : Plc Tryd.prog 73 [(0, 1), (1, 1)] := ⟨_, Tryd.underlying73, (.mk 25 0 1 rfl rfl (.mk 3 1 1 rfl rfl .nil))⟩
instance : Plc Tryd.prog 74 [(0, 1), (1, 1)] := ⟨_, Tryd.underlying74, (.mk 25 0 1 rfl rfl (.mk 3 1 1 rfl rfl .nil))⟩
instance : Plc Tryd.prog 78 [(0, 3), (3, 1)] := ⟨_, Tryd.underlying78, (.mk 66 0 3 rfl rfl (.mk 3 3 1 rfl rfl .nil))⟩
instance : Plc Tryd.prog 79 [(0, 3), (3, 1)] := ⟨_, Tryd.underlying79, (.mk 66 0 3 rfl rfl (.mk 3 3 1 rfl rfl .nil))⟩
instance : Plc Tryd.prog 80 [(0, 1), (1, 2)] := ⟨_, Tryd.underlying80, (.mk 54 0 1 rfl rfl (.mk 64 1 2 rfl rfl .nil))⟩
instance : Plc Tryd.prog 81 [(0, 1), (1, 1)] := ⟨_, Tryd.underlying81, (.mk 26 0 1 rfl rfl (.mk 26 1 1 rfl rfl .nil))⟩
instance : Plc Tryd.prog 82 [(0, 3), (3, 2)] := ⟨_, Tryd.underlying82, (.mk 80 0 3 rfl rfl (.mk 81 3 2 rfl rfl .nil))⟩
instance : Plc Tryd.prog 83 [(0, 3), (3, 2)] := ⟨_, Tryd.underlying83, (.mk 80 0 3 rfl rfl (.mk 81 3 2 rfl rfl .nil))⟩
instance : Plc Tryd.prog 90 [(0, 3), (3, 1)] := ⟨_, Tryd.underlying90, (.mk 80 0 3 rfl rfl (.mk 3 3 1 rfl rfl .nil))⟩
instance : Plc Tryd.prog 91 [(0, 3), (3, 1)] := ⟨_, Tryd.underlying91, (.mk 80 0 3 rfl rfl (.mk 3 3 1 rfl rfl .nil))⟩
instance : Plc Tryd.prog 93 [(0, 1), (1, 1), (2, 1)] := ⟨_, Tryd.underlying93, (.mk 25 0 1 rfl rfl (.mk 3 1 1 rfl rfl (.mk 32 2 1 rfl rfl .nil)))⟩
instance : Plc Tryd.prog 94 [(0, 1), (1, 1), (2, 1)] := ⟨_, Tryd.underlying94, (.mk 25 0 1 rfl rfl (.mk 3 1 1 rfl rfl (.mk 32 2 1 rfl rfl .nil)))⟩
instance : Plc Tryd.prog 118 [(0, 1), (1, 1)] := ⟨_, Tryd.underlying118, (.mk 116 0 1 rfl rfl (.mk 4 1 1 rfl rfl .nil))⟩
instance : Plc Tryd.prog 119 [(0, 1), (1, 1)] := ⟨_, Tryd.underlying119, (.mk 116 0 1 rfl rfl (.mk 4 1 1 rfl rfl .nil))⟩
instance : Plc Tryd.prog 133 [(0, 1), (1, 1), (2, 1), (3, 1)] := ⟨_, Tryd.underlying133, (.mk 4 0 1 rfl rfl (.mk 131 1 1 rfl rfl (.mk 132 2 1 rfl rfl (.mk 57 3 1 rfl rfl .nil))))⟩
instance : Plc Tryd.prog 134 [(0, 1), (1, 1), (2, 1), (3, 1)] := ⟨_, Tryd.underlying134, (.mk 4 0 1 rfl rfl (.mk 131 1 1 rfl rfl (.mk 132 2 1 rfl rfl (.mk 57 3 1 rfl rfl .nil))))⟩
instance : Plc Tryd.prog 145 [(0, 1), (1, 1)] := ⟨_, Tryd.underlying145, (.mk 25 0 1 rfl rfl (.mk 3 1 1 rfl rfl .nil))⟩
instance : Plc Tryd.prog 146 [(0, 1), (1, 1)] := ⟨_, Tryd.underlying146, (.mk 25 0 1 rfl rfl (.mk 3 1 1 rfl rfl .nil))⟩
instance : Plc Tryd.prog 149 [(0, 1), (1, 1)] := ⟨_, Tryd.underlying149, (.mk 4 0 1 rfl rfl (.mk 29 1 1 rfl rfl .nil))⟩
instance : Plc Tryd.prog 150 [(0, 1), (1, 1)] := ⟨_, Tryd.underlying150, (.mk 4 0 1 rfl rfl (.mk 29 1 1 rfl rfl .nil))⟩
instance : Plc Tryd.prog 151 [(0, 2), (2, 1)] := ⟨_, Tryd.underlying151, (.mk 150 0 2 rfl rfl (.mk 25 2 1 rfl rfl .nil))⟩
instance : Plc Tryd.prog 152 [(0, 2), (2, 1)] := ⟨_, Tryd.underlying152, (.mk 150 0 2 rfl rfl (.mk 25 2 1 rfl rfl .nil))⟩
instance : Plc Tryd.prog 160 [(0, 2), (2, 1)] := ⟨_, Tryd.underlying160, (.mk 150 0 2 rfl rfl (.mk 25 2 1 rfl rfl .nil))⟩
instance : Plc Tryd.prog 188 [(0, 1), (1, 1), (2, 1), (3, 1)] := ⟨_, Tryd.underlying188, (.mk 17 0 1 rfl rfl (.mk 17 1 1 rfl rfl (.mk 17 2 1 rfl rfl (.mk 9 3 1 rfl rfl .nil))))⟩
instance : Plc Tryd.prog 189 [(0, 1), (1, 1), (2, 1), (3, 1)] := ⟨_, Tryd.underlying189, (.mk 17 0 1 rfl rfl (.mk 17 1 1 rfl rfl (.mk 17 2 1 rfl rfl (.mk 9 3 1 rfl rfl .nil))))⟩
instance : Plc Tryd.prog 191 [(0, 0)] := ⟨_, Tryd.underlying191, (.mk 190 0 0 rfl rfl .nil)⟩
instance : Plc Tryd.prog 192 [(0, 0)] := ⟨_, Tryd.underlying192, (.mk 190 0 0 rfl rfl .nil)⟩
instance : Plc Tryd.prog 200 [(0, 1), (1, 1), (2, 1), (3, 1), (4, 1), (5, 1), (6, 1), (7, 1), (8, 1), (9, 1), (10, 1)] := ⟨_, Tryd.underlying200, (.mk 12 0 1 rfl rfl (.mk 12 1 1 rfl rfl (.mk 26 2 1 rfl rfl (.mk 194 3 1 rfl rfl (.mk 5 4 1 rfl rfl (.mk 5 5 1 rfl rfl (.mk 195 6 1 rfl rfl (.mk 196 7 1 rfl rfl (.mk 197 8 1 rfl rfl (.mk 198 9 1 rfl rfl (.mk 199 10 1 rfl rfl .nil)))))))))))⟩
instance : Plc Tryd.prog 201 [(0, 1), (1, 1), (2, 1), (3, 1), (4, 1), (5, 1), (6, 1), (7, 1), (8, 1), (9, 1), (10, 1)] := ⟨_, Tryd.underlying201, (.mk 12 0 1 rfl rfl (.mk 12 1 1 rfl rfl (.mk 26 2 1 rfl rfl (.mk 194 3 1 rfl rfl (.mk 5 4 1 rfl rfl (.mk 5 5 1 rfl rfl (.mk 195 6 1 rfl rfl (.mk 196 7 1 rfl rfl (.mk 197 8 1 rfl rfl (.mk 198 9 1 rfl rfl (.mk 199 10 1 rfl rfl .nil)))))))))))⟩
instance : EqT Tryd.prog 2 false 1 [.i .i64] := eqt_int Tryd.underlying2
instance : EqT Tryd.prog 3 false 1 [.i .i64] := eqt_int Tryd.underlying3
instance : EqT Tryd.prog 4 false 1 [.b] := eqt_bool Tryd.underlying4
instance : EqT Tryd.prog 5 false 1 [.i .u8] := eqt_int Tryd.underlying5
instance : EqT Tryd.prog 6 false 1 [.i .u8] := eqt_int Tryd.underlying6
instance : EqT Tryd.prog 7 true 2 [.i .i64, .i .i64, .b, .i .u8] := by
  have h := eqt_struct (dd := 1) Tryd.underlying7 Tryd.stoodInHeld7 (FOk.mk2 (P := Tryd.prog) (dd := 1) 2 (f := { name := "x", type := 2, offset := 0, embedded := false, tag := "", pkgPath := "runtime", byteOffset := 0 }) (off := 0) rfl rfl rfl rfl (by decide) (by decide) (FOk.mk2 (P := Tryd.prog) (dd := 1) 3 (f := { name := "y", type := 3, offset := 1, embedded := false, tag := "", pkgPath := "runtime", byteOffset := 8 }) (off := 1) rfl rfl rfl rfl (by decide) (by decide) (FOk.mk2 (P := Tryd.prog) (dd := 1) 4 (f := { name := "signed", type := 4, offset := 2, embedded := false, tag := "", pkgPath := "runtime", byteOffset := 16 }) (off := 2) rfl rfl rfl rfl (by decide) (by decide) (FOk.mk2 (P := Tryd.prog) (dd := 1) 6 (f := { name := "code", type := 6, offset := 3, embedded := false, tag := "", pkgPath := "runtime", byteOffset := 17 }) (off := 3) rfl rfl rfl rfl (by decide) (by decide) (FOk.nil (P := Tryd.prog) (dd := 1) _)))))
  exact h
instance : EqT Tryd.prog 8 true 2 [.i .i64, .i .i64, .b, .i .u8] := by
  have h := eqt_struct (dd := 1) Tryd.underlying8 Tryd.stoodInHeld8 (FOk.mk2 (P := Tryd.prog) (dd := 1) 2 (f := { name := "x", type := 2, offset := 0, embedded := false, tag := "", pkgPath := "runtime", byteOffset := 0 }) (off := 0) rfl rfl rfl rfl (by decide) (by decide) (FOk.mk2 (P := Tryd.prog) (dd := 1) 3 (f := { name := "y", type := 3, offset := 1, embedded := false, tag := "", pkgPath := "runtime", byteOffset := 8 }) (off := 1) rfl rfl rfl rfl (by decide) (by decide) (FOk.mk2 (P := Tryd.prog) (dd := 1) 4 (f := { name := "signed", type := 4, offset := 2, embedded := false, tag := "", pkgPath := "runtime", byteOffset := 16 }) (off := 2) rfl rfl rfl rfl (by decide) (by decide) (FOk.mk2 (P := Tryd.prog) (dd := 1) 6 (f := { name := "code", type := 6, offset := 3, embedded := false, tag := "", pkgPath := "runtime", byteOffset := 17 }) (off := 3) rfl rfl rfl rfl (by decide) (by decide) (FOk.nil (P := Tryd.prog) (dd := 1) _)))))
  exact h
instance : EqT Tryd.prog 12 false 1 [.i .u64] := eqt_int Tryd.underlying12
instance : EqT Tryd.prog 21 false 1 [.i .i32] := eqt_int Tryd.underlying21
instance : EqT Tryd.prog 23 false 1 [.i .u64] := eqt_int Tryd.underlying23
instance : EqT Tryd.prog 26 false 1 [.i .u32] := eqt_int Tryd.underlying26
instance : EqT Tryd.prog 27 true 2 [.i .u64, .i .u32, .i .u32, .i .u32] := by
  have h := eqt_struct (dd := 1) Tryd.underlying27 Tryd.stoodInHeld27 (FOk.mk2 (P := Tryd.prog) (dd := 1) 23 (f := { name := "Version", type := 23, offset := 0, embedded := false, tag := "", pkgPath := "", byteOffset := 0 }) (off := 0) rfl rfl rfl rfl (by decide) (by decide) (FOk.mk2 (P := Tryd.prog) (dd := 1) 26 (f := { name := "At", type := 26, offset := 1, embedded := false, tag := "", pkgPath := "", byteOffset := 8 }) (off := 1) rfl rfl rfl rfl (by decide) (by decide) (FOk.mk2 (P := Tryd.prog) (dd := 1) 26 (f := { name := "End", type := 26, offset := 2, embedded := false, tag := "", pkgPath := "", byteOffset := 12 }) (off := 2) rfl rfl rfl rfl (by decide) (by decide) (FOk.mk2 (P := Tryd.prog) (dd := 1) 26 (f := { name := "Items", type := 26, offset := 3, embedded := false, tag := "", pkgPath := "", byteOffset := 16 }) (off := 3) rfl rfl rfl rfl (by decide) (by decide) (FOk.nil (P := Tryd.prog) (dd := 1) _)))))
  exact h
instance : EqT Tryd.prog 28 true 2 [.i .u64, .i .u32, .i .u32, .i .u32] := by
  have h := eqt_struct (dd := 1) Tryd.underlying28 Tryd.stoodInHeld28 (FOk.mk2 (P := Tryd.prog) (dd := 1) 23 (f := { name := "Version", type := 23, offset := 0, embedded := false, tag := "", pkgPath := "", byteOffset := 0 }) (off := 0) rfl rfl rfl rfl (by decide) (by decide) (FOk.mk2 (P := Tryd.prog) (dd := 1) 26 (f := { name := "At", type := 26, offset := 1, embedded := false, tag := "", pkgPath := "", byteOffset := 8 }) (off := 1) rfl rfl rfl rfl (by decide) (by decide) (FOk.mk2 (P := Tryd.prog) (dd := 1) 26 (f := { name := "End", type := 26, offset := 2, embedded := false, tag := "", pkgPath := "", byteOffset := 12 }) (off := 2) rfl rfl rfl rfl (by decide) (by decide) (FOk.mk2 (P := Tryd.prog) (dd := 1) 26 (f := { name := "Items", type := 26, offset := 3, embedded := false, tag := "", pkgPath := "", byteOffset := 16 }) (off := 3) rfl rfl rfl rfl (by decide) (by decide) (FOk.nil (P := Tryd.prog) (dd := 1) _)))))
  exact h
instance : EqT Tryd.prog 29 false 1 [.i .i64] := eqt_int Tryd.underlying29
instance : EqT Tryd.prog 34 true 2 [.i .u64, .i .u32, .i .u32, .i .u32] := by
  have h := eqt_struct (dd := 1) Tryd.underlying34 Tryd.stoodInHeld34 (FOk.mk2 (P := Tryd.prog) (dd := 1) 23 (f := { name := "Version", type := 23, offset := 0, embedded := false, tag := "", pkgPath := "", byteOffset := 0 }) (off := 0) rfl rfl rfl rfl (by decide) (by decide) (FOk.mk2 (P := Tryd.prog) (dd := 1) 26 (f := { name := "At", type := 26, offset := 1, embedded := false, tag := "", pkgPath := "", byteOffset := 8 }) (off := 1) rfl rfl rfl rfl (by decide) (by decide) (FOk.mk2 (P := Tryd.prog) (dd := 1) 26 (f := { name := "End", type := 26, offset := 2, embedded := false, tag := "", pkgPath := "", byteOffset := 12 }) (off := 2) rfl rfl rfl rfl (by decide) (by decide) (FOk.mk2 (P := Tryd.prog) (dd := 1) 26 (f := { name := "Items", type := 26, offset := 3, embedded := false, tag := "", pkgPath := "", byteOffset := 16 }) (off := 3) rfl rfl rfl rfl (by decide) (by decide) (FOk.nil (P := Tryd.prog) (dd := 1) _)))))
  exact h
instance : EqT Tryd.prog 54 false 1 [.i .u16] := eqt_int Tryd.underlying54
instance : EqT Tryd.prog 63 true 2 [.i .u8, .i .u32] := by
  have h := eqt_struct (dd := 1) Tryd.underlying63 Tryd.stoodInHeld63 (FOk.mk2 (P := Tryd.prog) (dd := 1) 5 (f := { name := "Rep", type := 5, offset := 0, embedded := false, tag := "", pkgPath := "", byteOffset := 0 }) (off := 0) rfl rfl rfl rfl (by decide) (by decide) (FOk.mk2 (P := Tryd.prog) (dd := 1) 26 (f := { name := "Seq", type := 26, offset := 1, embedded := false, tag := "", pkgPath := "", byteOffset := 4 }) (off := 1) rfl rfl rfl rfl (by decide) (by decide) (FOk.nil (P := Tryd.prog) (dd := 1) _)))
  exact h
instance : EqT Tryd.prog 64 true 2 [.i .u8, .i .u32] := by
  have h := eqt_struct (dd := 1) Tryd.underlying64 Tryd.stoodInHeld64 (FOk.mk2 (P := Tryd.prog) (dd := 1) 5 (f := { name := "Rep", type := 5, offset := 0, embedded := false, tag := "", pkgPath := "", byteOffset := 0 }) (off := 0) rfl rfl rfl rfl (by decide) (by decide) (FOk.mk2 (P := Tryd.prog) (dd := 1) 26 (f := { name := "Seq", type := 26, offset := 1, embedded := false, tag := "", pkgPath := "", byteOffset := 4 }) (off := 1) rfl rfl rfl rfl (by decide) (by decide) (FOk.nil (P := Tryd.prog) (dd := 1) _)))
  exact h
instance : EqT Tryd.prog 65 true 3 [.i .u16, .i .u8, .i .u32] := by
  have h := eqt_struct (dd := 2) Tryd.underlying65 Tryd.stoodInHeld65 (FOk.mk2 (P := Tryd.prog) (dd := 2) 54 (f := { name := "Cart", type := 54, offset := 0, embedded := false, tag := "", pkgPath := "", byteOffset := 0 }) (off := 0) rfl rfl rfl rfl (by decide) (by decide) (FOk.mk2 (P := Tryd.prog) (dd := 2) 64 (f := { name := "Dot", type := 64, offset := 1, embedded := false, tag := "", pkgPath := "", byteOffset := 4 }) (off := 1) rfl rfl rfl rfl (by decide) (by decide) (FOk.nil (P := Tryd.prog) (dd := 2) _)))
  exact h
instance : EqT Tryd.prog 66 true 3 [.i .u16, .i .u8, .i .u32] := by
  have h := eqt_struct (dd := 2) Tryd.underlying66 Tryd.stoodInHeld66 (FOk.mk2 (P := Tryd.prog) (dd := 2) 54 (f := { name := "Cart", type := 54, offset := 0, embedded := false, tag := "", pkgPath := "", byteOffset := 0 }) (off := 0) rfl rfl rfl rfl (by decide) (by decide) (FOk.mk2 (P := Tryd.prog) (dd := 2) 64 (f := { name := "Dot", type := 64, offset := 1, embedded := false, tag := "", pkgPath := "", byteOffset := 4 }) (off := 1) rfl rfl rfl rfl (by decide) (by decide) (FOk.nil (P := Tryd.prog) (dd := 2) _)))
  exact h
instance : EqT Tryd.prog 67 true 2 [.i .u32, .i .u32] := by
  have h := eqt_struct (dd := 1) Tryd.underlying67 Tryd.stoodInHeld67 (FOk.mk2 (P := Tryd.prog) (dd := 1) 26 (f := { name := "Seg", type := 26, offset := 0, embedded := false, tag := "", pkgPath := "", byteOffset := 0 }) (off := 0) rfl rfl rfl rfl (by decide) (by decide) (FOk.mk2 (P := Tryd.prog) (dd := 1) 26 (f := { name := "At", type := 26, offset := 1, embedded := false, tag := "", pkgPath := "", byteOffset := 4 }) (off := 1) rfl rfl rfl rfl (by decide) (by decide) (FOk.nil (P := Tryd.prog) (dd := 1) _)))
  exact h
instance : EqT Tryd.prog 68 true 2 [.i .u32, .i .u32] := by
  have h := eqt_struct (dd := 1) Tryd.underlying68 Tryd.stoodInHeld68 (FOk.mk2 (P := Tryd.prog) (dd := 1) 26 (f := { name := "Seg", type := 26, offset := 0, embedded := false, tag := "", pkgPath := "", byteOffset := 0 }) (off := 0) rfl rfl rfl rfl (by decide) (by decide) (FOk.mk2 (P := Tryd.prog) (dd := 1) 26 (f := { name := "At", type := 26, offset := 1, embedded := false, tag := "", pkgPath := "", byteOffset := 4 }) (off := 1) rfl rfl rfl rfl (by decide) (by decide) (FOk.nil (P := Tryd.prog) (dd := 1) _)))
  exact h
instance : EqT Tryd.prog 69 true 4 [.i .u16, .i .u8, .i .u32, .i .u32, .i .u32] := by
  have h := eqt_struct (dd := 3) Tryd.underlying69 Tryd.stoodInHeld69 (FOk.mk2 (P := Tryd.prog) (dd := 3) 66 (f := { name := "Key", type := 66, offset := 0, embedded := false, tag := "", pkgPath := "", byteOffset := 0 }) (off := 0) rfl rfl rfl rfl (by decide) (by decide) (FOk.mk2 (P := Tryd.prog) (dd := 3) 68 (f := { name := "Loc", type := 68, offset := 3, embedded := false, tag := "", pkgPath := "", byteOffset := 12 }) (off := 3) rfl rfl rfl rfl (by decide) (by decide) (FOk.nil (P := Tryd.prog) (dd := 3) _)))
  exact h
instance : EqT Tryd.prog 70 true 4 [.i .u16, .i .u8, .i .u32, .i .u32, .i .u32] := by
  have h := eqt_struct (dd := 3) Tryd.underlying70 Tryd.stoodInHeld70 (FOk.mk2 (P := Tryd.prog) (dd := 3) 66 (f := { name := "Key", type := 66, offset := 0, embedded := false, tag := "", pkgPath := "", byteOffset := 0 }) (off := 0) rfl rfl rfl rfl (by decide) (by decide) (FOk.mk2 (P := Tryd.prog) (dd := 3) 68 (f := { name := "Loc", type := 68, offset := 3, embedded := false, tag := "", pkgPath := "", byteOffset := 12 }) (off := 3) rfl rfl rfl rfl (by decide) (by decide) (FOk.nil (P := Tryd.prog) (dd := 3) _)))
  exact h
instance : EqT Tryd.prog 78 true 4 [.i .u16, .i .u8, .i .u32, .i .i64] := by
  have h := eqt_struct (dd := 3) Tryd.underlying78 Tryd.stoodInHeld78 (FOk.mk2 (P := Tryd.prog) (dd := 3) 66 (f := { name := "key", type := 66, offset := 0, embedded := false, tag := "", pkgPath := "trug/roots", byteOffset := 0 }) (off := 0) rfl rfl rfl rfl (by decide) (by decide) (FOk.mk2 (P := Tryd.prog) (dd := 3) 3 (f := { name := "at", type := 3, offset := 3, embedded := false, tag := "", pkgPath := "trug/roots", byteOffset := 16 }) (off := 3) rfl rfl rfl rfl (by decide) (by decide) (FOk.nil (P := Tryd.prog) (dd := 3) _)))
  exact h
instance : EqT Tryd.prog 79 true 4 [.i .u16, .i .u8, .i .u32, .i .i64] := by
  have h := eqt_struct (dd := 3) Tryd.underlying79 Tryd.stoodInHeld79 (FOk.mk2 (P := Tryd.prog) (dd := 3) 66 (f := { name := "key", type := 66, offset := 0, embedded := false, tag := "", pkgPath := "trug/roots", byteOffset := 0 }) (off := 0) rfl rfl rfl rfl (by decide) (by decide) (FOk.mk2 (P := Tryd.prog) (dd := 3) 3 (f := { name := "at", type := 3, offset := 3, embedded := false, tag := "", pkgPath := "trug/roots", byteOffset := 16 }) (off := 3) rfl rfl rfl rfl (by decide) (by decide) (FOk.nil (P := Tryd.prog) (dd := 3) _)))
  exact h
instance : EqT Tryd.prog 80 true 3 [.i .u16, .i .u8, .i .u32] := by
  have h := eqt_struct (dd := 2) Tryd.underlying80 Tryd.stoodInHeld80 (FOk.mk2 (P := Tryd.prog) (dd := 2) 54 (f := { name := "Cart", type := 54, offset := 0, embedded := false, tag := "", pkgPath := "", byteOffset := 0 }) (off := 0) rfl rfl rfl rfl (by decide) (by decide) (FOk.mk2 (P := Tryd.prog) (dd := 2) 64 (f := { name := "Dot", type := 64, offset := 1, embedded := false, tag := "", pkgPath := "", byteOffset := 4 }) (off := 1) rfl rfl rfl rfl (by decide) (by decide) (FOk.nil (P := Tryd.prog) (dd := 2) _)))
  exact h
instance : EqT Tryd.prog 81 true 2 [.i .u32, .i .u32] := by
  have h := eqt_struct (dd := 1) Tryd.underlying81 Tryd.stoodInHeld81 (FOk.mk2 (P := Tryd.prog) (dd := 1) 26 (f := { name := "Seg", type := 26, offset := 0, embedded := false, tag := "", pkgPath := "", byteOffset := 0 }) (off := 0) rfl rfl rfl rfl (by decide) (by decide) (FOk.mk2 (P := Tryd.prog) (dd := 1) 26 (f := { name := "At", type := 26, offset := 1, embedded := false, tag := "", pkgPath := "", byteOffset := 4 }) (off := 1) rfl rfl rfl rfl (by decide) (by decide) (FOk.nil (P := Tryd.prog) (dd := 1) _)))
  exact h
instance : EqT Tryd.prog 82 true 4 [.i .u16, .i .u8, .i .u32, .i .u32, .i .u32] := by
  have h := eqt_struct (dd := 3) Tryd.underlying82 Tryd.stoodInHeld82 (FOk.mk2 (P := Tryd.prog) (dd := 3) 80 (f := { name := "Key", type := 80, offset := 0, embedded := false, tag := "", pkgPath := "", byteOffset := 0 }) (off := 0) rfl rfl rfl rfl (by decide) (by decide) (FOk.mk2 (P := Tryd.prog) (dd := 3) 81 (f := { name := "Loc", type := 81, offset := 3, embedded := false, tag := "", pkgPath := "", byteOffset := 12 }) (off := 3) rfl rfl rfl rfl (by decide) (by decide) (FOk.nil (P := Tryd.prog) (dd := 3) _)))
  exact h
instance : EqT Tryd.prog 83 true 4 [.i .u16, .i .u8, .i .u32, .i .u32, .i .u32] := by
  have h := eqt_struct (dd := 3) Tryd.underlying83 Tryd.stoodInHeld83 (FOk.mk2 (P := Tryd.prog) (dd := 3) 80 (f := { name := "Key", type := 80, offset := 0, embedded := false, tag := "", pkgPath := "", byteOffset := 0 }) (off := 0) rfl rfl rfl rfl (by decide) (by decide) (FOk.mk2 (P := Tryd.prog) (dd := 3) 81 (f := { name := "Loc", type := 81, offset := 3, embedded := false, tag := "", pkgPath := "", byteOffset := 12 }) (off := 3) rfl rfl rfl rfl (by decide) (by decide) (FOk.nil (P := Tryd.prog) (dd := 3) _)))
  exact h
instance : EqT Tryd.prog 90 true 4 [.i .u16, .i .u8, .i .u32, .i .i64] := by
  have h := eqt_struct (dd := 3) Tryd.underlying90 Tryd.stoodInHeld90 (FOk.mk2 (P := Tryd.prog) (dd := 3) 80 (f := { name := "Key", type := 80, offset := 0, embedded := false, tag := "", pkgPath := "", byteOffset := 0 }) (off := 0) rfl rfl rfl rfl (by decide) (by decide) (FOk.mk2 (P := Tryd.prog) (dd := 3) 3 (f := { name := "At", type := 3, offset := 3, embedded := false, tag := "", pkgPath := "", byteOffset := 16 }) (off := 3) rfl rfl rfl rfl (by decide) (by decide) (FOk.nil (P := Tryd.prog) (dd := 3) _)))
  exact h
instance : EqT Tryd.prog 91 true 4 [.i .u16, .i .u8, .i .u32, .i .i64] := by
  have h := eqt_struct (dd := 3) Tryd.underlying91 Tryd.stoodInHeld91 (FOk.mk2 (P := Tryd.prog) (dd := 3) 80 (f := { name := "Key", type := 80, offset := 0, embedded := false, tag := "", pkgPath := "", byteOffset := 0 }) (off := 0) rfl rfl rfl rfl (by decide) (by decide) (FOk.mk2 (P := Tryd.prog) (dd := 3) 3 (f := { name := "At", type := 3, offset := 3, embedded := false, tag := "", pkgPath := "", byteOffset := 16 }) (off := 3) rfl rfl rfl rfl (by decide) (by decide) (FOk.nil (P := Tryd.prog) (dd := 3) _)))
  exact h
instance : EqT Tryd.prog 104 true 2 [.i .u64, .i .u64, .i .u64, .i .u64] := by
  have h := eqt_array2 (ag := false) Tryd.underlying104 rfl rfl
  exact h
instance : EqT Tryd.prog 141 true 2 [.i .u64, .i .u64, .i .u64] := by
  have h := eqt_array2 (ag := false) Tryd.underlying141 rfl rfl
  exact h
instance : EqT Tryd.prog 142 false 1 [.i .u64] := eqt_int Tryd.underlying142
instance : EqT Tryd.prog 149 true 2 [.b, .i .i64] := by
  have h := eqt_struct (dd := 1) Tryd.underlying149 Tryd.stoodInHeld149 (FOk.mk2 (P := Tryd.prog) (dd := 1) 4 (f := { name := "made", type := 4, offset := 0, embedded := false, tag := "", pkgPath := "trug/pack", byteOffset := 0 }) (off := 0) rfl rfl rfl rfl (by decide) (by decide) (FOk.mk2 (P := Tryd.prog) (dd := 1) 29 (f := { name := "e", type := 29, offset := 1, embedded := false, tag := "", pkgPath := "trug/pack", byteOffset := 8 }) (off := 1) rfl rfl rfl rfl (by decide) (by decide) (FOk.nil (P := Tryd.prog) (dd := 1) _)))
  exact h
instance : EqT Tryd.prog 150 true 2 [.b, .i .i64] := by
  have h := eqt_struct (dd := 1) Tryd.underlying150 Tryd.stoodInHeld150 (FOk.mk2 (P := Tryd.prog) (dd := 1) 4 (f := { name := "made", type := 4, offset := 0, embedded := false, tag := "", pkgPath := "trug/pack", byteOffset := 0 }) (off := 0) rfl rfl rfl rfl (by decide) (by decide) (FOk.mk2 (P := Tryd.prog) (dd := 1) 29 (f := { name := "e", type := 29, offset := 1, embedded := false, tag := "", pkgPath := "trug/pack", byteOffset := 8 }) (off := 1) rfl rfl rfl rfl (by decide) (by decide) (FOk.nil (P := Tryd.prog) (dd := 1) _)))
  exact h
instance : EqT Tryd.prog 155 true 2 [.i .u8, .i .u8, .i .u8, .i .u8] := by
  have h := eqt_array2 (ag := false) Tryd.underlying155 rfl rfl
  exact h
instance : EqT Tryd.prog 186 true 2 [.i .u32, .i .u32, .i .u32, .i .u32, .i .u32, .i .u32, .i .u32, .i .u32, .i .u32, .i .u32, .i .u32, .i .u32, .i .u32, .i .u32, .i .u32, .i .u32] := by
  have h := eqt_array2 (ag := false) Tryd.underlying186 rfl rfl
  exact h
instance : EqT Tryd.prog 194 false 1 [.i .u8] := eqt_int Tryd.underlying194
instance : EqT Tryd.prog 195 false 1 [.i .u8] := eqt_int Tryd.underlying195
instance : EqT Tryd.prog 198 false 1 [.i .i32] := eqt_int Tryd.underlying198
instance : EqT Tryd.prog 199 false 1 [.i .i32] := eqt_int Tryd.underlying199
instance : Fun Tryd.prog 2 := ⟨Tryd.call2⟩
instance : Fun Tryd.prog 3 := ⟨Tryd.call3⟩
instance : Fun Tryd.prog 4 := ⟨Tryd.call4⟩
instance : Fun Tryd.prog 5 := ⟨Tryd.call5⟩
instance : Fun Tryd.prog 6 := ⟨Tryd.call6⟩
instance : Fun Tryd.prog 7 := ⟨Tryd.call7⟩
instance : Fun Tryd.prog 8 := ⟨Tryd.call8⟩
instance : Fun Tryd.prog 9 := ⟨Tryd.call9⟩
instance : Fun Tryd.prog 10 := ⟨Tryd.call10⟩
instance : Fun Tryd.prog 11 := ⟨Tryd.call11⟩
instance : Fun Tryd.prog 12 := ⟨Tryd.call12⟩
instance : Fun Tryd.prog 13 := ⟨Tryd.call13⟩
instance : Fun Tryd.prog 14 := ⟨Tryd.call14⟩
instance : Fun Tryd.prog 15 := ⟨Tryd.call15⟩
instance : Fun Tryd.prog 16 := ⟨Tryd.call16⟩
instance : Fun Tryd.prog 17 := ⟨Tryd.call17⟩
instance : Fun Tryd.prog 18 := ⟨Tryd.call18⟩
instance : Fun Tryd.prog 19 := ⟨Tryd.call19⟩
instance : Fun Tryd.prog 20 := ⟨Tryd.call20⟩
instance : Fun Tryd.prog 21 := ⟨Tryd.call21⟩
instance : Fun Tryd.prog 22 := ⟨Tryd.call22⟩
instance : Fun Tryd.prog 23 := ⟨Tryd.call23⟩
instance : Fun Tryd.prog 24 := ⟨Tryd.call24⟩
instance : Fun Tryd.prog 25 := ⟨Tryd.call25⟩
instance : Fun Tryd.prog 26 := ⟨Tryd.call26⟩
instance : Fun Tryd.prog 27 := ⟨Tryd.call27⟩
instance : Fun Tryd.prog 28 := ⟨Tryd.call28⟩
instance : Fun Tryd.prog 29 := ⟨Tryd.call29⟩
instance : Fun Tryd.prog 30 := ⟨Tryd.call30⟩
instance : Fun Tryd.prog 31 := ⟨Tryd.call31⟩
instance : Fun Tryd.prog 32 := ⟨Tryd.call32⟩
instance : Fun Tryd.prog 33 := ⟨Tryd.call33⟩
instance : Fun Tryd.prog 34 := ⟨Tryd.call34⟩
instance : Fun Tryd.prog 35 := ⟨Tryd.call35⟩
instance : Fun Tryd.prog 36 := ⟨Tryd.call36⟩
instance : Fun Tryd.prog 37 := ⟨Tryd.call37⟩
instance : Fun Tryd.prog 38 := ⟨Tryd.call38⟩
instance : Fun Tryd.prog 39 := ⟨Tryd.call39⟩
instance : Fun Tryd.prog 40 := ⟨Tryd.call40⟩
instance : Fun Tryd.prog 41 := ⟨Tryd.call41⟩
instance : Fun Tryd.prog 42 := ⟨Tryd.call42⟩
instance : Fun Tryd.prog 43 := ⟨Tryd.call43⟩
instance : Fun Tryd.prog 44 := ⟨Tryd.call44⟩
instance : Fun Tryd.prog 45 := ⟨Tryd.call45⟩
instance : Fun Tryd.prog 46 := ⟨Tryd.call46⟩
instance : Fun Tryd.prog 47 := ⟨Tryd.call47⟩
instance : Fun Tryd.prog 48 := ⟨Tryd.call48⟩
instance : Fun Tryd.prog 49 := ⟨Tryd.call49⟩
instance : Fun Tryd.prog 50 := ⟨Tryd.call50⟩
instance : Fun Tryd.prog 51 := ⟨Tryd.call51⟩
instance : Fun Tryd.prog 52 := ⟨Tryd.call52⟩
instance : Fun Tryd.prog 53 := ⟨Tryd.call53⟩
instance : Fun Tryd.prog 54 := ⟨Tryd.call54⟩
instance : Fun Tryd.prog 55 := ⟨Tryd.call55⟩
instance : Fun Tryd.prog 56 := ⟨Tryd.call56⟩
instance : Fun Tryd.prog 57 := ⟨Tryd.call57⟩
instance : Fun Tryd.prog 58 := ⟨Tryd.call58⟩
instance : Fun Tryd.prog 59 := ⟨Tryd.call59⟩
instance : Fun Tryd.prog 60 := ⟨Tryd.call60⟩
instance : Fun Tryd.prog 61 := ⟨Tryd.call61⟩
instance : Fun Tryd.prog 62 := ⟨Tryd.call62⟩
instance : Fun Tryd.prog 63 := ⟨Tryd.call63⟩
instance : Fun Tryd.prog 64 := ⟨Tryd.call64⟩
instance : Fun Tryd.prog 65 := ⟨Tryd.call65⟩
instance : Fun Tryd.prog 66 := ⟨Tryd.call66⟩
instance : Fun Tryd.prog 67 := ⟨Tryd.call67⟩
instance : Fun Tryd.prog 68 := ⟨Tryd.call68⟩
instance : Fun Tryd.prog 69 := ⟨Tryd.call69⟩
instance : Fun Tryd.prog 70 := ⟨Tryd.call70⟩
instance : Fun Tryd.prog 71 := ⟨Tryd.call71⟩
instance : Fun Tryd.prog 72 := ⟨Tryd.call72⟩
instance : Fun Tryd.prog 73 := ⟨Tryd.call73⟩
instance : Fun Tryd.prog 74 := ⟨Tryd.call74⟩
instance : Fun Tryd.prog 75 := ⟨Tryd.call75⟩
instance : Fun Tryd.prog 76 := ⟨Tryd.call76⟩
instance : Fun Tryd.prog 77 := ⟨Tryd.call77⟩
instance : Fun Tryd.prog 78 := ⟨Tryd.call78⟩
instance : Fun Tryd.prog 79 := ⟨Tryd.call79⟩
instance : Fun Tryd.prog 80 := ⟨Tryd.call80⟩
instance : Fun Tryd.prog 81 := ⟨Tryd.call81⟩
instance : Fun Tryd.prog 82 := ⟨Tryd.call82⟩
instance : Fun Tryd.prog 83 := ⟨Tryd.call83⟩
instance : Fun Tryd.prog 104 := ⟨Tryd.call104⟩
instance : Mix Tryd.prog := ⟨by as_aux_lemma => kernel_rfl⟩
end Go.Tg

