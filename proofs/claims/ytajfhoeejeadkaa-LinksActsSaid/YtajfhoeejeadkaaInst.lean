/- The types and functions of this program, as the walks want them. Printed by a program of this claim (geninst.py). -/
import Derived.KernelRfl
import Derived.Test.YtajfhoeejeadkaaProg
import Derived.Test.YtajfhoeejeadkaaOps2
set_option maxRecDepth 100000
namespace Go.Tg
open Go Go.Proofs
theorem info_of {P : Program} {t : TypeId} {i : TypeInfo} (h : ∀ w, (typeInfo t).run P w = .ok i w) : P.info? t = some i := by
  have h1 := h default
  unfold typeInfo at h1
  simp only [Sem.run_bind, run_program, Result.andThen_ok] at h1
  cases hi : P.info? t with
  | none => rw [hi] at h1; cases h1
  | some j =>
    rw [hi] at h1
    have h2 : (Result.ok j default : Result TypeInfo) = .ok i default := h1
    injection h2 with h3 h4; rw [h3]
instance : Ty Try.prog 0 (TypeDesc.tuple #[]) 1 0 (Value.tuple #[]) := ⟨Try.underlying0, Try.t0, info_of Try.typeInfo0, rfl, rfl, rfl⟩
instance : Ty Try.prog 1 (TypeDesc.func #[] #[] false) 1 8 Value.nilFunc := ⟨Try.underlying1, Try.t1, info_of Try.typeInfo1, rfl, rfl, rfl⟩
instance : Ty Try.prog 2 (TypeDesc.int IntKind.i64) 1 8 (Value.int IntKind.i64 0) := ⟨Try.underlying2, Try.t2, info_of Try.typeInfo2, rfl, rfl, rfl⟩
instance : Ty Try.prog 3 (TypeDesc.int IntKind.i64) 1 8 (Value.int IntKind.i64 0) := ⟨Try.underlying3, Try.t3, info_of Try.typeInfo3, rfl, rfl, rfl⟩
instance : Ty Try.prog 4 (TypeDesc.bool) 1 1 (Value.bool false) := ⟨Try.underlying4, Try.t4, info_of Try.typeInfo4, rfl, rfl, rfl⟩
instance : Ty Try.prog 5 (TypeDesc.int IntKind.u8) 1 1 (Value.int IntKind.u8 0) := ⟨Try.underlying5, Try.t5, info_of Try.typeInfo5, rfl, rfl, rfl⟩
instance : Ty Try.prog 6 (TypeDesc.int IntKind.u8) 1 1 (Value.int IntKind.u8 0) := ⟨Try.underlying6, Try.t6, info_of Try.typeInfo6, rfl, rfl, rfl⟩
instance : Ty Try.prog 7 (TypeDesc.struct #[{ name := "x", type := 2, offset := 0, embedded := false, tag := "", pkgPath := "runtime", byteOffset := 0 }, { name := "y", type := 3, offset := 1, embedded := false, tag := "", pkgPath := "runtime", byteOffset := 8 }, { name := "signed", type := 4, offset := 2, embedded := false, tag := "", pkgPath := "runtime", byteOffset := 16 }, { name := "code", type := 6, offset := 3, embedded := false, tag := "", pkgPath := "runtime", byteOffset := 17 }]) 4 24 (Value.agg #[Value.int IntKind.i64 0, Value.int IntKind.i64 0, Value.bool false, Value.int IntKind.u8 0]) := ⟨Try.underlying7, Try.t7, info_of Try.typeInfo7, rfl, rfl, rfl⟩
instance : Fld Try.prog 7 0 0 2 := ⟨_, _, Try.underlying7, rfl, rfl, rfl⟩
instance : Fld Try.prog 7 1 1 3 := ⟨_, _, Try.underlying7, rfl, rfl, rfl⟩
instance : Fld Try.prog 7 2 2 4 := ⟨_, _, Try.underlying7, rfl, rfl, rfl⟩
instance : Fld Try.prog 7 3 3 6 := ⟨_, _, Try.underlying7, rfl, rfl, rfl⟩
instance : EqG Try.prog 7 := ⟨Try.eqGuardType7⟩
instance : Ty Try.prog 8 (TypeDesc.struct #[{ name := "x", type := 2, offset := 0, embedded := false, tag := "", pkgPath := "runtime", byteOffset := 0 }, { name := "y", type := 3, offset := 1, embedded := false, tag := "", pkgPath := "runtime", byteOffset := 8 }, { name := "signed", type := 4, offset := 2, embedded := false, tag := "", pkgPath := "runtime", byteOffset := 16 }, { name := "code", type := 6, offset := 3, embedded := false, tag := "", pkgPath := "runtime", byteOffset := 17 }]) 4 24 (Value.agg #[Value.int IntKind.i64 0, Value.int IntKind.i64 0, Value.bool false, Value.int IntKind.u8 0]) := ⟨Try.underlying8, Try.t8, info_of Try.typeInfo8, rfl, rfl, rfl⟩
instance : Fld Try.prog 8 0 0 2 := ⟨_, _, Try.underlying8, rfl, rfl, rfl⟩
instance : Fld Try.prog 8 1 1 3 := ⟨_, _, Try.underlying8, rfl, rfl, rfl⟩
instance : Fld Try.prog 8 2 2 4 := ⟨_, _, Try.underlying8, rfl, rfl, rfl⟩
instance : Fld Try.prog 8 3 3 6 := ⟨_, _, Try.underlying8, rfl, rfl, rfl⟩
instance : EqG Try.prog 8 := ⟨Try.eqGuardType8⟩
instance : Ty Try.prog 9 (TypeDesc.string) 1 16 (Value.string { data := #[] }) := ⟨Try.underlying9, Try.t9, info_of Try.typeInfo9, rfl, rfl, rfl⟩
instance : Ty Try.prog 10 (TypeDesc.string) 1 16 (Value.string { data := #[] }) := ⟨Try.underlying10, Try.t10, info_of Try.typeInfo10, rfl, rfl, rfl⟩
instance : Ty Try.prog 11 (TypeDesc.string) 1 16 (Value.string { data := #[] }) := ⟨Try.underlying11, Try.t11, info_of Try.typeInfo11, rfl, rfl, rfl⟩
instance : Ty Try.prog 12 (TypeDesc.int IntKind.u64) 1 8 (Value.int IntKind.u64 0) := ⟨Try.underlying12, Try.t12, info_of Try.typeInfo12, rfl, rfl, rfl⟩
instance : Ty Try.prog 13 (TypeDesc.struct #[{ name := "msg", type := 9, offset := 0, embedded := false, tag := "", pkgPath := "runtime", byteOffset := 0 }, { name := "addr", type := 12, offset := 1, embedded := false, tag := "", pkgPath := "runtime", byteOffset := 16 }]) 2 24 (Value.agg #[Value.string { data := #[] }, Value.int IntKind.u64 0]) := ⟨Try.underlying13, Try.t13, info_of Try.typeInfo13, rfl, rfl, rfl⟩
instance : Fld Try.prog 13 0 0 9 := ⟨_, _, Try.underlying13, rfl, rfl, rfl⟩
instance : Fld Try.prog 13 1 1 12 := ⟨_, _, Try.underlying13, rfl, rfl, rfl⟩
instance : EqG Try.prog 13 := ⟨Try.eqGuardType13⟩
instance : Ty Try.prog 14 (TypeDesc.struct #[{ name := "msg", type := 9, offset := 0, embedded := false, tag := "", pkgPath := "runtime", byteOffset := 0 }, { name := "addr", type := 12, offset := 1, embedded := false, tag := "", pkgPath := "runtime", byteOffset := 16 }]) 2 24 (Value.agg #[Value.string { data := #[] }, Value.int IntKind.u64 0]) := ⟨Try.underlying14, Try.t14, info_of Try.typeInfo14, rfl, rfl, rfl⟩
instance : Fld Try.prog 14 0 0 9 := ⟨_, _, Try.underlying14, rfl, rfl, rfl⟩
instance : Fld Try.prog 14 1 1 12 := ⟨_, _, Try.underlying14, rfl, rfl, rfl⟩
instance : EqG Try.prog 14 := ⟨Try.eqGuardType14⟩
instance : Ty Try.prog 15 (TypeDesc.pointer 79) 1 8 (Value.pointer none) := ⟨Try.underlying15, Try.t15, info_of Try.typeInfo15, rfl, rfl, rfl⟩
instance : Ty Try.prog 16 (TypeDesc.pointer 82) 1 8 (Value.pointer none) := ⟨Try.underlying16, Try.t16, info_of Try.typeInfo16, rfl, rfl, rfl⟩
instance : Ty Try.prog 17 (TypeDesc.pointer 91) 1 8 (Value.pointer none) := ⟨Try.underlying17, Try.t17, info_of Try.typeInfo17, rfl, rfl, rfl⟩
instance : Ty Try.prog 18 (TypeDesc.struct #[{ name := "typ", type := 17, offset := 0, embedded := false, tag := "", pkgPath := "internal/runtime/maps", byteOffset := 0 }]) 1 8 (Value.agg #[Value.pointer none]) := ⟨Try.underlying18, Try.t18, info_of Try.typeInfo18, rfl, rfl, rfl⟩
instance : Fld Try.prog 18 0 0 17 := ⟨_, _, Try.underlying18, rfl, rfl, rfl⟩
instance : EqG Try.prog 18 := ⟨Try.eqGuardType18⟩
instance : Ty Try.prog 19 (TypeDesc.struct #[{ name := "typ", type := 17, offset := 0, embedded := false, tag := "", pkgPath := "internal/runtime/maps", byteOffset := 0 }]) 1 8 (Value.agg #[Value.pointer none]) := ⟨Try.underlying19, Try.t19, info_of Try.typeInfo19, rfl, rfl, rfl⟩
instance : Fld Try.prog 19 0 0 17 := ⟨_, _, Try.underlying19, rfl, rfl, rfl⟩
instance : EqG Try.prog 19 := ⟨Try.eqGuardType19⟩
instance : Ty Try.prog 20 (TypeDesc.interface #[]) 1 16 Value.nilIface := ⟨Try.underlying20, Try.t20, info_of Try.typeInfo20, rfl, rfl, rfl⟩
instance : Ty Try.prog 21 (TypeDesc.int IntKind.i32) 1 4 (Value.int IntKind.i32 0) := ⟨Try.underlying21, Try.t21, info_of Try.typeInfo21, rfl, rfl, rfl⟩
instance : Ty Try.prog 22 (TypeDesc.slice 33) 1 24 (Value.slice none 0 0) := ⟨Try.underlying22, Try.t22, info_of Try.typeInfo22, rfl, rfl, rfl⟩
instance : Ty Try.prog 23 (TypeDesc.func #[] #[4] false) 1 8 Value.nilFunc := ⟨Try.underlying23, Try.t23, info_of Try.typeInfo23, rfl, rfl, rfl⟩
instance : Ty Try.prog 24 (TypeDesc.pointer 57) 1 8 (Value.pointer none) := ⟨Try.underlying24, Try.t24, info_of Try.typeInfo24, rfl, rfl, rfl⟩
instance : Ty Try.prog 25 (TypeDesc.func #[3, 3] #[24] false) 1 8 Value.nilFunc := ⟨Try.underlying25, Try.t25, info_of Try.typeInfo25, rfl, rfl, rfl⟩
instance : Ty Try.prog 26 (TypeDesc.func #[3, 3] #[4] false) 1 8 Value.nilFunc := ⟨Try.underlying26, Try.t26, info_of Try.typeInfo26, rfl, rfl, rfl⟩
instance : Ty Try.prog 27 (TypeDesc.slice 39) 1 24 (Value.slice none 0 0) := ⟨Try.underlying27, Try.t27, info_of Try.typeInfo27, rfl, rfl, rfl⟩
instance : Ty Try.prog 28 (TypeDesc.struct #[{ name := "L", type := 27, offset := 0, embedded := false, tag := "", pkgPath := "", byteOffset := 0 }, { name := "Reps", type := 3, offset := 1, embedded := false, tag := "", pkgPath := "", byteOffset := 24 }, { name := "Room", type := 3, offset := 2, embedded := false, tag := "", pkgPath := "", byteOffset := 32 }]) 3 40 (Value.agg #[Value.slice none 0 0, Value.int IntKind.i64 0, Value.int IntKind.i64 0]) := ⟨Try.underlying28, Try.t28, info_of Try.typeInfo28, rfl, rfl, rfl⟩
instance : Fld Try.prog 28 0 0 27 := ⟨_, _, Try.underlying28, rfl, rfl, rfl⟩
instance : Fld Try.prog 28 1 1 3 := ⟨_, _, Try.underlying28, rfl, rfl, rfl⟩
instance : Fld Try.prog 28 2 2 3 := ⟨_, _, Try.underlying28, rfl, rfl, rfl⟩
instance : EqG Try.prog 28 := ⟨Try.eqGuardType28⟩
instance : Ty Try.prog 29 (TypeDesc.struct #[{ name := "L", type := 27, offset := 0, embedded := false, tag := "", pkgPath := "", byteOffset := 0 }, { name := "Reps", type := 3, offset := 1, embedded := false, tag := "", pkgPath := "", byteOffset := 24 }, { name := "Room", type := 3, offset := 2, embedded := false, tag := "", pkgPath := "", byteOffset := 32 }]) 3 40 (Value.agg #[Value.slice none 0 0, Value.int IntKind.i64 0, Value.int IntKind.i64 0]) := ⟨Try.underlying29, Try.t29, info_of Try.typeInfo29, rfl, rfl, rfl⟩
instance : Fld Try.prog 29 0 0 27 := ⟨_, _, Try.underlying29, rfl, rfl, rfl⟩
instance : Fld Try.prog 29 1 1 3 := ⟨_, _, Try.underlying29, rfl, rfl, rfl⟩
instance : Fld Try.prog 29 2 2 3 := ⟨_, _, Try.underlying29, rfl, rfl, rfl⟩
instance : EqG Try.prog 29 := ⟨Try.eqGuardType29⟩
instance : Ty Try.prog 30 (TypeDesc.int IntKind.u16) 1 2 (Value.int IntKind.u16 0) := ⟨Try.underlying30, Try.t30, info_of Try.typeInfo30, rfl, rfl, rfl⟩
instance : Ty Try.prog 31 (TypeDesc.slice 5) 1 24 (Value.slice none 0 0) := ⟨Try.underlying31, Try.t31, info_of Try.typeInfo31, rfl, rfl, rfl⟩
instance : Ty Try.prog 32 (TypeDesc.struct #[{ name := "Kind", type := 5, offset := 0, embedded := false, tag := "", pkgPath := "", byteOffset := 0 }, { name := "From", type := 5, offset := 1, embedded := false, tag := "", pkgPath := "", byteOffset := 1 }, { name := "To", type := 5, offset := 2, embedded := false, tag := "", pkgPath := "", byteOffset := 2 }, { name := "N", type := 3, offset := 3, embedded := false, tag := "", pkgPath := "", byteOffset := 8 }, { name := "How", type := 3, offset := 4, embedded := false, tag := "", pkgPath := "", byteOffset := 16 }, { name := "At", type := 30, offset := 5, embedded := false, tag := "", pkgPath := "", byteOffset := 24 }, { name := "By", type := 5, offset := 6, embedded := false, tag := "", pkgPath := "", byteOffset := 26 }, { name := "B", type := 31, offset := 7, embedded := false, tag := "", pkgPath := "", byteOffset := 32 }]) 8 56 (Value.agg #[Value.int IntKind.u8 0, Value.int IntKind.u8 0, Value.int IntKind.u8 0, Value.int IntKind.i64 0, Value.int IntKind.i64 0, Value.int IntKind.u16 0, Value.int IntKind.u8 0, Value.slice none 0 0]) := ⟨Try.underlying32, Try.t32, info_of Try.typeInfo32, rfl, rfl, rfl⟩
instance : Fld Try.prog 32 0 0 5 := ⟨_, _, Try.underlying32, rfl, rfl, rfl⟩
instance : Fld Try.prog 32 1 1 5 := ⟨_, _, Try.underlying32, rfl, rfl, rfl⟩
instance : Fld Try.prog 32 2 2 5 := ⟨_, _, Try.underlying32, rfl, rfl, rfl⟩
instance : Fld Try.prog 32 3 3 3 := ⟨_, _, Try.underlying32, rfl, rfl, rfl⟩
instance : Fld Try.prog 32 4 4 3 := ⟨_, _, Try.underlying32, rfl, rfl, rfl⟩
instance : Fld Try.prog 32 5 5 30 := ⟨_, _, Try.underlying32, rfl, rfl, rfl⟩
instance : Fld Try.prog 32 6 6 5 := ⟨_, _, Try.underlying32, rfl, rfl, rfl⟩
instance : Fld Try.prog 32 7 7 31 := ⟨_, _, Try.underlying32, rfl, rfl, rfl⟩
instance : EqG Try.prog 32 := ⟨Try.eqGuardType32⟩
instance : Ty Try.prog 33 (TypeDesc.struct #[{ name := "Kind", type := 5, offset := 0, embedded := false, tag := "", pkgPath := "", byteOffset := 0 }, { name := "From", type := 5, offset := 1, embedded := false, tag := "", pkgPath := "", byteOffset := 1 }, { name := "To", type := 5, offset := 2, embedded := false, tag := "", pkgPath := "", byteOffset := 2 }, { name := "N", type := 3, offset := 3, embedded := false, tag := "", pkgPath := "", byteOffset := 8 }, { name := "How", type := 3, offset := 4, embedded := false, tag := "", pkgPath := "", byteOffset := 16 }, { name := "At", type := 30, offset := 5, embedded := false, tag := "", pkgPath := "", byteOffset := 24 }, { name := "By", type := 5, offset := 6, embedded := false, tag := "", pkgPath := "", byteOffset := 26 }, { name := "B", type := 31, offset := 7, embedded := false, tag := "", pkgPath := "", byteOffset := 32 }]) 8 56 (Value.agg #[Value.int IntKind.u8 0, Value.int IntKind.u8 0, Value.int IntKind.u8 0, Value.int IntKind.i64 0, Value.int IntKind.i64 0, Value.int IntKind.u16 0, Value.int IntKind.u8 0, Value.slice none 0 0]) := ⟨Try.underlying33, Try.t33, info_of Try.typeInfo33, rfl, rfl, rfl⟩
instance : Fld Try.prog 33 0 0 5 := ⟨_, _, Try.underlying33, rfl, rfl, rfl⟩
instance : Fld Try.prog 33 1 1 5 := ⟨_, _, Try.underlying33, rfl, rfl, rfl⟩
instance : Fld Try.prog 33 2 2 5 := ⟨_, _, Try.underlying33, rfl, rfl, rfl⟩
instance : Fld Try.prog 33 3 3 3 := ⟨_, _, Try.underlying33, rfl, rfl, rfl⟩
instance : Fld Try.prog 33 4 4 3 := ⟨_, _, Try.underlying33, rfl, rfl, rfl⟩
instance : Fld Try.prog 33 5 5 30 := ⟨_, _, Try.underlying33, rfl, rfl, rfl⟩
instance : Fld Try.prog 33 6 6 5 := ⟨_, _, Try.underlying33, rfl, rfl, rfl⟩
instance : Fld Try.prog 33 7 7 31 := ⟨_, _, Try.underlying33, rfl, rfl, rfl⟩
instance : EqG Try.prog 33 := ⟨Try.eqGuardType33⟩
instance : Ty Try.prog 34 (TypeDesc.struct #[{ name := "From", type := 5, offset := 0, embedded := false, tag := "", pkgPath := "", byteOffset := 0 }, { name := "To", type := 5, offset := 1, embedded := false, tag := "", pkgPath := "", byteOffset := 1 }, { name := "B", type := 31, offset := 2, embedded := false, tag := "", pkgPath := "", byteOffset := 8 }]) 3 32 (Value.agg #[Value.int IntKind.u8 0, Value.int IntKind.u8 0, Value.slice none 0 0]) := ⟨Try.underlying34, Try.t34, info_of Try.typeInfo34, rfl, rfl, rfl⟩
instance : Fld Try.prog 34 0 0 5 := ⟨_, _, Try.underlying34, rfl, rfl, rfl⟩
instance : Fld Try.prog 34 1 1 5 := ⟨_, _, Try.underlying34, rfl, rfl, rfl⟩
instance : Fld Try.prog 34 2 2 31 := ⟨_, _, Try.underlying34, rfl, rfl, rfl⟩
instance : EqG Try.prog 34 := ⟨Try.eqGuardType34⟩
instance : Ty Try.prog 35 (TypeDesc.struct #[{ name := "From", type := 5, offset := 0, embedded := false, tag := "", pkgPath := "", byteOffset := 0 }, { name := "To", type := 5, offset := 1, embedded := false, tag := "", pkgPath := "", byteOffset := 1 }, { name := "B", type := 31, offset := 2, embedded := false, tag := "", pkgPath := "", byteOffset := 8 }]) 3 32 (Value.agg #[Value.int IntKind.u8 0, Value.int IntKind.u8 0, Value.slice none 0 0]) := ⟨Try.underlying35, Try.t35, info_of Try.typeInfo35, rfl, rfl, rfl⟩
instance : Fld Try.prog 35 0 0 5 := ⟨_, _, Try.underlying35, rfl, rfl, rfl⟩
instance : Fld Try.prog 35 1 1 5 := ⟨_, _, Try.underlying35, rfl, rfl, rfl⟩
instance : Fld Try.prog 35 2 2 31 := ⟨_, _, Try.underlying35, rfl, rfl, rfl⟩
instance : EqG Try.prog 35 := ⟨Try.eqGuardType35⟩
instance : Ty Try.prog 36 (TypeDesc.int IntKind.i64) 1 8 (Value.int IntKind.i64 0) := ⟨Try.underlying36, Try.t36, info_of Try.typeInfo36, rfl, rfl, rfl⟩
instance : Ty Try.prog 37 (TypeDesc.tuple #[35, 36]) 1 0 (Value.tuple #[Value.agg #[Value.int IntKind.u8 0, Value.int IntKind.u8 0, Value.slice none 0 0], Value.int IntKind.i64 0]) := ⟨Try.underlying37, Try.t37, info_of Try.typeInfo37, rfl, rfl, rfl⟩
instance : Ty Try.prog 38 (TypeDesc.func #[5, 5, 3] #[35, 36] false) 1 8 Value.nilFunc := ⟨Try.underlying38, Try.t38, info_of Try.typeInfo38, rfl, rfl, rfl⟩
instance : Ty Try.prog 39 (TypeDesc.struct #[{ name := "From", type := 5, offset := 0, embedded := false, tag := "", pkgPath := "", byteOffset := 0 }, { name := "To", type := 5, offset := 1, embedded := false, tag := "", pkgPath := "", byteOffset := 1 }, { name := "B", type := 31, offset := 2, embedded := false, tag := "", pkgPath := "", byteOffset := 8 }]) 3 32 (Value.agg #[Value.int IntKind.u8 0, Value.int IntKind.u8 0, Value.slice none 0 0]) := ⟨Try.underlying39, Try.t39, info_of Try.typeInfo39, rfl, rfl, rfl⟩
instance : Fld Try.prog 39 0 0 5 := ⟨_, _, Try.underlying39, rfl, rfl, rfl⟩
instance : Fld Try.prog 39 1 1 5 := ⟨_, _, Try.underlying39, rfl, rfl, rfl⟩
instance : Fld Try.prog 39 2 2 31 := ⟨_, _, Try.underlying39, rfl, rfl, rfl⟩
instance : EqG Try.prog 39 := ⟨Try.eqGuardType39⟩
instance : Ty Try.prog 40 (TypeDesc.tuple #[29, 39, 3]) 1 0 (Value.tuple #[Value.agg #[Value.slice none 0 0, Value.int IntKind.i64 0, Value.int IntKind.i64 0], Value.agg #[Value.int IntKind.u8 0, Value.int IntKind.u8 0, Value.slice none 0 0], Value.int IntKind.i64 0]) := ⟨Try.underlying40, Try.t40, info_of Try.typeInfo40, rfl, rfl, rfl⟩
instance : Ty Try.prog 41 (TypeDesc.func #[29, 5, 5, 3] #[29, 39, 3] false) 1 8 Value.nilFunc := ⟨Try.underlying41, Try.t41, info_of Try.typeInfo41, rfl, rfl, rfl⟩
instance : Ty Try.prog 42 (TypeDesc.tuple #[29, 3]) 1 0 (Value.tuple #[Value.agg #[Value.slice none 0 0, Value.int IntKind.i64 0, Value.int IntKind.i64 0], Value.int IntKind.i64 0]) := ⟨Try.underlying42, Try.t42, info_of Try.typeInfo42, rfl, rfl, rfl⟩
instance : Ty Try.prog 43 (TypeDesc.func #[29, 5, 5, 3, 3, 30, 5] #[29, 3] false) 1 8 Value.nilFunc := ⟨Try.underlying43, Try.t43, info_of Try.typeInfo43, rfl, rfl, rfl⟩
instance : Ty Try.prog 44 (TypeDesc.func #[5, 5, 3, 46] #[36] false) 1 8 Value.nilFunc := ⟨Try.underlying44, Try.t44, info_of Try.typeInfo44, rfl, rfl, rfl⟩
instance : Ty Try.prog 45 (TypeDesc.struct #[{ name := "Kind", type := 3, offset := 0, embedded := false, tag := "", pkgPath := "", byteOffset := 0 }, { name := "At", type := 30, offset := 1, embedded := false, tag := "", pkgPath := "", byteOffset := 8 }, { name := "By", type := 5, offset := 2, embedded := false, tag := "", pkgPath := "", byteOffset := 10 }]) 3 16 (Value.agg #[Value.int IntKind.i64 0, Value.int IntKind.u16 0, Value.int IntKind.u8 0]) := ⟨Try.underlying45, Try.t45, info_of Try.typeInfo45, rfl, rfl, rfl⟩
instance : Fld Try.prog 45 0 0 3 := ⟨_, _, Try.underlying45, rfl, rfl, rfl⟩
instance : Fld Try.prog 45 1 1 30 := ⟨_, _, Try.underlying45, rfl, rfl, rfl⟩
instance : Fld Try.prog 45 2 2 5 := ⟨_, _, Try.underlying45, rfl, rfl, rfl⟩
instance : EqG Try.prog 45 := ⟨Try.eqGuardType45⟩
instance : Ty Try.prog 46 (TypeDesc.struct #[{ name := "Kind", type := 3, offset := 0, embedded := false, tag := "", pkgPath := "", byteOffset := 0 }, { name := "At", type := 30, offset := 1, embedded := false, tag := "", pkgPath := "", byteOffset := 8 }, { name := "By", type := 5, offset := 2, embedded := false, tag := "", pkgPath := "", byteOffset := 10 }]) 3 16 (Value.agg #[Value.int IntKind.i64 0, Value.int IntKind.u16 0, Value.int IntKind.u8 0]) := ⟨Try.underlying46, Try.t46, info_of Try.typeInfo46, rfl, rfl, rfl⟩
instance : Fld Try.prog 46 0 0 3 := ⟨_, _, Try.underlying46, rfl, rfl, rfl⟩
instance : Fld Try.prog 46 1 1 30 := ⟨_, _, Try.underlying46, rfl, rfl, rfl⟩
instance : Fld Try.prog 46 2 2 5 := ⟨_, _, Try.underlying46, rfl, rfl, rfl⟩
instance : EqG Try.prog 46 := ⟨Try.eqGuardType46⟩
instance : Ty Try.prog 47 (TypeDesc.func #[29, 39] #[29, 3] false) 1 8 Value.nilFunc := ⟨Try.underlying47, Try.t47, info_of Try.typeInfo47, rfl, rfl, rfl⟩
instance : Ty Try.prog 48 (TypeDesc.func #[35] #[36] false) 1 8 Value.nilFunc := ⟨Try.underlying48, Try.t48, info_of Try.typeInfo48, rfl, rfl, rfl⟩
instance : Ty Try.prog 49 (TypeDesc.func #[] #[3] false) 1 8 Value.nilFunc := ⟨Try.underlying49, Try.t49, info_of Try.typeInfo49, rfl, rfl, rfl⟩
instance : Ty Try.prog 50 (TypeDesc.func #[51, 51] #[4] false) 1 8 Value.nilFunc := ⟨Try.underlying50, Try.t50, info_of Try.typeInfo50, rfl, rfl, rfl⟩
instance : Ty Try.prog 51 (TypeDesc.slice 31) 1 24 (Value.slice none 0 0) := ⟨Try.underlying51, Try.t51, info_of Try.typeInfo51, rfl, rfl, rfl⟩
instance : Ty Try.prog 52 (TypeDesc.func #[5, 5] #[51] false) 1 8 Value.nilFunc := ⟨Try.underlying52, Try.t52, info_of Try.typeInfo52, rfl, rfl, rfl⟩
instance : Ty Try.prog 53 (TypeDesc.func #[29, 5, 5] #[51] false) 1 8 Value.nilFunc := ⟨Try.underlying53, Try.t53, info_of Try.typeInfo53, rfl, rfl, rfl⟩
instance : Ty Try.prog 54 (TypeDesc.func #[3, 3, 22] #[4] false) 1 8 Value.nilFunc := ⟨Try.underlying54, Try.t54, info_of Try.typeInfo54, rfl, rfl, rfl⟩
instance : Ty Try.prog 55 (TypeDesc.map 64 51) 1 8 (Value.map none) := ⟨Try.underlying55, Try.t55, info_of Try.typeInfo55, rfl, rfl, rfl⟩
instance : Ty Try.prog 56 (TypeDesc.struct #[{ name := "reps", type := 3, offset := 0, embedded := false, tag := "", pkgPath := "trug/links", byteOffset := 0 }, { name := "room", type := 3, offset := 1, embedded := false, tag := "", pkgPath := "trug/links", byteOffset := 8 }, { name := "n", type := 3, offset := 2, embedded := false, tag := "", pkgPath := "trug/links", byteOffset := 16 }, { name := "links", type := 55, offset := 3, embedded := false, tag := "", pkgPath := "trug/links", byteOffset := 24 }]) 4 32 (Value.agg #[Value.int IntKind.i64 0, Value.int IntKind.i64 0, Value.int IntKind.i64 0, Value.map none]) := ⟨Try.underlying56, Try.t56, info_of Try.typeInfo56, rfl, rfl, rfl⟩
instance : Fld Try.prog 56 0 0 3 := ⟨_, _, Try.underlying56, rfl, rfl, rfl⟩
instance : Fld Try.prog 56 1 1 3 := ⟨_, _, Try.underlying56, rfl, rfl, rfl⟩
instance : Fld Try.prog 56 2 2 3 := ⟨_, _, Try.underlying56, rfl, rfl, rfl⟩
instance : Fld Try.prog 56 3 3 55 := ⟨_, _, Try.underlying56, rfl, rfl, rfl⟩
instance : EqG Try.prog 56 := ⟨Try.eqGuardType56⟩
instance : Ty Try.prog 57 (TypeDesc.struct #[{ name := "reps", type := 3, offset := 0, embedded := false, tag := "", pkgPath := "trug/links", byteOffset := 0 }, { name := "room", type := 3, offset := 1, embedded := false, tag := "", pkgPath := "trug/links", byteOffset := 8 }, { name := "n", type := 3, offset := 2, embedded := false, tag := "", pkgPath := "trug/links", byteOffset := 16 }, { name := "links", type := 55, offset := 3, embedded := false, tag := "", pkgPath := "trug/links", byteOffset := 24 }]) 4 32 (Value.agg #[Value.int IntKind.i64 0, Value.int IntKind.i64 0, Value.int IntKind.i64 0, Value.map none]) := ⟨Try.underlying57, Try.t57, info_of Try.typeInfo57, rfl, rfl, rfl⟩
instance : Fld Try.prog 57 0 0 3 := ⟨_, _, Try.underlying57, rfl, rfl, rfl⟩
instance : Fld Try.prog 57 1 1 3 := ⟨_, _, Try.underlying57, rfl, rfl, rfl⟩
instance : Fld Try.prog 57 2 2 3 := ⟨_, _, Try.underlying57, rfl, rfl, rfl⟩
instance : Fld Try.prog 57 3 3 55 := ⟨_, _, Try.underlying57, rfl, rfl, rfl⟩
instance : EqG Try.prog 57 := ⟨Try.eqGuardType57⟩
instance : Ty Try.prog 58 (TypeDesc.slice 24) 1 24 (Value.slice none 0 0) := ⟨Try.underlying58, Try.t58, info_of Try.typeInfo58, rfl, rfl, rfl⟩
instance : Ty Try.prog 59 (TypeDesc.func #[33] #[4] false) 1 8 Value.nilFunc := ⟨Try.underlying59, Try.t59, info_of Try.typeInfo59, rfl, rfl, rfl⟩
instance : Ty Try.prog 60 (TypeDesc.func #[22] #[4] false) 1 8 Value.nilFunc := ⟨Try.underlying60, Try.t60, info_of Try.typeInfo60, rfl, rfl, rfl⟩
instance : Ty Try.prog 61 (TypeDesc.array 2 5) 2 2 (Value.agg #[Value.int IntKind.u8 0, Value.int IntKind.u8 0]) := ⟨Try.underlying61, Try.t61, info_of Try.typeInfo61, rfl, rfl, rfl⟩
instance : EqG Try.prog 61 := ⟨Try.eqGuardType61⟩
instance : Ty Try.prog 62 (TypeDesc.func #[51, 5, 61] #[4] false) 1 8 Value.nilFunc := ⟨Try.underlying62, Try.t62, info_of Try.typeInfo62, rfl, rfl, rfl⟩
instance : Ty Try.prog 63 (TypeDesc.struct #[{ name := "from", type := 5, offset := 0, embedded := false, tag := "", pkgPath := "trug/links", byteOffset := 0 }, { name := "to", type := 5, offset := 1, embedded := false, tag := "", pkgPath := "trug/links", byteOffset := 1 }]) 2 2 (Value.agg #[Value.int IntKind.u8 0, Value.int IntKind.u8 0]) := ⟨Try.underlying63, Try.t63, info_of Try.typeInfo63, rfl, rfl, rfl⟩
instance : Fld Try.prog 63 0 0 5 := ⟨_, _, Try.underlying63, rfl, rfl, rfl⟩
instance : Fld Try.prog 63 1 1 5 := ⟨_, _, Try.underlying63, rfl, rfl, rfl⟩
instance : EqG Try.prog 63 := ⟨Try.eqGuardType63⟩
instance : Ty Try.prog 64 (TypeDesc.struct #[{ name := "from", type := 5, offset := 0, embedded := false, tag := "", pkgPath := "trug/links", byteOffset := 0 }, { name := "to", type := 5, offset := 1, embedded := false, tag := "", pkgPath := "trug/links", byteOffset := 1 }]) 2 2 (Value.agg #[Value.int IntKind.u8 0, Value.int IntKind.u8 0]) := ⟨Try.underlying64, Try.t64, info_of Try.typeInfo64, rfl, rfl, rfl⟩
instance : Fld Try.prog 64 0 0 5 := ⟨_, _, Try.underlying64, rfl, rfl, rfl⟩
instance : Fld Try.prog 64 1 1 5 := ⟨_, _, Try.underlying64, rfl, rfl, rfl⟩
instance : EqG Try.prog 64 := ⟨Try.eqGuardType64⟩
instance : Ty Try.prog 65 (TypeDesc.func #[64] #[36] false) 1 8 Value.nilFunc := ⟨Try.underlying65, Try.t65, info_of Try.typeInfo65, rfl, rfl, rfl⟩
instance : Ty Try.prog 66 (TypeDesc.tuple #[31, 36]) 1 0 (Value.tuple #[Value.slice none 0 0, Value.int IntKind.i64 0]) := ⟨Try.underlying66, Try.t66, info_of Try.typeInfo66, rfl, rfl, rfl⟩
instance : Ty Try.prog 67 (TypeDesc.func #[64, 3] #[31, 36] false) 1 8 Value.nilFunc := ⟨Try.underlying67, Try.t67, info_of Try.typeInfo67, rfl, rfl, rfl⟩
instance : Ty Try.prog 68 (TypeDesc.func #[29, 5, 5] #[4] false) 1 8 Value.nilFunc := ⟨Try.underlying68, Try.t68, info_of Try.typeInfo68, rfl, rfl, rfl⟩
instance : Ty Try.prog 69 (TypeDesc.func #[29, 5, 5, 3] #[3] false) 1 8 Value.nilFunc := ⟨Try.underlying69, Try.t69, info_of Try.typeInfo69, rfl, rfl, rfl⟩
instance : Ty Try.prog 70 (TypeDesc.func #[27, 3, 27] #[27] false) 1 8 Value.nilFunc := ⟨Try.underlying70, Try.t70, info_of Try.typeInfo70, rfl, rfl, rfl⟩
instance : Ty Try.prog 71 (TypeDesc.func #[39, 30, 5] #[39] false) 1 8 Value.nilFunc := ⟨Try.underlying71, Try.t71, info_of Try.typeInfo71, rfl, rfl, rfl⟩
instance : Ty Try.prog 72 (TypeDesc.func #[51, 3, 51] #[51] true) 1 8 Value.nilFunc := ⟨Try.underlying72, Try.t72, info_of Try.typeInfo72, rfl, rfl, rfl⟩
instance : Ty Try.prog 73 (TypeDesc.func #[31] #[31] false) 1 8 Value.nilFunc := ⟨Try.underlying73, Try.t73, info_of Try.typeInfo73, rfl, rfl, rfl⟩
instance : Ty Try.prog 74 (TypeDesc.func #[51, 3, 3] #[51] false) 1 8 Value.nilFunc := ⟨Try.underlying74, Try.t74, info_of Try.typeInfo74, rfl, rfl, rfl⟩
instance : Ty Try.prog 75 (TypeDesc.func #[51, 3] #[] false) 1 8 Value.nilFunc := ⟨Try.underlying75, Try.t75, info_of Try.typeInfo75, rfl, rfl, rfl⟩
instance : Ty Try.prog 76 (TypeDesc.func #[51] #[] false) 1 8 Value.nilFunc := ⟨Try.underlying76, Try.t76, info_of Try.typeInfo76, rfl, rfl, rfl⟩
instance : Ty Try.prog 77 (TypeDesc.func #[] #[9] false) 1 8 Value.nilFunc := ⟨Try.underlying77, Try.t77, info_of Try.typeInfo77, rfl, rfl, rfl⟩
instance : Ty Try.prog 78 (TypeDesc.struct #[{ name := "_interface", type := 17, offset := 0, embedded := false, tag := "", pkgPath := "runtime", byteOffset := 0 }, { name := "concrete", type := 17, offset := 1, embedded := false, tag := "", pkgPath := "runtime", byteOffset := 8 }, { name := "asserted", type := 17, offset := 2, embedded := false, tag := "", pkgPath := "runtime", byteOffset := 16 }, { name := "missingMethod", type := 9, offset := 3, embedded := false, tag := "", pkgPath := "runtime", byteOffset := 24 }]) 4 40 (Value.agg #[Value.pointer none, Value.pointer none, Value.pointer none, Value.string { data := #[] }]) := ⟨Try.underlying78, Try.t78, info_of Try.typeInfo78, rfl, rfl, rfl⟩
instance : Fld Try.prog 78 0 0 17 := ⟨_, _, Try.underlying78, rfl, rfl, rfl⟩
instance : Fld Try.prog 78 1 1 17 := ⟨_, _, Try.underlying78, rfl, rfl, rfl⟩
instance : Fld Try.prog 78 2 2 17 := ⟨_, _, Try.underlying78, rfl, rfl, rfl⟩
instance : Fld Try.prog 78 3 3 9 := ⟨_, _, Try.underlying78, rfl, rfl, rfl⟩
instance : EqG Try.prog 78 := ⟨Try.eqGuardType78⟩
instance : Ty Try.prog 79 (TypeDesc.struct #[{ name := "_interface", type := 17, offset := 0, embedded := false, tag := "", pkgPath := "runtime", byteOffset := 0 }, { name := "concrete", type := 17, offset := 1, embedded := false, tag := "", pkgPath := "runtime", byteOffset := 8 }, { name := "asserted", type := 17, offset := 2, embedded := false, tag := "", pkgPath := "runtime", byteOffset := 16 }, { name := "missingMethod", type := 9, offset := 3, embedded := false, tag := "", pkgPath := "runtime", byteOffset := 24 }]) 4 40 (Value.agg #[Value.pointer none, Value.pointer none, Value.pointer none, Value.string { data := #[] }]) := ⟨Try.underlying79, Try.t79, info_of Try.typeInfo79, rfl, rfl, rfl⟩
instance : Fld Try.prog 79 0 0 17 := ⟨_, _, Try.underlying79, rfl, rfl, rfl⟩
instance : Fld Try.prog 79 1 1 17 := ⟨_, _, Try.underlying79, rfl, rfl, rfl⟩
instance : Fld Try.prog 79 2 2 17 := ⟨_, _, Try.underlying79, rfl, rfl, rfl⟩
instance : Fld Try.prog 79 3 3 9 := ⟨_, _, Try.underlying79, rfl, rfl, rfl⟩
instance : EqG Try.prog 79 := ⟨Try.eqGuardType79⟩
instance : Ty Try.prog 80 (TypeDesc.array 0 16) 0 0 (Value.agg #[]) := ⟨Try.underlying80, Try.t80, info_of Try.typeInfo80, rfl, rfl, rfl⟩
instance : EqG Try.prog 80 := ⟨Try.eqGuardType80⟩
instance : Ty Try.prog 81 (TypeDesc.struct #[{ name := "_", type := 80, offset := 0, embedded := false, tag := "", pkgPath := "runtime", byteOffset := 0 }]) 0 0 (Value.agg #[]) := ⟨Try.underlying81, Try.t81, info_of Try.typeInfo81, rfl, rfl, rfl⟩
instance : Fld Try.prog 81 0 0 80 := ⟨_, _, Try.underlying81, rfl, rfl, rfl⟩
instance : EqG Try.prog 81 := ⟨Try.eqGuardType81⟩
instance : Ty Try.prog 82 (TypeDesc.struct #[{ name := "_", type := 80, offset := 0, embedded := false, tag := "", pkgPath := "runtime", byteOffset := 0 }]) 0 0 (Value.agg #[]) := ⟨Try.underlying82, Try.t82, info_of Try.typeInfo82, rfl, rfl, rfl⟩
instance : Fld Try.prog 82 0 0 80 := ⟨_, _, Try.underlying82, rfl, rfl, rfl⟩
instance : EqG Try.prog 82 := ⟨Try.eqGuardType82⟩
instance : Ty Try.prog 83 (TypeDesc.int IntKind.u32) 1 4 (Value.int IntKind.u32 0) := ⟨Try.underlying83, Try.t83, info_of Try.typeInfo83, rfl, rfl, rfl⟩
instance : Ty Try.prog 84 (TypeDesc.int IntKind.u8) 1 1 (Value.int IntKind.u8 0) := ⟨Try.underlying84, Try.t84, info_of Try.typeInfo84, rfl, rfl, rfl⟩
instance : Ty Try.prog 85 (TypeDesc.int IntKind.u8) 1 1 (Value.int IntKind.u8 0) := ⟨Try.underlying85, Try.t85, info_of Try.typeInfo85, rfl, rfl, rfl⟩
instance : Ty Try.prog 86 (TypeDesc.func #[92, 92] #[4] false) 1 8 Value.nilFunc := ⟨Try.underlying86, Try.t86, info_of Try.typeInfo86, rfl, rfl, rfl⟩
instance : Ty Try.prog 87 (TypeDesc.pointer 5) 1 8 (Value.pointer none) := ⟨Try.underlying87, Try.t87, info_of Try.typeInfo87, rfl, rfl, rfl⟩
instance : Ty Try.prog 88 (TypeDesc.int IntKind.i32) 1 4 (Value.int IntKind.i32 0) := ⟨Try.underlying88, Try.t88, info_of Try.typeInfo88, rfl, rfl, rfl⟩
instance : Ty Try.prog 89 (TypeDesc.int IntKind.i32) 1 4 (Value.int IntKind.i32 0) := ⟨Try.underlying89, Try.t89, info_of Try.typeInfo89, rfl, rfl, rfl⟩
instance : Ty Try.prog 90 (TypeDesc.struct #[{ name := "Size_", type := 12, offset := 0, embedded := false, tag := "", pkgPath := "", byteOffset := 0 }, { name := "PtrBytes", type := 12, offset := 1, embedded := false, tag := "", pkgPath := "", byteOffset := 8 }, { name := "Hash", type := 83, offset := 2, embedded := false, tag := "", pkgPath := "", byteOffset := 16 }, { name := "TFlag", type := 84, offset := 3, embedded := false, tag := "", pkgPath := "", byteOffset := 20 }, { name := "Align_", type := 5, offset := 4, embedded := false, tag := "", pkgPath := "", byteOffset := 21 }, { name := "FieldAlign_", type := 5, offset := 5, embedded := false, tag := "", pkgPath := "", byteOffset := 22 }, { name := "Kind_", type := 85, offset := 6, embedded := false, tag := "", pkgPath := "", byteOffset := 23 }, { name := "Equal", type := 86, offset := 7, embedded := false, tag := "", pkgPath := "", byteOffset := 24 }, { name := "GCData", type := 87, offset := 8, embedded := false, tag := "", pkgPath := "", byteOffset := 32 }, { name := "Str", type := 88, offset := 9, embedded := false, tag := "", pkgPath := "", byteOffset := 40 }, { name := "PtrToThis", type := 89, offset := 10, embedded := false, tag := "", pkgPath := "", byteOffset := 44 }]) 11 48 (Value.agg #[Value.int IntKind.u64 0, Value.int IntKind.u64 0, Value.int IntKind.u32 0, Value.int IntKind.u8 0, Value.int IntKind.u8 0, Value.int IntKind.u8 0, Value.int IntKind.u8 0, Value.nilFunc, Value.pointer none, Value.int IntKind.i32 0, Value.int IntKind.i32 0]) := ⟨Try.underlying90, Try.t90, info_of Try.typeInfo90, rfl, rfl, rfl⟩
instance : Fld Try.prog 90 0 0 12 := ⟨_, _, Try.underlying90, rfl, rfl, rfl⟩
instance : Fld Try.prog 90 1 1 12 := ⟨_, _, Try.underlying90, rfl, rfl, rfl⟩
instance : Fld Try.prog 90 2 2 83 := ⟨_, _, Try.underlying90, rfl, rfl, rfl⟩
instance : Fld Try.prog 90 3 3 84 := ⟨_, _, Try.underlying90, rfl, rfl, rfl⟩
instance : Fld Try.prog 90 4 4 5 := ⟨_, _, Try.underlying90, rfl, rfl, rfl⟩
instance : Fld Try.prog 90 5 5 5 := ⟨_, _, Try.underlying90, rfl, rfl, rfl⟩
instance : Fld Try.prog 90 6 6 85 := ⟨_, _, Try.underlying90, rfl, rfl, rfl⟩
instance : Fld Try.prog 90 7 7 86 := ⟨_, _, Try.underlying90, rfl, rfl, rfl⟩
instance : Fld Try.prog 90 8 8 87 := ⟨_, _, Try.underlying90, rfl, rfl, rfl⟩
instance : Fld Try.prog 90 9 9 88 := ⟨_, _, Try.underlying90, rfl, rfl, rfl⟩
instance : Fld Try.prog 90 10 10 89 := ⟨_, _, Try.underlying90, rfl, rfl, rfl⟩
instance : EqG Try.prog 90 := ⟨Try.eqGuardType90⟩
instance : Ty Try.prog 91 (TypeDesc.struct #[{ name := "Size_", type := 12, offset := 0, embedded := false, tag := "", pkgPath := "", byteOffset := 0 }, { name := "PtrBytes", type := 12, offset := 1, embedded := false, tag := "", pkgPath := "", byteOffset := 8 }, { name := "Hash", type := 83, offset := 2, embedded := false, tag := "", pkgPath := "", byteOffset := 16 }, { name := "TFlag", type := 84, offset := 3, embedded := false, tag := "", pkgPath := "", byteOffset := 20 }, { name := "Align_", type := 5, offset := 4, embedded := false, tag := "", pkgPath := "", byteOffset := 21 }, { name := "FieldAlign_", type := 5, offset := 5, embedded := false, tag := "", pkgPath := "", byteOffset := 22 }, { name := "Kind_", type := 85, offset := 6, embedded := false, tag := "", pkgPath := "", byteOffset := 23 }, { name := "Equal", type := 86, offset := 7, embedded := false, tag := "", pkgPath := "", byteOffset := 24 }, { name := "GCData", type := 87, offset := 8, embedded := false, tag := "", pkgPath := "", byteOffset := 32 }, { name := "Str", type := 88, offset := 9, embedded := false, tag := "", pkgPath := "", byteOffset := 40 }, { name := "PtrToThis", type := 89, offset := 10, embedded := false, tag := "", pkgPath := "", byteOffset := 44 }]) 11 48 (Value.agg #[Value.int IntKind.u64 0, Value.int IntKind.u64 0, Value.int IntKind.u32 0, Value.int IntKind.u8 0, Value.int IntKind.u8 0, Value.int IntKind.u8 0, Value.int IntKind.u8 0, Value.nilFunc, Value.pointer none, Value.int IntKind.i32 0, Value.int IntKind.i32 0]) := ⟨Try.underlying91, Try.t91, info_of Try.typeInfo91, rfl, rfl, rfl⟩
instance : Fld Try.prog 91 0 0 12 := ⟨_, _, Try.underlying91, rfl, rfl, rfl⟩
instance : Fld Try.prog 91 1 1 12 := ⟨_, _, Try.underlying91, rfl, rfl, rfl⟩
instance : Fld Try.prog 91 2 2 83 := ⟨_, _, Try.underlying91, rfl, rfl, rfl⟩
instance : Fld Try.prog 91 3 3 84 := ⟨_, _, Try.underlying91, rfl, rfl, rfl⟩
instance : Fld Try.prog 91 4 4 5 := ⟨_, _, Try.underlying91, rfl, rfl, rfl⟩
instance : Fld Try.prog 91 5 5 5 := ⟨_, _, Try.underlying91, rfl, rfl, rfl⟩
instance : Fld Try.prog 91 6 6 85 := ⟨_, _, Try.underlying91, rfl, rfl, rfl⟩
instance : Fld Try.prog 91 7 7 86 := ⟨_, _, Try.underlying91, rfl, rfl, rfl⟩
instance : Fld Try.prog 91 8 8 87 := ⟨_, _, Try.underlying91, rfl, rfl, rfl⟩
instance : Fld Try.prog 91 9 9 88 := ⟨_, _, Try.underlying91, rfl, rfl, rfl⟩
instance : Fld Try.prog 91 10 10 89 := ⟨_, _, Try.underlying91, rfl, rfl, rfl⟩
instance : EqG Try.prog 91 := ⟨Try.eqGuardType91⟩
instance : Ty Try.prog 92 (TypeDesc.unsafePointer) 1 8 (Value.pointer none) := ⟨Try.underlying92, Try.t92, info_of Try.typeInfo92, rfl, rfl, rfl⟩
instance : Plc Try.prog 7 [(0, 1), (1, 1), (2, 1), (3, 1)] := ⟨_, Try.underlying7, (.mk 2 0 1 rfl rfl (.mk 3 1 1 rfl rfl (.mk 4 2 1 rfl rfl (.mk 6 3 1 rfl rfl .nil))))⟩
instance : Plc Try.prog 8 [(0, 1), (1, 1), (2, 1), (3, 1)] := ⟨_, Try.underlying8, (.mk 2 0 1 rfl rfl (.mk 3 1 1 rfl rfl (.mk 4 2 1 rfl rfl (.mk 6 3 1 rfl rfl .nil))))⟩
instance : Plc Try.prog 13 [(0, 1), (1, 1)] := ⟨_, Try.underlying13, (.mk 9 0 1 rfl rfl (.mk 12 1 1 rfl rfl .nil))⟩
instance : Plc Try.prog 14 [(0, 1), (1, 1)] := ⟨_, Try.underlying14, (.mk 9 0 1 rfl rfl (.mk 12 1 1 rfl rfl .nil))⟩
instance : Plc Try.prog 18 [(0, 1)] := ⟨_, Try.underlying18, (.mk 17 0 1 rfl rfl .nil)⟩
instance : Plc Try.prog 19 [(0, 1)] := ⟨_, Try.underlying19, (.mk 17 0 1 rfl rfl .nil)⟩
instance : Plc Try.prog 28 [(0, 1), (1, 1), (2, 1)] := ⟨_, Try.underlying28, (.mk 27 0 1 rfl rfl (.mk 3 1 1 rfl rfl (.mk 3 2 1 rfl rfl .nil)))⟩
instance : Plc Try.prog 29 [(0, 1), (1, 1), (2, 1)] := ⟨_, Try.underlying29, (.mk 27 0 1 rfl rfl (.mk 3 1 1 rfl rfl (.mk 3 2 1 rfl rfl .nil)))⟩
instance : Plc Try.prog 32 [(0, 1), (1, 1), (2, 1), (3, 1), (4, 1), (5, 1), (6, 1), (7, 1)] := ⟨_, Try.underlying32, (.mk 5 0 1 rfl rfl (.mk 5 1 1 rfl rfl (.mk 5 2 1 rfl rfl (.mk 3 3 1 rfl rfl (.mk 3 4 1 rfl rfl (.mk 30 5 1 rfl rfl (.mk 5 6 1 rfl rfl (.mk 31 7 1 rfl rfl .nil))))))))⟩
instance : Plc Try.prog 33 [(0, 1), (1, 1), (2, 1), (3, 1), (4, 1), (5, 1), (6, 1), (7, 1)] := ⟨_, Try.underlying33, (.mk 5 0 1 rfl rfl (.mk 5 1 1 rfl rfl (.mk 5 2 1 rfl rfl (.mk 3 3 1 rfl rfl (.mk 3 4 1 rfl rfl (.mk 30 5 1 rfl rfl (.mk 5 6 1 rfl rfl (.mk 31 7 1 rfl rfl .nil))))))))⟩
instance : Plc Try.prog 34 [(0, 1), (1, 1), (2, 1)] := ⟨_, Try.underlying34, (.mk 5 0 1 rfl rfl (.mk 5 1 1 rfl rfl (.mk 31 2 1 rfl rfl .nil)))⟩
instance : Plc Try.prog 35 [(0, 1), (1, 1), (2, 1)] := ⟨_, Try.underlying35, (.mk 5 0 1 rfl rfl (.mk 5 1 1 rfl rfl (.mk 31 2 1 rfl rfl .nil)))⟩
instance : Plc Try.prog 39 [(0, 1), (1, 1), (2, 1)] := ⟨_, Try.underlying39, (.mk 5 0 1 rfl rfl (.mk 5 1 1 rfl rfl (.mk 31 2 1 rfl rfl .nil)))⟩
instance : Plc Try.prog 45 [(0, 1), (1, 1), (2, 1)] := ⟨_, Try.underlying45, (.mk 3 0 1 rfl rfl (.mk 30 1 1 rfl rfl (.mk 5 2 1 rfl rfl .nil)))⟩
instance : Plc Try.prog 46 [(0, 1), (1, 1), (2, 1)] := ⟨_, Try.underlying46, (.mk 3 0 1 rfl rfl (.mk 30 1 1 rfl rfl (.mk 5 2 1 rfl rfl .nil)))⟩
instance : Plc Try.prog 56 [(0, 1), (1, 1), (2, 1), (3, 1)] := ⟨_, Try.underlying56, (.mk 3 0 1 rfl rfl (.mk 3 1 1 rfl rfl (.mk 3 2 1 rfl rfl (.mk 55 3 1 rfl rfl .nil))))⟩
instance : Plc Try.prog 57 [(0, 1), (1, 1), (2, 1), (3, 1)] := ⟨_, Try.underlying57, (.mk 3 0 1 rfl rfl (.mk 3 1 1 rfl rfl (.mk 3 2 1 rfl rfl (.mk 55 3 1 rfl rfl .nil))))⟩
instance : Plc Try.prog 63 [(0, 1), (1, 1)] := ⟨_, Try.underlying63, (.mk 5 0 1 rfl rfl (.mk 5 1 1 rfl rfl .nil))⟩
instance : Plc Try.prog 64 [(0, 1), (1, 1)] := ⟨_, Try.underlying64, (.mk 5 0 1 rfl rfl (.mk 5 1 1 rfl rfl .nil))⟩
instance : Plc Try.prog 78 [(0, 1), (1, 1), (2, 1), (3, 1)] := ⟨_, Try.underlying78, (.mk 17 0 1 rfl rfl (.mk 17 1 1 rfl rfl (.mk 17 2 1 rfl rfl (.mk 9 3 1 rfl rfl .nil))))⟩
instance : Plc Try.prog 79 [(0, 1), (1, 1), (2, 1), (3, 1)] := ⟨_, Try.underlying79, (.mk 17 0 1 rfl rfl (.mk 17 1 1 rfl rfl (.mk 17 2 1 rfl rfl (.mk 9 3 1 rfl rfl .nil))))⟩
instance : Plc Try.prog 81 [(0, 0)] := ⟨_, Try.underlying81, (.mk 80 0 0 rfl rfl .nil)⟩
instance : Plc Try.prog 82 [(0, 0)] := ⟨_, Try.underlying82, (.mk 80 0 0 rfl rfl .nil)⟩
instance : Plc Try.prog 90 [(0, 1), (1, 1), (2, 1), (3, 1), (4, 1), (5, 1), (6, 1), (7, 1), (8, 1), (9, 1), (10, 1)] := ⟨_, Try.underlying90, (.mk 12 0 1 rfl rfl (.mk 12 1 1 rfl rfl (.mk 83 2 1 rfl rfl (.mk 84 3 1 rfl rfl (.mk 5 4 1 rfl rfl (.mk 5 5 1 rfl rfl (.mk 85 6 1 rfl rfl (.mk 86 7 1 rfl rfl (.mk 87 8 1 rfl rfl (.mk 88 9 1 rfl rfl (.mk 89 10 1 rfl rfl .nil)))))))))))⟩
instance : Plc Try.prog 91 [(0, 1), (1, 1), (2, 1), (3, 1), (4, 1), (5, 1), (6, 1), (7, 1), (8, 1), (9, 1), (10, 1)] := ⟨_, Try.underlying91, (.mk 12 0 1 rfl rfl (.mk 12 1 1 rfl rfl (.mk 83 2 1 rfl rfl (.mk 84 3 1 rfl rfl (.mk 5 4 1 rfl rfl (.mk 5 5 1 rfl rfl (.mk 85 6 1 rfl rfl (.mk 86 7 1 rfl rfl (.mk 87 8 1 rfl rfl (.mk 88 9 1 rfl rfl (.mk 89 10 1 rfl rfl .nil)))))))))))⟩
instance : EqT Try.prog 2 false 1 [.i .i64] := eqt_int Try.underlying2
instance : EqT Try.prog 3 false 1 [.i .i64] := eqt_int Try.underlying3
instance : EqT Try.prog 4 false 1 [.b] := eqt_bool Try.underlying4
instance : EqT Try.prog 5 false 1 [.i .u8] := eqt_int Try.underlying5
instance : EqT Try.prog 6 false 1 [.i .u8] := eqt_int Try.underlying6
instance : EqT Try.prog 7 true 2 [.i .i64, .i .i64, .b, .i .u8] := by
  have h := eqt_struct (dd := 1) Try.underlying7 Try.stoodInHeld7 (FOk.mk2 (P := Try.prog) (dd := 1) 2 (f := { name := "x", type := 2, offset := 0, embedded := false, tag := "", pkgPath := "runtime", byteOffset := 0 }) (off := 0) rfl rfl rfl rfl (by decide) (by decide) (FOk.mk2 (P := Try.prog) (dd := 1) 3 (f := { name := "y", type := 3, offset := 1, embedded := false, tag := "", pkgPath := "runtime", byteOffset := 8 }) (off := 1) rfl rfl rfl rfl (by decide) (by decide) (FOk.mk2 (P := Try.prog) (dd := 1) 4 (f := { name := "signed", type := 4, offset := 2, embedded := false, tag := "", pkgPath := "runtime", byteOffset := 16 }) (off := 2) rfl rfl rfl rfl (by decide) (by decide) (FOk.mk2 (P := Try.prog) (dd := 1) 6 (f := { name := "code", type := 6, offset := 3, embedded := false, tag := "", pkgPath := "runtime", byteOffset := 17 }) (off := 3) rfl rfl rfl rfl (by decide) (by decide) (FOk.nil (P := Try.prog) (dd := 1) _)))))
  exact h
instance : EqT Try.prog 8 true 2 [.i .i64, .i .i64, .b, .i .u8] := by
  have h := eqt_struct (dd := 1) Try.underlying8 Try.stoodInHeld8 (FOk.mk2 (P := Try.prog) (dd := 1) 2 (f := { name := "x", type := 2, offset := 0, embedded := false, tag := "", pkgPath := "runtime", byteOffset := 0 }) (off := 0) rfl rfl rfl rfl (by decide) (by decide) (FOk.mk2 (P := Try.prog) (dd := 1) 3 (f := { name := "y", type := 3, offset := 1, embedded := false, tag := "", pkgPath := "runtime", byteOffset := 8 }) (off := 1) rfl rfl rfl rfl (by decide) (by decide) (FOk.mk2 (P := Try.prog) (dd := 1) 4 (f := { name := "signed", type := 4, offset := 2, embedded := false, tag := "", pkgPath := "runtime", byteOffset := 16 }) (off := 2) rfl rfl rfl rfl (by decide) (by decide) (FOk.mk2 (P := Try.prog) (dd := 1) 6 (f := { name := "code", type := 6, offset := 3, embedded := false, tag := "", pkgPath := "runtime", byteOffset := 17 }) (off := 3) rfl rfl rfl rfl (by decide) (by decide) (FOk.nil (P := Try.prog) (dd := 1) _)))))
  exact h
instance : EqT Try.prog 12 false 1 [.i .u64] := eqt_int Try.underlying12
instance : EqT Try.prog 21 false 1 [.i .i32] := eqt_int Try.underlying21
instance : EqT Try.prog 30 false 1 [.i .u16] := eqt_int Try.underlying30
instance : EqT Try.prog 36 false 1 [.i .i64] := eqt_int Try.underlying36
instance : EqT Try.prog 45 true 2 [.i .i64, .i .u16, .i .u8] := by
  have h := eqt_struct (dd := 1) Try.underlying45 Try.stoodInHeld45 (FOk.mk2 (P := Try.prog) (dd := 1) 3 (f := { name := "Kind", type := 3, offset := 0, embedded := false, tag := "", pkgPath := "", byteOffset := 0 }) (off := 0) rfl rfl rfl rfl (by decide) (by decide) (FOk.mk2 (P := Try.prog) (dd := 1) 30 (f := { name := "At", type := 30, offset := 1, embedded := false, tag := "", pkgPath := "", byteOffset := 8 }) (off := 1) rfl rfl rfl rfl (by decide) (by decide) (FOk.mk2 (P := Try.prog) (dd := 1) 5 (f := { name := "By", type := 5, offset := 2, embedded := false, tag := "", pkgPath := "", byteOffset := 10 }) (off := 2) rfl rfl rfl rfl (by decide) (by decide) (FOk.nil (P := Try.prog) (dd := 1) _))))
  exact h
instance : EqT Try.prog 46 true 2 [.i .i64, .i .u16, .i .u8] := by
  have h := eqt_struct (dd := 1) Try.underlying46 Try.stoodInHeld46 (FOk.mk2 (P := Try.prog) (dd := 1) 3 (f := { name := "Kind", type := 3, offset := 0, embedded := false, tag := "", pkgPath := "", byteOffset := 0 }) (off := 0) rfl rfl rfl rfl (by decide) (by decide) (FOk.mk2 (P := Try.prog) (dd := 1) 30 (f := { name := "At", type := 30, offset := 1, embedded := false, tag := "", pkgPath := "", byteOffset := 8 }) (off := 1) rfl rfl rfl rfl (by decide) (by decide) (FOk.mk2 (P := Try.prog) (dd := 1) 5 (f := { name := "By", type := 5, offset := 2, embedded := false, tag := "", pkgPath := "", byteOffset := 10 }) (off := 2) rfl rfl rfl rfl (by decide) (by decide) (FOk.nil (P := Try.prog) (dd := 1) _))))
  exact h
instance : EqT Try.prog 61 true 2 [.i .u8, .i .u8] := by
  have h := eqt_array2 (ag := false) Try.underlying61 rfl rfl
  exact h
instance : EqT Try.prog 63 true 2 [.i .u8, .i .u8] := by
  have h := eqt_struct (dd := 1) Try.underlying63 Try.stoodInHeld63 (FOk.mk2 (P := Try.prog) (dd := 1) 5 (f := { name := "from", type := 5, offset := 0, embedded := false, tag := "", pkgPath := "trug/links", byteOffset := 0 }) (off := 0) rfl rfl rfl rfl (by decide) (by decide) (FOk.mk2 (P := Try.prog) (dd := 1) 5 (f := { name := "to", type := 5, offset := 1, embedded := false, tag := "", pkgPath := "trug/links", byteOffset := 1 }) (off := 1) rfl rfl rfl rfl (by decide) (by decide) (FOk.nil (P := Try.prog) (dd := 1) _)))
  exact h
instance : EqT Try.prog 64 true 2 [.i .u8, .i .u8] := by
  have h := eqt_struct (dd := 1) Try.underlying64 Try.stoodInHeld64 (FOk.mk2 (P := Try.prog) (dd := 1) 5 (f := { name := "from", type := 5, offset := 0, embedded := false, tag := "", pkgPath := "trug/links", byteOffset := 0 }) (off := 0) rfl rfl rfl rfl (by decide) (by decide) (FOk.mk2 (P := Try.prog) (dd := 1) 5 (f := { name := "to", type := 5, offset := 1, embedded := false, tag := "", pkgPath := "trug/links", byteOffset := 1 }) (off := 1) rfl rfl rfl rfl (by decide) (by decide) (FOk.nil (P := Try.prog) (dd := 1) _)))
  exact h
instance : EqT Try.prog 83 false 1 [.i .u32] := eqt_int Try.underlying83
instance : EqT Try.prog 84 false 1 [.i .u8] := eqt_int Try.underlying84
instance : EqT Try.prog 85 false 1 [.i .u8] := eqt_int Try.underlying85
instance : EqT Try.prog 88 false 1 [.i .i32] := eqt_int Try.underlying88
instance : EqT Try.prog 89 false 1 [.i .i32] := eqt_int Try.underlying89
instance : Fun Try.prog 2 := ⟨Try.call2⟩
instance : Fun Try.prog 3 := ⟨Try.call3⟩
instance : Fun Try.prog 4 := ⟨Try.call4⟩
instance : Fun Try.prog 5 := ⟨Try.call5⟩
instance : Fun Try.prog 6 := ⟨Try.call6⟩
instance : Fun Try.prog 7 := ⟨Try.call7⟩
instance : Fun Try.prog 8 := ⟨Try.call8⟩
instance : Fun Try.prog 9 := ⟨Try.call9⟩
instance : Fun Try.prog 10 := ⟨Try.call10⟩
instance : Fun Try.prog 11 := ⟨Try.call11⟩
instance : Fun Try.prog 12 := ⟨Try.call12⟩
instance : Fun Try.prog 13 := ⟨Try.call13⟩
instance : Fun Try.prog 14 := ⟨Try.call14⟩
instance : Fun Try.prog 15 := ⟨Try.call15⟩
instance : Fun Try.prog 16 := ⟨Try.call16⟩
instance : Fun Try.prog 17 := ⟨Try.call17⟩
instance : Fun Try.prog 18 := ⟨Try.call18⟩
instance : Fun Try.prog 19 := ⟨Try.call19⟩
instance : Fun Try.prog 20 := ⟨Try.call20⟩
instance : Fun Try.prog 21 := ⟨Try.call21⟩
instance : Fun Try.prog 22 := ⟨Try.call22⟩
instance : Fun Try.prog 23 := ⟨Try.call23⟩
instance : Fun Try.prog 24 := ⟨Try.call24⟩
instance : Fun Try.prog 25 := ⟨Try.call25⟩
instance : Fun Try.prog 26 := ⟨Try.call26⟩
instance : Fun Try.prog 27 := ⟨Try.call27⟩
instance : Fun Try.prog 28 := ⟨Try.call28⟩
instance : Fun Try.prog 30 := ⟨Try.call30⟩
instance : Fun Try.prog 31 := ⟨Try.call31⟩
instance : Fun Try.prog 32 := ⟨Try.call32⟩
instance : Mix Try.prog := ⟨by as_aux_lemma => kernel_rfl⟩
end Go.Tg

