/-
  The table of types of this seat, as the framework reads it; by a program (tys.py).
-/
import Derived.Test.YthiefpmacffcoaaKc
import Derived.Test.YthiefpmacffcoaaProg
import Derived.KernelRfl
namespace Go.Proofs.Ythiefpmacffcoaa
open Go.Av
def tys : List TY :=
  [⟨1, false, [AV.raw (Value.tuple #[])], TK.scalar⟩,
   ⟨1, false, [AV.raw Value.nilFunc], TK.scalar⟩,
   ⟨1, false, [AV.int IntKind.i64 0], TK.int IntKind.i64⟩,
   ⟨1, false, [AV.int IntKind.i64 0], TK.int IntKind.i64⟩,
   ⟨1, false, [AV.lit false], TK.bool⟩,
   ⟨1, false, [AV.int IntKind.u8 0], TK.int IntKind.u8⟩,
   ⟨1, false, [AV.int IntKind.u8 0], TK.int IntKind.u8⟩,
   ⟨4, true, [AV.int IntKind.i64 0, AV.int IntKind.i64 0, AV.lit false, AV.int IntKind.u8 0], TK.struct [(0, 1, false), (1, 1, false), (2, 1, false), (3, 1, false)]⟩,
   ⟨4, true, [AV.int IntKind.i64 0, AV.int IntKind.i64 0, AV.lit false, AV.int IntKind.u8 0], TK.struct [(0, 1, false), (1, 1, false), (2, 1, false), (3, 1, false)]⟩,
   ⟨1, false, [AV.str []], TK.string⟩,
   ⟨1, false, [AV.str []], TK.string⟩,
   ⟨1, false, [AV.str []], TK.string⟩,
   ⟨1, false, [AV.int IntKind.u64 0], TK.int IntKind.u64⟩,
   ⟨2, true, [AV.str [], AV.int IntKind.u64 0], TK.struct [(0, 1, false), (1, 1, false)]⟩,
   ⟨2, true, [AV.str [], AV.int IntKind.u64 0], TK.struct [(0, 1, false), (1, 1, false)]⟩,
   ⟨1, false, [AV.raw (Value.pointer none)], TK.scalar⟩,
   ⟨1, false, [AV.raw (Value.pointer none)], TK.scalar⟩,
   ⟨1, false, [AV.raw (Value.pointer none)], TK.scalar⟩,
   ⟨1, true, [AV.raw (Value.pointer none)], TK.struct [(0, 1, false)]⟩,
   ⟨1, true, [AV.raw (Value.pointer none)], TK.struct [(0, 1, false)]⟩,
   ⟨1, false, [AV.raw Value.nilIface], TK.iface⟩,
   ⟨1, false, [AV.int IntKind.i32 0], TK.int IntKind.i32⟩,
   ⟨1, false, [AV.raw (Value.slice none 0 0)], TK.slice 3 1 8 false⟩,
   ⟨1, false, [AV.raw (Value.slice none 0 0)], TK.slice 9 1 16 false⟩,
   ⟨1, false, [AV.raw Value.nilFunc], TK.scalar⟩,
   ⟨1, false, [AV.raw Value.nilFunc], TK.scalar⟩,
   ⟨1, false, [AV.raw (Value.slice none 0 0)], TK.slice 22 1 24 false⟩,
   ⟨1, false, [AV.raw (Value.tuple { toList := [Value.int IntKind.i64 0, Value.slice none 0 0] })], TK.scalar⟩,
   ⟨1, false, [AV.raw Value.nilFunc], TK.scalar⟩,
   ⟨1, false, [AV.raw Value.nilFunc], TK.scalar⟩,
   ⟨1, false, [AV.raw Value.nilFunc], TK.scalar⟩,
   ⟨1, false, [AV.raw Value.nilFunc], TK.scalar⟩,
   ⟨1, false, [AV.raw Value.nilFunc], TK.scalar⟩,
   ⟨1, false, [AV.raw Value.nilFunc], TK.scalar⟩,
   ⟨1, false, [AV.raw Value.nilFunc], TK.scalar⟩,
   ⟨1, false, [AV.raw Value.nilFunc], TK.scalar⟩,
   ⟨1, false, [AV.raw Value.nilFunc], TK.scalar⟩,
   ⟨1, false, [AV.raw Value.nilFunc], TK.scalar⟩,
   ⟨1, false, [AV.raw Value.nilFunc], TK.scalar⟩,
   ⟨1, false, [AV.raw Value.nilFunc], TK.scalar⟩,
   ⟨1, false, [AV.raw Value.nilFunc], TK.scalar⟩,
   ⟨1, false, [AV.raw Value.nilFunc], TK.scalar⟩,
   ⟨1, false, [AV.raw Value.nilFunc], TK.scalar⟩,
   ⟨1, false, [AV.raw Value.nilFunc], TK.scalar⟩,
   ⟨1, false, [AV.raw Value.nilFunc], TK.scalar⟩,
   ⟨1, false, [AV.raw Value.nilFunc], TK.scalar⟩,
   ⟨1, false, [AV.raw Value.nilFunc], TK.scalar⟩,
   ⟨1, false, [AV.raw Value.nilFunc], TK.scalar⟩,
   ⟨1, false, [AV.raw Value.nilFunc], TK.scalar⟩,
   ⟨1, false, [AV.raw Value.nilFunc], TK.scalar⟩,
   ⟨1, false, [AV.raw Value.nilFunc], TK.scalar⟩,
   ⟨1, false, [AV.raw Value.nilFunc], TK.scalar⟩,
   ⟨1, false, [AV.raw Value.nilFunc], TK.scalar⟩,
   ⟨1, false, [AV.raw Value.nilFunc], TK.scalar⟩,
   ⟨1, false, [AV.raw Value.nilFunc], TK.scalar⟩,
   ⟨1, false, [AV.raw Value.nilFunc], TK.scalar⟩,
   ⟨1, false, [AV.raw Value.nilFunc], TK.scalar⟩,
   ⟨4, true, [AV.raw (Value.pointer none), AV.raw (Value.pointer none), AV.raw (Value.pointer none), AV.str []], TK.struct [(0, 1, false), (1, 1, false), (2, 1, false), (3, 1, false)]⟩,
   ⟨4, true, [AV.raw (Value.pointer none), AV.raw (Value.pointer none), AV.raw (Value.pointer none), AV.str []], TK.struct [(0, 1, false), (1, 1, false), (2, 1, false), (3, 1, false)]⟩,
   ⟨0, true, [], TK.array 0 1 false⟩,
   ⟨0, true, [], TK.struct [(0, 0, true)]⟩,
   ⟨0, true, [], TK.struct [(0, 0, true)]⟩,
   ⟨1, false, [AV.int IntKind.u32 0], TK.int IntKind.u32⟩,
   ⟨1, false, [AV.int IntKind.u8 0], TK.int IntKind.u8⟩,
   ⟨1, false, [AV.int IntKind.u8 0], TK.int IntKind.u8⟩,
   ⟨1, false, [AV.raw Value.nilFunc], TK.scalar⟩,
   ⟨1, false, [AV.raw (Value.pointer none)], TK.scalar⟩,
   ⟨1, false, [AV.int IntKind.i32 0], TK.int IntKind.i32⟩,
   ⟨1, false, [AV.int IntKind.i32 0], TK.int IntKind.i32⟩,
   ⟨11, true, [AV.int IntKind.u64 0, AV.int IntKind.u64 0, AV.int IntKind.u32 0, AV.int IntKind.u8 0, AV.int IntKind.u8 0, AV.int IntKind.u8 0, AV.int IntKind.u8 0, AV.raw Value.nilFunc, AV.raw (Value.pointer none), AV.int IntKind.i32 0, AV.int IntKind.i32 0], TK.struct [(0, 1, false), (1, 1, false), (2, 1, false), (3, 1, false), (4, 1, false), (5, 1, false), (6, 1, false), (7, 1, false), (8, 1, false), (9, 1, false), (10, 1, false)]⟩,
   ⟨11, true, [AV.int IntKind.u64 0, AV.int IntKind.u64 0, AV.int IntKind.u32 0, AV.int IntKind.u8 0, AV.int IntKind.u8 0, AV.int IntKind.u8 0, AV.int IntKind.u8 0, AV.raw Value.nilFunc, AV.raw (Value.pointer none), AV.int IntKind.i32 0, AV.int IntKind.i32 0], TK.struct [(0, 1, false), (1, 1, false), (2, 1, false), (3, 1, false), (4, 1, false), (5, 1, false), (6, 1, false), (7, 1, false), (8, 1, false), (9, 1, false), (10, 1, false)]⟩,
   ⟨1, false, [AV.raw (Value.pointer none)], TK.scalar⟩]
theorem tys_eq : (List.range 72).map (viewTy Try.prog) = tys.map some := by kernel_rfl
theorem tys_ok : TOk Try.prog tys := by
  intro t y h
  have h1 : ((List.range 72).map (viewTy Try.prog))[t]? = (tys.map some)[t]? := by rw [tys_eq]
  rw [List.getElem?_map, List.getElem?_map, h] at h1
  have hl : t < tys.length := (List.getElem?_eq_some_iff.1 h).1
  rw [List.getElem?_range (show t < 72 from hl)] at h1
  simpa using h1
end Go.Proofs.Ythiefpmacffcoaa
