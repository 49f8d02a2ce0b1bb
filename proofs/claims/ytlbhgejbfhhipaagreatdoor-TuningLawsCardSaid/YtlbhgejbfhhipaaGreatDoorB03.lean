/- Own lemmas, part 3: an abstract machine for walks, plain facts on numbers and lattices, walks of the functions of the program: Ty Ts Shelf La Lb Lc Wa Wb Wc Wd We Wf Wg Wh Li Lj Lk Za Zb Zc Zd Ze. -/
import Derived.Test.YtlbhgejbfhhipaaGreatDoorB02
import Derived.Test.YtlbhgejbfhhipaaGreatDoorProg
import Derived.KernelRfl
import Derived.Shelf.Strings.Builder1
import Derived.Shelf.Strings.Builder2
import Derived.Shelf.Strings.OnBuilder
import Derived.Shelf.Small.Bits
import Derived.Shelf.Strconv.Atoi
import Derived.Shelf.Strconv.Itoa0
import Derived.Shelf.Strconv.Itoa1
import Derived.Shelf.LaysM
import Derived.Shelf.Strconv.Itoa2
import Derived.Shelf.Strconv.Itoa3
import Derived.Shelf.Strconv.AtoiErrFast
import Derived.Shelf.Strconv.ParseIntEmpty
import Derived.Shelf.Strconv.AtoiFail
import Derived.Shelf.Strconv.Clone
import Derived.Shelf.Strconv.SyntaxError
import Derived.Shelf.LaysC
import Derived.Shelf.Strconv.ToError
import Derived.Shelf.Strconv.AtoiErr
import Derived.Shelf.Strconv.ErrVar
import Derived.Shelf.Strconv.Lower
import Derived.Shelf.Strconv.ParseUint10
import Derived.Shelf.Strconv.ParseUint10Empty
import Derived.Shelf.Strconv.ParseUint10Any
import Derived.Shelf.Strconv.ParseInt10
import Derived.Shelf.Strconv.AtoiLong
import Derived.Shelf.Strconv.AtoiInnerAll
import Derived.Shelf.Strconv.RangeError
import Derived.Shelf.Strconv.ToErrorRange
import Derived.Shelf.Strconv.AtoiAll
import Derived.Shelf.Strconv.ErrVarAll
import Derived.Shelf.Strconv.ParseUintEmpty
import Derived.Shelf.Strconv.ParseUint10b64
import Derived.Shelf.Strconv.ParseUint10b32
import Derived.Shelf.Strconv.ParseUint10b16
import Derived.Shelf.Strconv.ParseUint10b8
import Derived.Shelf.Strconv.ParseUint10At
import Derived.Shelf.Strconv.ParseInt10At64
import Derived.Shelf.Strconv.ParseInt10At32
import Derived.Shelf.Strconv.ParseInt10At16
import Derived.Shelf.Strconv.ParseInt10At8
import Derived.Shelf.Strconv.ParseInt10All
import Derived.Shelf.Strconv.ParseIntPublic10
import Derived.Shelf.Strconv.ErrVarParseInt
import Derived.Ground.MpProg
import Derived.Shelf.Pu.ParseUintPublic10
import Derived.Shelf.Pu.ErrVarParseUint
import Derived.Shelf.Bits.Mul64
import Derived.Lib.Walk
import Derived.WalkKit
import Derived.BigCall
import Derived.BigGuard
import Derived.Lib.ParseIntBTie
/- The types of the seat that its functions use, and that the program has them so. Printed by gen_ty.py. -/
namespace Go.Proofs.YtlbhgejbfhhipaaGreatDoor
open Go Go.Am
def tyL : List (Nat × TD) := [
  (2, ⟨.int .i64, 1, 8, [.int .i64 0], false⟩),
  (3, ⟨.int .i64, 1, 8, [.int .i64 0], false⟩),
  (4, ⟨.bool, 1, 1, [.bool false], false⟩),
  (5, ⟨.int .u8, 1, 1, [.int .u8 0], false⟩),
  (9, ⟨.string, 1, 16, [.string ⟨#[]⟩], false⟩),
  (21, ⟨.int .i32, 1, 4, [.int .i32 0], false⟩),
  (22, ⟨.slice 92, 1, 24, [.slice none 0 0], false⟩),
  (24, ⟨.struct #[{ name := "Primes", type := 5, offset := 0, embedded := false, tag := "", pkgPath := "", byteOffset := 0 }, { name := "Rows", type := 22, offset := 1, embedded := false, tag := "", pkgPath := "", byteOffset := 8 }, { name := "Vals", type := 4, offset := 2, embedded := false, tag := "", pkgPath := "", byteOffset := 32 }], 3, 40, [.int .u8 0, .slice none 0 0, .bool false], false⟩),
  (25, ⟨.int .i8, 1, 1, [.int .i8 0], false⟩),
  (27, ⟨.struct #[{ name := "Num", type := 25, offset := 0, embedded := false, tag := "", pkgPath := "", byteOffset := 0 }, { name := "Den", type := 5, offset := 1, embedded := false, tag := "", pkgPath := "", byteOffset := 1 }], 2, 2, [.int .i8 0, .int .u8 0], false⟩),
  (29, ⟨.array 4 27, 8, 8, [.int .i8 0, .int .u8 0, .int .i8 0, .int .u8 0, .int .i8 0, .int .u8 0, .int .i8 0, .int .u8 0], false⟩),
  (30, ⟨.array 4 29, 32, 32, [.int .i8 0, .int .u8 0, .int .i8 0, .int .u8 0, .int .i8 0, .int .u8 0, .int .i8 0, .int .u8 0, .int .i8 0, .int .u8 0, .int .i8 0, .int .u8 0, .int .i8 0, .int .u8 0, .int .i8 0, .int .u8 0, .int .i8 0, .int .u8 0, .int .i8 0, .int .u8 0, .int .i8 0, .int .u8 0, .int .i8 0, .int .u8 0, .int .i8 0, .int .u8 0, .int .i8 0, .int .u8 0, .int .i8 0, .int .u8 0, .int .i8 0, .int .u8 0], false⟩),
  (32, ⟨.struct #[{ name := "Temperament", type := 24, offset := 0, embedded := false, tag := "", pkgPath := "", byteOffset := 0 }, { name := "Generators", type := 30, offset := 3, embedded := false, tag := "", pkgPath := "", byteOffset := 40 }], 35, 72, [.int .u8 0, .slice none 0 0, .bool false, .int .i8 0, .int .u8 0, .int .i8 0, .int .u8 0, .int .i8 0, .int .u8 0, .int .i8 0, .int .u8 0, .int .i8 0, .int .u8 0, .int .i8 0, .int .u8 0, .int .i8 0, .int .u8 0, .int .i8 0, .int .u8 0, .int .i8 0, .int .u8 0, .int .i8 0, .int .u8 0, .int .i8 0, .int .u8 0, .int .i8 0, .int .u8 0, .int .i8 0, .int .u8 0, .int .i8 0, .int .u8 0, .int .i8 0, .int .u8 0, .int .i8 0, .int .u8 0], false⟩),
  (33, ⟨.slice 3, 1, 24, [.slice none 0 0], false⟩),
  (34, ⟨.slice 3, 1, 24, [.slice none 0 0], false⟩),
  (37, ⟨.slice 3, 1, 24, [.slice none 0 0], false⟩),
  (38, ⟨.slice 34, 1, 24, [.slice none 0 0], false⟩),
  (39, ⟨.slice 34, 1, 24, [.slice none 0 0], false⟩),
  (41, ⟨.struct #[{ name := "Primes", type := 37, offset := 0, embedded := false, tag := "", pkgPath := "", byteOffset := 0 }, { name := "Commas", type := 39, offset := 1, embedded := false, tag := "", pkgPath := "", byteOffset := 24 }, { name := "Mapping", type := 39, offset := 2, embedded := false, tag := "", pkgPath := "", byteOffset := 48 }], 3, 72, [.slice none 0 0, .slice none 0 0, .slice none 0 0], false⟩),
  (42, ⟨.slice 47, 1, 24, [.slice none 0 0], false⟩),
  (44, ⟨.struct #[{ name := "Temperament", type := 41, offset := 0, embedded := false, tag := "", pkgPath := "", byteOffset := 0 }, { name := "Generators", type := 42, offset := 3, embedded := false, tag := "", pkgPath := "", byteOffset := 72 }], 4, 96, [.slice none 0 0, .slice none 0 0, .slice none 0 0, .slice none 0 0], false⟩),
  (46, ⟨.slice 70, 1, 24, [.slice none 0 0], false⟩),
  (47, ⟨.slice 70, 1, 24, [.slice none 0 0], false⟩),
  (48, ⟨.int .i64, 1, 8, [.int .i64 0], false⟩),
  (55, ⟨.func #[47, 47] #[4] false, 1, 8, [.nilFunc], false⟩),
  (68, ⟨.string, 1, 16, [.string ⟨#[]⟩], false⟩),
  (70, ⟨.struct #[{ name := "Num", type := 68, offset := 0, embedded := false, tag := "", pkgPath := "", byteOffset := 0 }, { name := "Den", type := 68, offset := 1, embedded := false, tag := "", pkgPath := "", byteOffset := 16 }], 2, 32, [.string ⟨#[]⟩, .string ⟨#[]⟩], true⟩),
  (84, ⟨.struct #[{ name := "How", type := 5, offset := 0, embedded := false, tag := "", pkgPath := "", byteOffset := 0 }, { name := "Size", type := 47, offset := 1, embedded := false, tag := "", pkgPath := "", byteOffset := 8 }], 2, 32, [.int .u8 0, .slice none 0 0], false⟩),
  (92, ⟨.array 4 25, 4, 4, [.int .i8 0, .int .i8 0, .int .i8 0, .int .i8 0], false⟩),
  (105, ⟨.array 8 25, 8, 8, [.int .i8 0, .int .i8 0, .int .i8 0, .int .i8 0, .int .i8 0, .int .i8 0, .int .i8 0, .int .i8 0], false⟩),
  (114, ⟨.slice 68, 1, 24, [.slice none 0 0], false⟩),
  (118, ⟨.slice 9, 1, 24, [.slice none 0 0], false⟩),
  (126, ⟨.func #[3] #[4] false, 1, 8, [.nilFunc], false⟩),
  (130, ⟨.array 2 44, 8, 192, [.slice none 0 0, .slice none 0 0, .slice none 0 0, .slice none 0 0, .slice none 0 0, .slice none 0 0, .slice none 0 0, .slice none 0 0], false⟩),
  (140, ⟨.struct #[{ name := "primes", type := 37, offset := 0, embedded := false, tag := "", pkgPath := "schisma/size", byteOffset := 0 }, { name := "factors", type := 114, offset := 1, embedded := false, tag := "", pkgPath := "schisma/size", byteOffset := 24 }, { name := "den", type := 68, offset := 2, embedded := false, tag := "", pkgPath := "schisma/size", byteOffset := 48 }], 3, 64, [.slice none 0 0, .slice none 0 0, .string ⟨#[]⟩], false⟩),
  (148, ⟨.func #[70] #[4] false, 1, 8, [.nilFunc], false⟩),
  (155, ⟨.interface #[("Error", 165)], 1, 16, [.nilIface], false⟩),
  (158, ⟨.pointer 161, 1, 8, [.pointer none], false⟩),
  (159, ⟨.slice 5, 1, 24, [.slice none 0 0], false⟩),
  (161, ⟨.struct #[{ name := "addr", type := 158, offset := 0, embedded := false, tag := "", pkgPath := "strings", byteOffset := 0 }, { name := "buf", type := 159, offset := 1, embedded := false, tag := "", pkgPath := "strings", byteOffset := 8 }], 2, 32, [.pointer none, .slice none 0 0], false⟩),
  (182, ⟨.func #[34, 34] #[4] false, 1, 8, [.nilFunc], false⟩),
  (184, ⟨.struct #[{ name := "Columns", type := 3, offset := 0, embedded := false, tag := "", pkgPath := "", byteOffset := 0 }, { name := "Basis", type := 39, offset := 1, embedded := false, tag := "", pkgPath := "", byteOffset := 8 }], 2, 32, [.int .i64 0, .slice none 0 0], false⟩),
  (198, ⟨.slice 37, 1, 24, [.slice none 0 0], false⟩),
  (208, ⟨.pointer 5, 1, 8, [.pointer none], false⟩),
  (211, ⟨.int .u64, 1, 8, [.int .u64 0], false⟩),
  (214, ⟨.func #[68] #[4] false, 1, 8, [.nilFunc], false⟩),
  (218, ⟨.slice 273, 1, 24, [.slice none 0 0], false⟩),
  (234, ⟨.int .u64, 1, 8, [.int .u64 0], false⟩),
  (238, ⟨.slice 234, 1, 24, [.slice none 0 0], false⟩),
  (239, ⟨.slice 234, 1, 24, [.slice none 0 0], false⟩),
  (246, ⟨.int .i64, 1, 8, [.int .i64 0], false⟩),
  (249, ⟨.pointer 309, 1, 8, [.pointer none], false⟩),
  (252, ⟨.unsafePointer, 1, 8, [.pointer none], false⟩),
  (255, ⟨.array 24 5, 24, 24, [.int .u8 0, .int .u8 0, .int .u8 0, .int .u8 0, .int .u8 0, .int .u8 0, .int .u8 0, .int .u8 0, .int .u8 0, .int .u8 0, .int .u8 0, .int .u8 0, .int .u8 0, .int .u8 0, .int .u8 0, .int .u8 0, .int .u8 0, .int .u8 0, .int .u8 0, .int .u8 0, .int .u8 0, .int .u8 0, .int .u8 0, .int .u8 0], false⟩),
  (260, ⟨.int .u32, 1, 4, [.int .u32 0], false⟩),
  (273, ⟨.slice 68, 1, 24, [.slice none 0 0], false⟩),
  (286, ⟨.func #[34] #[4] false, 1, 8, [.nilFunc], false⟩),
  (288, ⟨.slice 114, 1, 24, [.slice none 0 0], false⟩),
  (309, ⟨.struct #[{ name := "Func", type := 9, offset := 0, embedded := false, tag := "", pkgPath := "", byteOffset := 0 }, { name := "Num", type := 9, offset := 1, embedded := false, tag := "", pkgPath := "", byteOffset := 16 }, { name := "Err", type := 155, offset := 2, embedded := false, tag := "", pkgPath := "", byteOffset := 32 }], 3, 48, [.string ⟨#[]⟩, .string ⟨#[]⟩, .nilIface], false⟩),
  (313, ⟨.array 20 234, 20, 160, [.int .u64 0, .int .u64 0, .int .u64 0, .int .u64 0, .int .u64 0, .int .u64 0, .int .u64 0, .int .u64 0, .int .u64 0, .int .u64 0, .int .u64 0, .int .u64 0, .int .u64 0, .int .u64 0, .int .u64 0, .int .u64 0, .int .u64 0, .int .u64 0, .int .u64 0, .int .u64 0], false⟩),
  (314, ⟨.array 65 5, 65, 65, [.int .u8 0, .int .u8 0, .int .u8 0, .int .u8 0, .int .u8 0, .int .u8 0, .int .u8 0, .int .u8 0, .int .u8 0, .int .u8 0, .int .u8 0, .int .u8 0, .int .u8 0, .int .u8 0, .int .u8 0, .int .u8 0, .int .u8 0, .int .u8 0, .int .u8 0, .int .u8 0, .int .u8 0, .int .u8 0, .int .u8 0, .int .u8 0, .int .u8 0, .int .u8 0, .int .u8 0, .int .u8 0, .int .u8 0, .int .u8 0, .int .u8 0, .int .u8 0, .int .u8 0, .int .u8 0, .int .u8 0, .int .u8 0, .int .u8 0, .int .u8 0, .int .u8 0, .int .u8 0, .int .u8 0, .int .u8 0, .int .u8 0, .int .u8 0, .int .u8 0, .int .u8 0, .int .u8 0, .int .u8 0, .int .u8 0, .int .u8 0, .int .u8 0, .int .u8 0, .int .u8 0, .int .u8 0, .int .u8 0, .int .u8 0, .int .u8 0, .int .u8 0, .int .u8 0, .int .u8 0, .int .u8 0, .int .u8 0, .int .u8 0, .int .u8 0, .int .u8 0], false⟩),
  (326, ⟨.pointer 328, 1, 8, [.pointer none], false⟩),
  (328, ⟨.struct #[{ name := "s", type := 9, offset := 0, embedded := false, tag := "", pkgPath := "errors", byteOffset := 0 }], 1, 16, [.string ⟨#[]⟩], false⟩),
  (334, ⟨.array 32 5, 32, 32, [.int .u8 0, .int .u8 0, .int .u8 0, .int .u8 0, .int .u8 0, .int .u8 0, .int .u8 0, .int .u8 0, .int .u8 0, .int .u8 0, .int .u8 0, .int .u8 0, .int .u8 0, .int .u8 0, .int .u8 0, .int .u8 0, .int .u8 0, .int .u8 0, .int .u8 0, .int .u8 0, .int .u8 0, .int .u8 0, .int .u8 0, .int .u8 0, .int .u8 0, .int .u8 0, .int .u8 0, .int .u8 0, .int .u8 0, .int .u8 0, .int .u8 0, .int .u8 0], false⟩),
  (335, ⟨.array 64 5, 64, 64, [.int .u8 0, .int .u8 0, .int .u8 0, .int .u8 0, .int .u8 0, .int .u8 0, .int .u8 0, .int .u8 0, .int .u8 0, .int .u8 0, .int .u8 0, .int .u8 0, .int .u8 0, .int .u8 0, .int .u8 0, .int .u8 0, .int .u8 0, .int .u8 0, .int .u8 0, .int .u8 0, .int .u8 0, .int .u8 0, .int .u8 0, .int .u8 0, .int .u8 0, .int .u8 0, .int .u8 0, .int .u8 0, .int .u8 0, .int .u8 0, .int .u8 0, .int .u8 0, .int .u8 0, .int .u8 0, .int .u8 0, .int .u8 0, .int .u8 0, .int .u8 0, .int .u8 0, .int .u8 0, .int .u8 0, .int .u8 0, .int .u8 0, .int .u8 0, .int .u8 0, .int .u8 0, .int .u8 0, .int .u8 0, .int .u8 0, .int .u8 0, .int .u8 0, .int .u8 0, .int .u8 0, .int .u8 0, .int .u8 0, .int .u8 0, .int .u8 0, .int .u8 0, .int .u8 0, .int .u8 0, .int .u8 0, .int .u8 0, .int .u8 0, .int .u8 0], false⟩)
]
def T : TT := Am.look tyL
set_option maxRecDepth 100000 in
theorem hT : TyOK Tryz.prog T := by
  unfold T tyL
  refine tyok_cons (z := (.int .i64 0)) ?_ Tryz.underlying2 (by kernel_rfl) rfl (fun h => by cases h) (fun _ => rfl) (fun h => by cases h)
  refine tyok_cons (z := (.int .i64 0)) ?_ Tryz.underlying3 (by kernel_rfl) rfl (fun h => by cases h) (fun _ => rfl) (fun h => by cases h)
  refine tyok_cons (z := (.bool false)) ?_ Tryz.underlying4 (by kernel_rfl) rfl (fun h => by cases h) (fun _ => rfl) (fun h => by cases h)
  refine tyok_cons (z := (.int .u8 0)) ?_ Tryz.underlying5 (by kernel_rfl) rfl (fun h => by cases h) (fun _ => rfl) (fun h => by cases h)
  refine tyok_cons (z := (.string ⟨#[]⟩)) ?_ Tryz.underlying9 (by kernel_rfl) rfl (fun h => by cases h) (fun _ => rfl) (fun h => by cases h)
  refine tyok_cons (z := (.int .i32 0)) ?_ Tryz.underlying21 (by kernel_rfl) rfl (fun h => by cases h) (fun _ => rfl) (fun h => by cases h)
  refine tyok_cons (z := (.slice none 0 0)) ?_ Tryz.underlying22 (by kernel_rfl) rfl (fun h => by cases h) (fun _ => rfl) (fun h => by cases h)
  refine tyok_cons (z := (.agg #[.int .u8 0, .slice none 0 0, .bool false])) ?_ Tryz.underlying24 (by kernel_rfl) rfl (fun _ => rfl) (fun h => by cases h) (fun h => by cases h)
  refine tyok_cons (z := (.int .i8 0)) ?_ Tryz.underlying25 (by kernel_rfl) rfl (fun h => by cases h) (fun _ => rfl) (fun h => by cases h)
  refine tyok_cons (z := (.agg #[.int .i8 0, .int .u8 0])) ?_ Tryz.underlying27 (by kernel_rfl) rfl (fun _ => rfl) (fun h => by cases h) (fun h => by cases h)
  refine tyok_cons (z := (.agg #[.int .i8 0, .int .u8 0, .int .i8 0, .int .u8 0, .int .i8 0, .int .u8 0, .int .i8 0, .int .u8 0])) ?_ Tryz.underlying29 (by kernel_rfl) rfl (fun _ => rfl) (fun h => by cases h) (fun h => by cases h)
  refine tyok_cons (z := (.agg #[.int .i8 0, .int .u8 0, .int .i8 0, .int .u8 0, .int .i8 0, .int .u8 0, .int .i8 0, .int .u8 0, .int .i8 0, .int .u8 0, .int .i8 0, .int .u8 0, .int .i8 0, .int .u8 0, .int .i8 0, .int .u8 0, .int .i8 0, .int .u8 0, .int .i8 0, .int .u8 0, .int .i8 0, .int .u8 0, .int .i8 0, .int .u8 0, .int .i8 0, .int .u8 0, .int .i8 0, .int .u8 0, .int .i8 0, .int .u8 0, .int .i8 0, .int .u8 0])) ?_ Tryz.underlying30 (by kernel_rfl) rfl (fun _ => rfl) (fun h => by cases h) (fun h => by cases h)
  refine tyok_cons (z := (.agg #[.int .u8 0, .slice none 0 0, .bool false, .int .i8 0, .int .u8 0, .int .i8 0, .int .u8 0, .int .i8 0, .int .u8 0, .int .i8 0, .int .u8 0, .int .i8 0, .int .u8 0, .int .i8 0, .int .u8 0, .int .i8 0, .int .u8 0, .int .i8 0, .int .u8 0, .int .i8 0, .int .u8 0, .int .i8 0, .int .u8 0, .int .i8 0, .int .u8 0, .int .i8 0, .int .u8 0, .int .i8 0, .int .u8 0, .int .i8 0, .int .u8 0, .int .i8 0, .int .u8 0, .int .i8 0, .int .u8 0])) ?_ Tryz.underlying32 (by kernel_rfl) rfl (fun _ => rfl) (fun h => by cases h) (fun h => by cases h)
  refine tyok_cons (z := (.slice none 0 0)) ?_ Tryz.underlying33 (by kernel_rfl) rfl (fun h => by cases h) (fun _ => rfl) (fun h => by cases h)
  refine tyok_cons (z := (.slice none 0 0)) ?_ Tryz.underlying34 (by kernel_rfl) rfl (fun h => by cases h) (fun _ => rfl) (fun h => by cases h)
  refine tyok_cons (z := (.slice none 0 0)) ?_ Tryz.underlying37 (by kernel_rfl) rfl (fun h => by cases h) (fun _ => rfl) (fun h => by cases h)
  refine tyok_cons (z := (.slice none 0 0)) ?_ Tryz.underlying38 (by kernel_rfl) rfl (fun h => by cases h) (fun _ => rfl) (fun h => by cases h)
  refine tyok_cons (z := (.slice none 0 0)) ?_ Tryz.underlying39 (by kernel_rfl) rfl (fun h => by cases h) (fun _ => rfl) (fun h => by cases h)
  refine tyok_cons (z := (.agg #[.slice none 0 0, .slice none 0 0, .slice none 0 0])) ?_ Tryz.underlying41 (by kernel_rfl) rfl (fun _ => rfl) (fun h => by cases h) (fun h => by cases h)
  refine tyok_cons (z := (.slice none 0 0)) ?_ Tryz.underlying42 (by kernel_rfl) rfl (fun h => by cases h) (fun _ => rfl) (fun h => by cases h)
  refine tyok_cons (z := (.agg #[.slice none 0 0, .slice none 0 0, .slice none 0 0, .slice none 0 0])) ?_ Tryz.underlying44 (by kernel_rfl) rfl (fun _ => rfl) (fun h => by cases h) (fun h => by cases h)
  refine tyok_cons (z := (.slice none 0 0)) ?_ Tryz.underlying46 (by kernel_rfl) rfl (fun h => by cases h) (fun _ => rfl) (fun h => by cases h)
  refine tyok_cons (z := (.slice none 0 0)) ?_ Tryz.underlying47 (by kernel_rfl) rfl (fun h => by cases h) (fun _ => rfl) (fun h => by cases h)
  refine tyok_cons (z := (.int .i64 0)) ?_ Tryz.underlying48 (by kernel_rfl) rfl (fun h => by cases h) (fun _ => rfl) (fun h => by cases h)
  refine tyok_cons (z := (.nilFunc)) ?_ Tryz.underlying55 (by kernel_rfl) rfl (fun h => by cases h) (fun _ => rfl) (fun h => by cases h)
  refine tyok_cons (z := (.string ⟨#[]⟩)) ?_ Tryz.underlying68 (by kernel_rfl) rfl (fun h => by cases h) (fun _ => rfl) (fun h => by cases h)
  refine tyok_cons (z := (.agg #[.string ⟨#[]⟩, .string ⟨#[]⟩])) ?_ Tryz.underlying70 (by kernel_rfl) rfl (fun _ => rfl) (fun h => by cases h) (fun _ => ⟨by kernel_rfl, by kernel_rfl⟩)
  refine tyok_cons (z := (.agg #[.int .u8 0, .slice none 0 0])) ?_ Tryz.underlying84 (by kernel_rfl) rfl (fun _ => rfl) (fun h => by cases h) (fun h => by cases h)
  refine tyok_cons (z := (.agg #[.int .i8 0, .int .i8 0, .int .i8 0, .int .i8 0])) ?_ Tryz.underlying92 (by kernel_rfl) rfl (fun _ => rfl) (fun h => by cases h) (fun h => by cases h)
  refine tyok_cons (z := (.agg #[.int .i8 0, .int .i8 0, .int .i8 0, .int .i8 0, .int .i8 0, .int .i8 0, .int .i8 0, .int .i8 0])) ?_ Tryz.underlying105 (by kernel_rfl) rfl (fun _ => rfl) (fun h => by cases h) (fun h => by cases h)
  refine tyok_cons (z := (.slice none 0 0)) ?_ Tryz.underlying114 (by kernel_rfl) rfl (fun h => by cases h) (fun _ => rfl) (fun h => by cases h)
  refine tyok_cons (z := (.slice none 0 0)) ?_ Tryz.underlying118 (by kernel_rfl) rfl (fun h => by cases h) (fun _ => rfl) (fun h => by cases h)
  refine tyok_cons (z := (.nilFunc)) ?_ Tryz.underlying126 (by kernel_rfl) rfl (fun h => by cases h) (fun _ => rfl) (fun h => by cases h)
  refine tyok_cons (z := (.agg #[.slice none 0 0, .slice none 0 0, .slice none 0 0, .slice none 0 0, .slice none 0 0, .slice none 0 0, .slice none 0 0, .slice none 0 0])) ?_ Tryz.underlying130 (by kernel_rfl) rfl (fun _ => rfl) (fun h => by cases h) (fun h => by cases h)
  refine tyok_cons (z := (.agg #[.slice none 0 0, .slice none 0 0, .string ⟨#[]⟩])) ?_ Tryz.underlying140 (by kernel_rfl) rfl (fun _ => rfl) (fun h => by cases h) (fun h => by cases h)
  refine tyok_cons (z := (.nilFunc)) ?_ Tryz.underlying148 (by kernel_rfl) rfl (fun h => by cases h) (fun _ => rfl) (fun h => by cases h)
  refine tyok_cons (z := (.nilIface)) ?_ Tryz.underlying155 (by kernel_rfl) rfl (fun h => by cases h) (fun _ => rfl) (fun h => by cases h)
  refine tyok_cons (z := (.pointer none)) ?_ Tryz.underlying158 (by kernel_rfl) rfl (fun h => by cases h) (fun _ => rfl) (fun h => by cases h)
  refine tyok_cons (z := (.slice none 0 0)) ?_ Tryz.underlying159 (by kernel_rfl) rfl (fun h => by cases h) (fun _ => rfl) (fun h => by cases h)
  refine tyok_cons (z := (.agg #[.pointer none, .slice none 0 0])) ?_ Tryz.underlying161 (by kernel_rfl) rfl (fun _ => rfl) (fun h => by cases h) (fun h => by cases h)
  refine tyok_cons (z := (.nilFunc)) ?_ Tryz.underlying182 (by kernel_rfl) rfl (fun h => by cases h) (fun _ => rfl) (fun h => by cases h)
  refine tyok_cons (z := (.agg #[.int .i64 0, .slice none 0 0])) ?_ Tryz.underlying184 (by kernel_rfl) rfl (fun _ => rfl) (fun h => by cases h) (fun h => by cases h)
  refine tyok_cons (z := (.slice none 0 0)) ?_ Tryz.underlying198 (by kernel_rfl) rfl (fun h => by cases h) (fun _ => rfl) (fun h => by cases h)
  refine tyok_cons (z := (.pointer none)) ?_ Tryz.underlying208 (by kernel_rfl) rfl (fun h => by cases h) (fun _ => rfl) (fun h => by cases h)
  refine tyok_cons (z := (.int .u64 0)) ?_ Tryz.underlying211 (by kernel_rfl) rfl (fun h => by cases h) (fun _ => rfl) (fun h => by cases h)
  refine tyok_cons (z := (.nilFunc)) ?_ Tryz.underlying214 (by kernel_rfl) rfl (fun h => by cases h) (fun _ => rfl) (fun h => by cases h)
  refine tyok_cons (z := (.slice none 0 0)) ?_ Tryz.underlying218 (by kernel_rfl) rfl (fun h => by cases h) (fun _ => rfl) (fun h => by cases h)
  refine tyok_cons (z := (.int .u64 0)) ?_ Tryz.underlying234 (by kernel_rfl) rfl (fun h => by cases h) (fun _ => rfl) (fun h => by cases h)
  refine tyok_cons (z := (.slice none 0 0)) ?_ Tryz.underlying238 (by kernel_rfl) rfl (fun h => by cases h) (fun _ => rfl) (fun h => by cases h)
  refine tyok_cons (z := (.slice none 0 0)) ?_ Tryz.underlying239 (by kernel_rfl) rfl (fun h => by cases h) (fun _ => rfl) (fun h => by cases h)
  refine tyok_cons (z := (.int .i64 0)) ?_ Tryz.underlying246 (by kernel_rfl) rfl (fun h => by cases h) (fun _ => rfl) (fun h => by cases h)
  refine tyok_cons (z := (.pointer none)) ?_ Tryz.underlying249 (by kernel_rfl) rfl (fun h => by cases h) (fun _ => rfl) (fun h => by cases h)
  refine tyok_cons (z := (.pointer none)) ?_ Tryz.underlying252 (by kernel_rfl) rfl (fun h => by cases h) (fun _ => rfl) (fun h => by cases h)
  refine tyok_cons (z := (.agg #[.int .u8 0, .int .u8 0, .int .u8 0, .int .u8 0, .int .u8 0, .int .u8 0, .int .u8 0, .int .u8 0, .int .u8 0, .int .u8 0, .int .u8 0, .int .u8 0, .int .u8 0, .int .u8 0, .int .u8 0, .int .u8 0, .int .u8 0, .int .u8 0, .int .u8 0, .int .u8 0, .int .u8 0, .int .u8 0, .int .u8 0, .int .u8 0])) ?_ Tryz.underlying255 (by kernel_rfl) rfl (fun _ => rfl) (fun h => by cases h) (fun h => by cases h)
  refine tyok_cons (z := (.int .u32 0)) ?_ Tryz.underlying260 (by kernel_rfl) rfl (fun h => by cases h) (fun _ => rfl) (fun h => by cases h)
  refine tyok_cons (z := (.slice none 0 0)) ?_ Tryz.underlying273 (by kernel_rfl) rfl (fun h => by cases h) (fun _ => rfl) (fun h => by cases h)
  refine tyok_cons (z := (.nilFunc)) ?_ Tryz.underlying286 (by kernel_rfl) rfl (fun h => by cases h) (fun _ => rfl) (fun h => by cases h)
  refine tyok_cons (z := (.slice none 0 0)) ?_ Tryz.underlying288 (by kernel_rfl) rfl (fun h => by cases h) (fun _ => rfl) (fun h => by cases h)
  refine tyok_cons (z := (.agg #[.string ⟨#[]⟩, .string ⟨#[]⟩, .nilIface])) ?_ Tryz.underlying309 (by kernel_rfl) rfl (fun _ => rfl) (fun h => by cases h) (fun h => by cases h)
  refine tyok_cons (z := (.agg #[.int .u64 0, .int .u64 0, .int .u64 0, .int .u64 0, .int .u64 0, .int .u64 0, .int .u64 0, .int .u64 0, .int .u64 0, .int .u64 0, .int .u64 0, .int .u64 0, .int .u64 0, .int .u64 0, .int .u64 0, .int .u64 0, .int .u64 0, .int .u64 0, .int .u64 0, .int .u64 0])) ?_ Tryz.underlying313 (by kernel_rfl) rfl (fun _ => rfl) (fun h => by cases h) (fun h => by cases h)
  refine tyok_cons (z := (.agg #[.int .u8 0, .int .u8 0, .int .u8 0, .int .u8 0, .int .u8 0, .int .u8 0, .int .u8 0, .int .u8 0, .int .u8 0, .int .u8 0, .int .u8 0, .int .u8 0, .int .u8 0, .int .u8 0, .int .u8 0, .int .u8 0, .int .u8 0, .int .u8 0, .int .u8 0, .int .u8 0, .int .u8 0, .int .u8 0, .int .u8 0, .int .u8 0, .int .u8 0, .int .u8 0, .int .u8 0, .int .u8 0, .int .u8 0, .int .u8 0, .int .u8 0, .int .u8 0, .int .u8 0, .int .u8 0, .int .u8 0, .int .u8 0, .int .u8 0, .int .u8 0, .int .u8 0, .int .u8 0, .int .u8 0, .int .u8 0, .int .u8 0, .int .u8 0, .int .u8 0, .int .u8 0, .int .u8 0, .int .u8 0, .int .u8 0, .int .u8 0, .int .u8 0, .int .u8 0, .int .u8 0, .int .u8 0, .int .u8 0, .int .u8 0, .int .u8 0, .int .u8 0, .int .u8 0, .int .u8 0, .int .u8 0, .int .u8 0, .int .u8 0, .int .u8 0, .int .u8 0])) ?_ Tryz.underlying314 (by kernel_rfl) rfl (fun _ => rfl) (fun h => by cases h) (fun h => by cases h)
  refine tyok_cons (z := (.pointer none)) ?_ Tryz.underlying326 (by kernel_rfl) rfl (fun h => by cases h) (fun _ => rfl) (fun h => by cases h)
  refine tyok_cons (z := (.agg #[.string ⟨#[]⟩])) ?_ Tryz.underlying328 (by kernel_rfl) rfl (fun _ => rfl) (fun h => by cases h) (fun h => by cases h)
  refine tyok_cons (z := (.agg #[.int .u8 0, .int .u8 0, .int .u8 0, .int .u8 0, .int .u8 0, .int .u8 0, .int .u8 0, .int .u8 0, .int .u8 0, .int .u8 0, .int .u8 0, .int .u8 0, .int .u8 0, .int .u8 0, .int .u8 0, .int .u8 0, .int .u8 0, .int .u8 0, .int .u8 0, .int .u8 0, .int .u8 0, .int .u8 0, .int .u8 0, .int .u8 0, .int .u8 0, .int .u8 0, .int .u8 0, .int .u8 0, .int .u8 0, .int .u8 0, .int .u8 0, .int .u8 0])) ?_ Tryz.underlying334 (by kernel_rfl) rfl (fun _ => rfl) (fun h => by cases h) (fun h => by cases h)
  refine tyok_cons (z := (.agg #[.int .u8 0, .int .u8 0, .int .u8 0, .int .u8 0, .int .u8 0, .int .u8 0, .int .u8 0, .int .u8 0, .int .u8 0, .int .u8 0, .int .u8 0, .int .u8 0, .int .u8 0, .int .u8 0, .int .u8 0, .int .u8 0, .int .u8 0, .int .u8 0, .int .u8 0, .int .u8 0, .int .u8 0, .int .u8 0, .int .u8 0, .int .u8 0, .int .u8 0, .int .u8 0, .int .u8 0, .int .u8 0, .int .u8 0, .int .u8 0, .int .u8 0, .int .u8 0, .int .u8 0, .int .u8 0, .int .u8 0, .int .u8 0, .int .u8 0, .int .u8 0, .int .u8 0, .int .u8 0, .int .u8 0, .int .u8 0, .int .u8 0, .int .u8 0, .int .u8 0, .int .u8 0, .int .u8 0, .int .u8 0, .int .u8 0, .int .u8 0, .int .u8 0, .int .u8 0, .int .u8 0, .int .u8 0, .int .u8 0, .int .u8 0, .int .u8 0, .int .u8 0, .int .u8 0, .int .u8 0, .int .u8 0, .int .u8 0, .int .u8 0, .int .u8 0])) ?_ Tryz.underlying335 (by kernel_rfl) rfl (fun _ => rfl) (fun h => by cases h) (fun h => by cases h)
  exact tyok_nil
theorem hmix : Tryz.prog.follows .mixedOrders = true := by kernel_rfl
end Go.Proofs.YtlbhgejbfhhipaaGreatDoor

/- Short forms of the rules, for the types of this program. -/
namespace Go.Proofs.YtlbhgejbfhhipaaGreatDoor
open Go Go.Am
section
variable {P : Program} {κ : Cx} {st : AS} {Q : Exit → AS → Prop} {own : List Nat} {K : AS → Prop} {ops : Array Oper} {k : Nat} {o : Oper} {l : List Oper} {c x y : Code} {id : Nat}
theorem Z1.z1 (h : Awp P κ x st (thenQ (fun s => Awp P κ y s Q) Q)) : Awp P κ (.seq x y) st Q := awp_seq h
theorem Z2.z1 (h : AL P κ ops (List.range ops.size) (Q .normal) 0 ops.toList st) : Awp P κ (.region id ops false) st Q := awp_region h
theorem Z3.z1 (h : Awp P κ c st (blockQ id Q)) : Awp P κ (.block id c) st Q := awp_block h
theorem Z4.z1 (h : Q .normal st) : Awp P κ .skip st Q := awp_skip h
theorem Z5.z1 (h : Q (.exit id) st) : Awp P κ (.exit id) st Q := awp_exit h
theorem Z6.z1 (h : K st) : AL P κ ops own K k [] st := al_nil h
end
section
variable {κ : Cx} {st : AS} {own : List Nat} {K : AS → Prop} {ops : Array Oper} {k : Nat} {o : Oper} {l : List Oper}
theorem z2 {C : Prop} {r : AV} {d : Nat} (h : AL Tryz.prog κ ops own K (k + 1) l (st.put (some d) r)) (hg : o.guard = none := by exact rfl) (hp : pureOp T st o.op = some (C, r) := by exact rfl) (hd : o.dst = some d := by exact rfl) (hN : Nat.blt d κ.N = true := by exact rfl)
    (hC : C := by first | exact True.intro | exact Nat.le_of_ble_eq_true rfl | exact ⟨fun _ => rfl, fun _ => rfl⟩ | omega | ((repeat' apply And.intro) <;> first | exact True.intro | rfl | omega | (simp only [inr_i64, inr_u64, inr_u32, inr_u8]; omega))) : AL Tryz.prog κ ops own K k (o :: l) st :=
  al_pure hT hg hp hd hN hC h
theorem z3 {P : Program} {t : TypeId} {x : Operand} {y : AV} {cs : List AV} {d : Nat} (h : AL P κ ops own K (k + 1) l ((st.new ⟨cs.length, cs⟩).put (some d) (.adr st.nx 0 0))) (hg : o.guard = none := by exact rfl) (hop : o.op = .box t x := by exact rfl) (hy : ev st x = some y := by exact rfl) (hcs : cellsOf y = some cs := by exact rfl) (hd : o.dst = some d := by exact rfl) (hN : Nat.blt d κ.N = true := by exact rfl) : AL P κ ops own K k (o :: l) st :=
  al_box hg hop hy hcs hd hN h
theorem z4 {t : TypeId} {d' : TD} {d : Nat} (h : AL Tryz.prog κ ops own K (k + 1) l ((st.new ⟨d'.zero.length, d'.zero.map .v⟩).put (some d) (.adr st.nx 0 0))) (hg : o.guard = none := by exact rfl) (hop : o.op = .alloc t := by exact rfl) (ht : T t = some d' := by exact rfl) (hd : o.dst = some d := by exact rfl) (hN : Nat.blt d κ.N = true := by exact rfl) : AL Tryz.prog κ ops own K k (o :: l) st :=
  al_alloc hT hg hop ht hd hN h
theorem z5 {ty : TypeId} {x y : Operand} {d' : TD} {g t i : Nat} {v : AV} {cs : List AV} {r : Row} (h : AL Tryz.prog κ ops own K (k + 1) l (st.setRow g t ⟨r.sz, setAll r.cells i cs⟩)) (hg : o.guard = none := by exact rfl) (hd : o.dst = none := by exact rfl) (hop : o.op = .store ty x y := by exact rfl) (ht : T ty = some d' := by exact rfl) (hx : ev st x = some (.adr g t i) := by exact rfl) (hy : ev st y = some v := by exact rfl) (hcs : cellsOf v = some cs := by exact rfl)
    (hr : st.row g t = some r := by exact rfl) (hl : cs.length = d'.size := by exact rfl) (hk : Nat.ble (i + cs.length) r.cells.length = true := by exact rfl) (hone : cs.all AV.one = true := by exact rfl) : AL Tryz.prog κ ops own K k (o :: l) st :=
  al_storeB hT hg hd hop ht hx hy hcs hr hl hk hone h
variable {j dj : Nat} {b g : Bool} {C : Prop} {r : AV} {d : Nat}
theorem z6 (h : AL Tryz.prog κ ops own K (k + 1) l (st.put (some d) r)) (hg : o.guard = some (j, b) := by exact rfl) (hj : (ops[j]?).bind (·.dst) = some dj := by exact rfl) (hv : guardOf st dj b = some g := by exact rfl) (hgt : g = true := by first | rfl | exact decide_eq_true (by omega) | exact decide_eq_false (by omega) | (simp [eqb]; done) | (simp [eqb]; omega)) (hp : pureOp T st o.op = some (C, r) := by exact rfl) (hd : o.dst = some d := by exact rfl) (hN : Nat.blt d κ.N = true := by exact rfl)
    (hC : C := by first | exact True.intro | exact Nat.le_of_ble_eq_true rfl | exact ⟨fun _ => rfl, fun _ => rfl⟩ | omega | ((repeat' apply And.intro) <;> first | exact True.intro | rfl | omega | (simp only [inr_i64, inr_u64, inr_u32, inr_u8]; omega))) : AL Tryz.prog κ ops own K k (o :: l) st :=
  al_on hT hg hj hv hgt hp hd hN hC h
theorem z7 {P : Program} (h : AL P κ ops own K (k + 1) l (st.put (some d) (.v undef))) (hg : o.guard = some (j, b) := by exact rfl) (hj : (ops[j]?).bind (·.dst) = some dj := by exact rfl) (hv : guardOf st dj b = some g := by exact rfl) (hgf : g = false := by first | rfl | exact decide_eq_true (by omega) | exact decide_eq_false (by omega) | (simp [eqb]; done) | (simp [eqb]; omega)) (hd : o.dst = some d := by exact rfl) (hN : Nat.blt d κ.N = true := by exact rfl) : AL P κ ops own K k (o :: l) st :=
  al_off hg hj hv hgf hd hN h
theorem z8 (h : AL Tryz.prog κ ops own K (k + 1) l (st.put (some d) r)) (hg : o.guard = some (j, b) := by exact rfl) (hj : (ops[j]?).bind (·.dst) = some dj := by exact rfl) (hv : guardOf st dj b = some g := by exact rfl) (hgt : g = true := by first | (rw [hdA]; rfl) | (rw [hdB]; rfl) | (rw [hdA, hdB]; rfl) | with_reducible rfl | decide) (hp : pureOp T st o.op = some (C, r) := by exact rfl) (hd : o.dst = some d := by exact rfl) (hN : Nat.blt d κ.N = true := by exact rfl)
    (hC : C := by first | exact True.intro | exact Nat.le_of_ble_eq_true rfl | exact ⟨fun _ => rfl, fun _ => rfl⟩ | omega | ((repeat' apply And.intro) <;> first | exact True.intro | rfl | omega | (simp only [inr_i64, inr_u64, inr_u32, inr_u8]; omega))) : AL Tryz.prog κ ops own K k (o :: l) st :=
  al_on hT hg hj hv hgt hp hd hN hC h
theorem z9 {P : Program} (h : AL P κ ops own K (k + 1) l (st.put (some d) (.v undef))) (hg : o.guard = some (j, b) := by exact rfl) (hj : (ops[j]?).bind (·.dst) = some dj := by exact rfl) (hv : guardOf st dj b = some g := by exact rfl) (hgf : g = false := by first | (rw [hdA]; rfl) | (rw [hdB]; rfl) | (rw [hdA, hdB]; rfl) | with_reducible rfl | decide) (hd : o.dst = some d := by exact rfl) (hN : Nat.blt d κ.N = true := by exact rfl) : AL P κ ops own K k (o :: l) st :=
  al_off hg hj hv hgf hd hN h
end
section
variable {P : Program} {κ : Cx} {st : AS} {own : List Nat} {K : AS → Prop} {ops : Array Oper} {k : Nat} {o : Oper} {l : List Oper} {c : Call} {f : Nat} {cs xs args : List AV} {res : AV} {d : Nat}
theorem zc (H : OkP κ.Λ P f args res) (h : AL P κ ops own K (k + 1) l (st.put (some d) res)) (hg : o.guard = none := by exact rfl) (hop : o.op = .call c := by exact rfl) (hc : calleeOf st c = some (f, cs) := by exact rfl) (hx : evAll st c.args.toList = some xs := by exact rfl)
    (hs : SubL st (xs ++ cs) args := by repeat' (first | exact SubL.nil | (refine SubL.cons (.refl ?_) ?_; (focus (first | trivial | exact nrl_u64s _ | exact nr_rowS _ | exact nr_matS _ | exact nrl_i64s _ | exact nrl_rowsC _))))) (hr : hf res ∨ (nrl (xs ++ cs) ∧ args = xs ++ cs) := by exact .inl (by trivial)) (hd : o.dst = some d := by exact rfl) (hN : Nat.blt d κ.N = true := by exact rfl) : AL P κ ops own K k (o :: l) st :=
  al_call H hg hop hc hx hs hr hd hN h
theorem zs (H : OkP κ.Λ P f args res) (h : AL P κ ops own K (k + 1) l (st.put (some d) res)) (hg : o.guard = none := by exact rfl) (hop : o.op = .call c := by exact rfl) (hc : calleeOf st c = some (f, cs) := by exact rfl) (hx : evAll st c.args.toList = some xs := by exact rfl)
    (hs : SubL st (xs ++ cs) args := by repeat' (first | exact SubL.nil | (refine SubL.cons (.refl ?_) ?_; (focus (first | trivial | exact nrl_u64s _ | exact nr_rowS _ | exact nr_matS _ | exact nrl_i64s _ | exact nrl_rowsC _))))) (hr : nrl (xs ++ cs) ∧ args = xs ++ cs := by refine ⟨?_, rfl⟩; (repeat' (first | exact True.intro | exact nrl_u64s _ | refine And.intro ?_ ?_))) (hd : o.dst = some d := by exact rfl) (hN : Nat.blt d κ.N = true := by exact rfl) : AL P κ ops own K k (o :: l) st :=
  al_call H hg hop hc hx hs (.inr hr) hd hN h
theorem zo {j dj : Nat} {b g : Bool} (H : OkP κ.Λ P f args res) (h : AL P κ ops own K (k + 1) l (st.put (some d) res)) (hg : o.guard = some (j, b) := by exact rfl) (hj : (ops[j]?).bind (·.dst) = some dj := by exact rfl) (hv : guardOf st dj b = some g := by exact rfl) (hgt : g = true := by first | (rw [hdA]; rfl) | (rw [hdB]; rfl) | (rw [hdA, hdB]; rfl) | with_reducible rfl | decide) (hop : o.op = .call c := by exact rfl) (hc : calleeOf st c = some (f, cs) := by exact rfl) (hx : evAll st c.args.toList = some xs := by exact rfl)
    (hs : SubL st (xs ++ cs) args := by repeat' (first | exact SubL.nil | (refine SubL.cons (.refl ?_) ?_; (focus (first | trivial | exact nrl_u64s _ | exact nr_rowS _ | exact nr_matS _ | exact nrl_i64s _ | exact nrl_rowsC _))))) (hr : hf res ∨ (nrl (xs ++ cs) ∧ args = xs ++ cs) := by exact .inl (by trivial)) (hd : o.dst = some d := by exact rfl) (hN : Nat.blt d κ.N = true := by exact rfl) : AL P κ ops own K k (o :: l) st :=
  al_on_call H hg hj hv hgt hop hc hx hs hr hd hN h
end
end Go.Proofs.YtlbhgejbfhhipaaGreatDoor

/-
  DERIVED: THE SHELF's CONTRACTS AT THIS DUMP, IN PLAIN WORDS (tools/lay-plain.mjs out of 'TryzShelf.lean', which tools/lay-shelf.mjs wrote): THE SAME DECLARATIONS UNDER THE SAME NAMES: 'import', 'namespace', 'open', 'def', 'theorem' AND NOTHING ELSE: no command of the shelf's: FOR A HAND-IN. Each laying: the table of numbers ('.._ren') and one theorem, a field a fact of the dump's own or the kernel's comparison; each contract: ONE APPLICATION.
-/
namespace Go.Proofs
open Go.Shelf
def Tryz.lays156_ren : Go.Shelf.Ren := ⟨fun | 156 => 68 | 165 => 109 | 166 => 110 | 169 => 111 | 240 => 161 | 241 => 162 | 276 => 202 | 277 => 203 | n => n, fun | 31 => 118 | 9 => 9 | 3 => 3 | 4 => 4 | 0 => 0 | 20 => 20 | 72 => 161 | 76 => 163 | 70 => 158 | 37 => 159 | 75 => 155 | 127 => 208 | 164 => 252 | 5 => 5 | 80 => 165 | n => n, fun | n => n⟩
theorem Tryz.lays156 : Go.Proofs.Lays.n156 Tryz.prog Tryz.lays156_ren := {
  mixed := by kernel_rfl
  f156 := Tryz.func68.trans (congrArg some (by kernel_rfl))
  f165 := Tryz.func109.trans (congrArg some (by kernel_rfl))
  f166 := Tryz.func110.trans (congrArg some (by kernel_rfl))
  f169 := Tryz.func111.trans (congrArg some (by kernel_rfl))
  f240 := Tryz.func161.trans (congrArg some (by kernel_rfl))
  f241 := Tryz.func162.trans (congrArg some (by kernel_rfl))
  f276 := Tryz.func202.trans (congrArg some (by kernel_rfl))
  f277 := Tryz.func203.trans (congrArg some (by kernel_rfl))
  t0 := Tryz.underlying0
  a0 := Tryz.isAgg0
  z0 := Tryz.sizeOf0
  v0 := Tryz.zeroValue0
  t3 := Tryz.underlying3
  a3 := Tryz.isAgg3
  z3 := Tryz.sizeOf3
  v3 := Tryz.zeroValue3
  t4 := Tryz.underlying4
  a4 := Tryz.isAgg4
  z4 := Tryz.sizeOf4
  v4 := Tryz.zeroValue4
  t9 := Tryz.underlying9
  a9 := Tryz.isAgg9
  z9 := Tryz.sizeOf9
  v9 := Tryz.zeroValue9
  t20 := Tryz.underlying20
  a20 := Tryz.isAgg20
  z20 := Tryz.sizeOf20
  v20 := Tryz.zeroValue20
  t31 := Tryz.underlying118
  a31 := Tryz.isAgg118
  z31 := Tryz.sizeOf118
  v31 := Tryz.zeroValue118
  t37 := Tryz.underlying159
  a37 := Tryz.isAgg159
  z37 := Tryz.sizeOf159
  v37 := Tryz.zeroValue159
  t70 := Tryz.underlying158
  a70 := Tryz.isAgg158
  z70 := Tryz.sizeOf158
  v70 := Tryz.zeroValue158
  t72 := Tryz.underlying161
  a72 := Tryz.isAgg161
  z72 := Tryz.sizeOf161
  v72 := Tryz.zeroValue161
  t75 := Tryz.underlying155
  a75 := Tryz.isAgg155
  z75 := Tryz.sizeOf155
  v75 := Tryz.zeroValue155
  t76 := Tryz.underlying163
  a76 := Tryz.isAgg163
  z76 := Tryz.sizeOf163
  v76 := Tryz.zeroValue163
  t127 := Tryz.underlying208
  a127 := Tryz.isAgg208
  z127 := Tryz.sizeOf208
  v127 := Tryz.zeroValue208
  t164 := Tryz.underlying252
  a164 := Tryz.isAgg252
  z164 := Tryz.sizeOf252
  v164 := Tryz.zeroValue252 }
theorem Tryz.Builder_Extra_156 : Builder.Extra Tryz.prog Tryz.lays156_ren := {
  sizeBuilder := by kernel_rfl
  liesBuilder := by kernel_rfl
  t5 := Tryz.underlying5
  a5 := Tryz.isAgg5
  z5 := Tryz.sizeOf5
  v5 := Tryz.zeroValue5
  infoByte := by kernel_rfl
  cellsByte := by kernel_rfl
  sizeByte := by kernel_rfl
  neB5 := by decide }
open Go.RowKit in
theorem Tryz.strings_Join_none (a : Option Addr) (c : Nat) (sep : ByteArray) (w : World) :
    Calls Tryz.prog 68 #[.slice a 0 c, .string sep] w fun e w' => e = .returned (.string ⟨#[]⟩) ∧ w' = w := Any.strings_Join_none Tryz.lays156 Tryz.Builder_Extra_156 a c sep w
open Go.RowKit in
theorem Tryz.strings_Join (bk o c : Nat) (xs : List ByteArray) (sep : ByteArray) (w : World) (hcells : ∀ (j : Nat) x, xs[j]? = some x → w.cell? ⟨bk, o + j, none⟩ = some (.string x)) (hbk : bk < w.heap.size) (hN : xs.length ≤ 140737488355328) (hcap : xs.length ≤ c) (hlen : (Lib.join (xs.map (·.data.toList)) sep.data.toList).length ≤ 140737488355328) :
    Calls Tryz.prog 68 #[.slice (some ⟨bk, o, none⟩) xs.length c, .string sep] w fun e w' => e = .returned (.string ⟨(Lib.join (xs.map (·.data.toList)) sep.data.toList).toArray⟩) ∧ Below w.heap.size w w' := Any.strings_Join Tryz.lays156 Tryz.Builder_Extra_156 bk o c xs sep w hcells hbk hN hcap hlen
def Tryz.lays283_ren : Go.Shelf.Ren := ⟨fun | 283 => 204 | n => n, fun | 3 => 3 | 9 => 9 | 4 => 4 | n => n, fun | n => n⟩
theorem Tryz.lays283 : Go.Proofs.Lays.n283 Tryz.prog Tryz.lays283_ren := {
  mixed := by kernel_rfl
  f283 := Tryz.func204.trans (congrArg some (by kernel_rfl))
  t3 := Tryz.underlying3
  a3 := Tryz.isAgg3
  z3 := Tryz.sizeOf3
  v3 := Tryz.zeroValue3
  t4 := Tryz.underlying4
  a4 := Tryz.isAgg4
  z4 := Tryz.sizeOf4
  v4 := Tryz.zeroValue4
  t9 := Tryz.underlying9
  a9 := Tryz.isAgg9
  z9 := Tryz.sizeOf9
  v9 := Tryz.zeroValue9 }
open Go.Lib in
theorem Tryz.internal_strconv_small (i : Nat) (h : i < 100) (w : World) :
    Calls Tryz.prog 204 #[.int .i64 i] w fun e w' => e = .returned (.string ⟨(Lib.decDigits i).toArray⟩) ∧ w' = w := Any.internal_strconv_small Tryz.lays283 i h w
def Tryz.laysM284_ren : Go.Shelf.Ren := ⟨fun | 284 => 205 | 129 => 249 | 317 => 248 | 318 => 250 | n => n, fun | 53 => 234 | 3 => 3 | 212 => 313 | 0 => 0 | 4 => 4 | 46 => 211 | 5 => 5 | 9 => 9 | n => n, fun | 17 => 3 | n => n⟩
theorem Tryz.laysM284 : Go.Proofs.LaysM.n284 Tryz.prog Tryz.laysM284_ren := {
  mixed := by kernel_rfl
  f129 := Tryz.func249.trans (congrArg some (by kernel_rfl))
  f284 := Tryz.func205.trans (congrArg some (by kernel_rfl))
  f317 := Tryz.func248.trans (congrArg some (by kernel_rfl))
  f318 := Tryz.func250.trans (congrArg some (by kernel_rfl))
  t0 := Tryz.underlying0
  a0 := Tryz.isAgg0
  z0 := Tryz.sizeOf0
  v0 := Tryz.zeroValue0
  t3 := Tryz.underlying3
  a3 := Tryz.isAgg3
  z3 := Tryz.sizeOf3
  v3 := Tryz.zeroValue3
  t4 := Tryz.underlying4
  a4 := Tryz.isAgg4
  z4 := Tryz.sizeOf4
  v4 := Tryz.zeroValue4
  t5 := Tryz.underlying5
  a5 := Tryz.isAgg5
  z5 := Tryz.sizeOf5
  v5 := Tryz.zeroValue5
  t9 := Tryz.underlying9
  a9 := Tryz.isAgg9
  z9 := Tryz.sizeOf9
  v9 := Tryz.zeroValue9
  t46 := Tryz.underlying211
  a46 := Tryz.isAgg211
  z46 := Tryz.sizeOf211
  v46 := Tryz.zeroValue211
  t53 := Tryz.underlying234
  a53 := Tryz.isAgg234
  z53 := Tryz.sizeOf234
  v53 := Tryz.zeroValue234
  t212 := Tryz.underlying313
  a212 := Tryz.isAgg313
  z212 := Tryz.sizeOf313
  v212 := Tryz.zeroValue313
  g17 := by kernel_rfl
  i0 := by kernel_rfl
  i3 := by kernel_rfl
  i4 := by kernel_rfl
  i5 := by kernel_rfl
  i9 := by kernel_rfl
  i46 := by kernel_rfl
  i53 := by kernel_rfl
  i212 := by kernel_rfl
  m17 := by kernel_rfl }
open Go.Lib in
theorem Tryz.internal_strconv_numDigits (u : Nat) (h1 : 1 ≤ u) (h2 : u < 18446744073709551616) (w : World) (htab : Lib.TabIs Tryz.prog w "internal/strconv.uint64pow10" .u64 Lib.pow10Tab) :
    Calls Tryz.prog 205 #[.int .u64 u] w fun e w' => e = .returned (.int .i64 (Lib.nDigits u)) ∧ w' = w := Any.internal_strconv_numDigits Tryz.laysM284 u h1 h2 w htab
def Tryz.lays285_ren : Go.Shelf.Ren := ⟨fun | 285 => 206 | n => n, fun | 37 => 159 | 53 => 234 | 3 => 3 | 4 => 4 | 51 => 260 | 9 => 9 | 5 => 5 | 0 => 0 | n => n, fun | n => n⟩
theorem Tryz.lays285 : Go.Proofs.Lays.n285 Tryz.prog Tryz.lays285_ren := {
  mixed := by kernel_rfl
  f285 := Tryz.func206.trans (congrArg some (by kernel_rfl))
  t0 := Tryz.underlying0
  a0 := Tryz.isAgg0
  z0 := Tryz.sizeOf0
  v0 := Tryz.zeroValue0
  t3 := Tryz.underlying3
  a3 := Tryz.isAgg3
  z3 := Tryz.sizeOf3
  v3 := Tryz.zeroValue3
  t4 := Tryz.underlying4
  a4 := Tryz.isAgg4
  z4 := Tryz.sizeOf4
  v4 := Tryz.zeroValue4
  t5 := Tryz.underlying5
  a5 := Tryz.isAgg5
  z5 := Tryz.sizeOf5
  v5 := Tryz.zeroValue5
  t9 := Tryz.underlying9
  a9 := Tryz.isAgg9
  z9 := Tryz.sizeOf9
  v9 := Tryz.zeroValue9
  t37 := Tryz.underlying159
  a37 := Tryz.isAgg159
  z37 := Tryz.sizeOf159
  v37 := Tryz.zeroValue159
  t51 := Tryz.underlying260
  a51 := Tryz.isAgg260
  z51 := Tryz.sizeOf260
  v51 := Tryz.zeroValue260
  t53 := Tryz.underlying234
  a53 := Tryz.isAgg234
  z53 := Tryz.sizeOf234
  v53 := Tryz.zeroValue234 }
open Go.RowKit Go.Sort Go.Lib in
theorem Tryz.internal_strconv_formatBase10 (blk off cap : Nat) (u : Nat) (d : Array UInt8) (w : World) (hH : Holds (fun (b : UInt8) => Value.int .u8 (b.toNat : Int)) w blk off d) (hu : u < 10 ^ d.size) (hu64 : u < 18446744073709551616) (hsz : d.size < 4611686018427387904) :
    Calls Tryz.prog 206 #[.slice (some ⟨blk, off, none⟩) d.size cap, .int .u64 u] w fun e w' =>
      e = .returned (.tuple #[]) ∧ ∃ (n v' : Nat) (dk : Array UInt8), w' = (putRow (fun (b : UInt8) => Value.int .u8 (b.toNat : Int)) w blk off dk).drewN n ∧ FmtInv d.size u 0 v' dk := Any.internal_strconv_formatBase10 Tryz.lays285 blk off cap u d w hH hu hu64 hsz
def Tryz.laysM171_ren : Go.Shelf.Ren := ⟨fun | 171 => 69 | 243 => 112 | 246 => 163 | 283 => 204 | 284 => 205 | 285 => 206 | 286 => 207 | 129 => 249 | 317 => 248 | 318 => 250 | 319 => 251 | 320 => 252 | 337 => 272 | 338 => 273 | n => n, fun | 3 => 3 | 9 => 9 | 2 => 2 | 4 => 4 | 171 => 255 | 0 => 0 | 53 => 234 | 37 => 159 | 5 => 5 | 173 => 258 | 212 => 313 | 51 => 260 | 20 => 20 | 213 => 314 | 46 => 211 | 232 => 334 | 233 => 335 | n => n, fun | 17 => 3 | 18 => 4 | 19 => 5 | n => n⟩
theorem Tryz.laysM171 : Go.Proofs.LaysM.n171 Tryz.prog Tryz.laysM171_ren := {
  mixed := by kernel_rfl
  f129 := Tryz.func249.trans (congrArg some (by kernel_rfl))
  f171 := Tryz.func69.trans (congrArg some (by kernel_rfl))
  f243 := Tryz.func112.trans (congrArg some (by kernel_rfl))
  f246 := Tryz.func163.trans (congrArg some (by kernel_rfl))
  f283 := Tryz.func204.trans (congrArg some (by kernel_rfl))
  f284 := Tryz.func205.trans (congrArg some (by kernel_rfl))
  f285 := Tryz.func206.trans (congrArg some (by kernel_rfl))
  f286 := Tryz.func207.trans (congrArg some (by kernel_rfl))
  f317 := Tryz.func248.trans (congrArg some (by kernel_rfl))
  f318 := Tryz.func250.trans (congrArg some (by kernel_rfl))
  f319 := Tryz.func251.trans (congrArg some (by kernel_rfl))
  f320 := Tryz.func252.trans (congrArg some (by kernel_rfl))
  f337 := Tryz.func272.trans (congrArg some (by kernel_rfl))
  f338 := Tryz.func273.trans (congrArg some (by kernel_rfl))
  t0 := Tryz.underlying0
  a0 := Tryz.isAgg0
  z0 := Tryz.sizeOf0
  v0 := Tryz.zeroValue0
  t2 := Tryz.underlying2
  a2 := Tryz.isAgg2
  z2 := Tryz.sizeOf2
  v2 := Tryz.zeroValue2
  t3 := Tryz.underlying3
  a3 := Tryz.isAgg3
  z3 := Tryz.sizeOf3
  v3 := Tryz.zeroValue3
  t4 := Tryz.underlying4
  a4 := Tryz.isAgg4
  z4 := Tryz.sizeOf4
  v4 := Tryz.zeroValue4
  t5 := Tryz.underlying5
  a5 := Tryz.isAgg5
  z5 := Tryz.sizeOf5
  v5 := Tryz.zeroValue5
  t9 := Tryz.underlying9
  a9 := Tryz.isAgg9
  z9 := Tryz.sizeOf9
  v9 := Tryz.zeroValue9
  t20 := Tryz.underlying20
  a20 := Tryz.isAgg20
  z20 := Tryz.sizeOf20
  v20 := Tryz.zeroValue20
  t37 := Tryz.underlying159
  a37 := Tryz.isAgg159
  z37 := Tryz.sizeOf159
  v37 := Tryz.zeroValue159
  t46 := Tryz.underlying211
  a46 := Tryz.isAgg211
  z46 := Tryz.sizeOf211
  v46 := Tryz.zeroValue211
  t51 := Tryz.underlying260
  a51 := Tryz.isAgg260
  z51 := Tryz.sizeOf260
  v51 := Tryz.zeroValue260
  t53 := Tryz.underlying234
  a53 := Tryz.isAgg234
  z53 := Tryz.sizeOf234
  v53 := Tryz.zeroValue234
  t171 := Tryz.underlying255
  a171 := Tryz.isAgg255
  z171 := Tryz.sizeOf255
  v171 := Tryz.zeroValue255
  t173 := Tryz.underlying258
  a173 := Tryz.isAgg258
  z173 := Tryz.sizeOf258
  v173 := Tryz.zeroValue258
  t212 := Tryz.underlying313
  a212 := Tryz.isAgg313
  z212 := Tryz.sizeOf313
  v212 := Tryz.zeroValue313
  t213 := Tryz.underlying314
  a213 := Tryz.isAgg314
  z213 := Tryz.sizeOf314
  t232 := Tryz.underlying334
  a232 := Tryz.isAgg334
  z232 := Tryz.sizeOf334
  v232 := Tryz.zeroValue334
  t233 := Tryz.underlying335
  a233 := Tryz.isAgg335
  z233 := Tryz.sizeOf335
  v233 := Tryz.zeroValue335
  g17 := by kernel_rfl
  g18 := by kernel_rfl
  g19 := by kernel_rfl
  i0 := by kernel_rfl
  i2 := by kernel_rfl
  i3 := by kernel_rfl
  i4 := by kernel_rfl
  i5 := by kernel_rfl
  i9 := by kernel_rfl
  i20 := by kernel_rfl
  i37 := by kernel_rfl
  i46 := by kernel_rfl
  i51 := by kernel_rfl
  i53 := by kernel_rfl
  i171 := by kernel_rfl
  i173 := by kernel_rfl
  i212 := by kernel_rfl
  i232 := by kernel_rfl
  i233 := by kernel_rfl
  m17 := by kernel_rfl
  m18 := by kernel_rfl
  m19 := by kernel_rfl }
open Go.RowKit Go.Sort Go.Lib in
theorem Tryz.strconv_Itoa (n : Int) (h0 : -9223372036854775808 ≤ n) (h1 : n ≤ 9223372036854775807) (w : World) (htab : Lib.TabIs Tryz.prog w "internal/strconv.uint64pow10" .u64 Lib.pow10Tab) :
    Calls Tryz.prog 69 #[.int .i64 n] w fun e w' => e = .returned (.string ⟨(Lib.itoa n).toArray⟩) ∧ ∃ k os, w' = grow (w.drewN k) os := Any.strconv_Itoa Tryz.laysM171 n h0 h1 w htab
def Tryz.laysC172_ren : Go.Shelf.Ren := ⟨fun | 172 => 170 | 244 => 210 | 245 => 160 | 247 => 159 | 279 => 198 | 280 => 199 | 281 => 200 | 282 => 201 | 287 => 197 | 316 => 246 | 171 => 69 | 205 => 247 | 321 => 244 | 322 => 245 | 243 => 112 | 246 => 163 | 283 => 204 | 284 => 205 | 285 => 206 | 286 => 207 | 129 => 249 | 317 => 248 | 318 => 250 | 319 => 251 | 320 => 252 | 337 => 272 | 338 => 273 | n => n, fun | 9 => 9 | 3 => 3 | 75 => 155 | 76 => 163 | 4 => 4 | 5 => 5 | 167 => 246 | 37 => 159 | 0 => 0 | 85 => 156 | 2 => 2 | 168 => 249 | 53 => 234 | 175 => 247 | 46 => 211 | 210 => 309 | 127 => 208 | 145 => 328 | 143 => 326 | 21 => 21 | 171 => 255 | 173 => 258 | 212 => 313 | 51 => 260 | 20 => 20 | 213 => 314 | 232 => 334 | 233 => 335 | 80 => 165 | n => n, fun | 15 => 0 | 16 => 1 | 17 => 3 | 18 => 4 | 19 => 5 | n => n⟩
theorem Tryz.laysC172 : Go.Proofs.LaysC.n172 Tryz.prog Tryz.laysC172_ren := {
  mixed := by kernel_rfl
  f129 := Tryz.func249.trans (congrArg some (by kernel_rfl))
  f171 := Tryz.func69.trans (congrArg some (by kernel_rfl))
  f172 := Tryz.func170.trans (congrArg some (by kernel_rfl))
  f205 := Tryz.func247.trans (congrArg some (by kernel_rfl))
  f243 := Tryz.func112.trans (congrArg some (by kernel_rfl))
  f244 := Tryz.func210.trans (congrArg some (by kernel_rfl))
  f245 := Tryz.func160.trans (congrArg some (by kernel_rfl))
  f246 := Tryz.func163.trans (congrArg some (by kernel_rfl))
  f247 := Tryz.func159.trans (congrArg some (by kernel_rfl))
  f279 := Tryz.func198.trans (congrArg some (by kernel_rfl))
  f280 := Tryz.func199.trans (congrArg some (by kernel_rfl))
  f281 := Tryz.func200.trans (congrArg some (by kernel_rfl))
  f282 := Tryz.func201.trans (congrArg some (by kernel_rfl))
  f283 := Tryz.func204.trans (congrArg some (by kernel_rfl))
  f284 := Tryz.func205.trans (congrArg some (by kernel_rfl))
  f285 := Tryz.func206.trans (congrArg some (by kernel_rfl))
  f286 := Tryz.func207.trans (congrArg some (by kernel_rfl))
  f287 := Tryz.func197.trans (congrArg some (by kernel_rfl))
  f316 := Tryz.func246.trans (congrArg some (by kernel_rfl))
  f317 := Tryz.func248.trans (congrArg some (by kernel_rfl))
  f318 := Tryz.func250.trans (congrArg some (by kernel_rfl))
  f319 := Tryz.func251.trans (congrArg some (by kernel_rfl))
  f320 := Tryz.func252.trans (congrArg some (by kernel_rfl))
  f321 := Tryz.func244.trans (congrArg some (by kernel_rfl))
  f322 := Tryz.func245.trans (congrArg some (by kernel_rfl))
  f337 := Tryz.func272.trans (congrArg some (by kernel_rfl))
  f338 := Tryz.func273.trans (congrArg some (by kernel_rfl))
  t0 := Tryz.underlying0
  a0 := Tryz.isAgg0
  z0 := Tryz.sizeOf0
  v0 := Tryz.zeroValue0
  t2 := Tryz.underlying2
  a2 := Tryz.isAgg2
  z2 := Tryz.sizeOf2
  v2 := Tryz.zeroValue2
  t3 := Tryz.underlying3
  a3 := Tryz.isAgg3
  z3 := Tryz.sizeOf3
  v3 := Tryz.zeroValue3
  t4 := Tryz.underlying4
  a4 := Tryz.isAgg4
  z4 := Tryz.sizeOf4
  v4 := Tryz.zeroValue4
  t5 := Tryz.underlying5
  a5 := Tryz.isAgg5
  z5 := Tryz.sizeOf5
  v5 := Tryz.zeroValue5
  t9 := Tryz.underlying9
  a9 := Tryz.isAgg9
  z9 := Tryz.sizeOf9
  v9 := Tryz.zeroValue9
  t20 := Tryz.underlying20
  a20 := Tryz.isAgg20
  z20 := Tryz.sizeOf20
  v20 := Tryz.zeroValue20
  t21 := Tryz.underlying21
  a21 := Tryz.isAgg21
  z21 := Tryz.sizeOf21
  v21 := Tryz.zeroValue21
  t37 := Tryz.underlying159
  a37 := Tryz.isAgg159
  z37 := Tryz.sizeOf159
  v37 := Tryz.zeroValue159
  t46 := Tryz.underlying211
  a46 := Tryz.isAgg211
  z46 := Tryz.sizeOf211
  v46 := Tryz.zeroValue211
  t51 := Tryz.underlying260
  a51 := Tryz.isAgg260
  z51 := Tryz.sizeOf260
  v51 := Tryz.zeroValue260
  t53 := Tryz.underlying234
  a53 := Tryz.isAgg234
  z53 := Tryz.sizeOf234
  v53 := Tryz.zeroValue234
  t75 := Tryz.underlying155
  a75 := Tryz.isAgg155
  z75 := Tryz.sizeOf155
  v75 := Tryz.zeroValue155
  t76 := Tryz.underlying163
  a76 := Tryz.isAgg163
  z76 := Tryz.sizeOf163
  v76 := Tryz.zeroValue163
  t85 := Tryz.underlying156
  a85 := Tryz.isAgg156
  z85 := Tryz.sizeOf156
  v85 := Tryz.zeroValue156
  t127 := Tryz.underlying208
  a127 := Tryz.isAgg208
  z127 := Tryz.sizeOf208
  v127 := Tryz.zeroValue208
  t143 := Tryz.underlying326
  a143 := Tryz.isAgg326
  z143 := Tryz.sizeOf326
  v143 := Tryz.zeroValue326
  t145 := Tryz.underlying328
  a145 := Tryz.isAgg328
  z145 := Tryz.sizeOf328
  v145 := Tryz.zeroValue328
  t167 := Tryz.underlying246
  a167 := Tryz.isAgg246
  z167 := Tryz.sizeOf246
  v167 := Tryz.zeroValue246
  t168 := Tryz.underlying249
  a168 := Tryz.isAgg249
  z168 := Tryz.sizeOf249
  v168 := Tryz.zeroValue249
  t171 := Tryz.underlying255
  a171 := Tryz.isAgg255
  z171 := Tryz.sizeOf255
  v171 := Tryz.zeroValue255
  t173 := Tryz.underlying258
  a173 := Tryz.isAgg258
  z173 := Tryz.sizeOf258
  v173 := Tryz.zeroValue258
  t175 := Tryz.underlying247
  a175 := Tryz.isAgg247
  z175 := Tryz.sizeOf247
  v175 := Tryz.zeroValue247
  t210 := Tryz.underlying309
  a210 := Tryz.isAgg309
  z210 := Tryz.sizeOf309
  v210 := Tryz.zeroValue309
  t212 := Tryz.underlying313
  a212 := Tryz.isAgg313
  z212 := Tryz.sizeOf313
  v212 := Tryz.zeroValue313
  t213 := Tryz.underlying314
  a213 := Tryz.isAgg314
  z213 := Tryz.sizeOf314
  t232 := Tryz.underlying334
  a232 := Tryz.isAgg334
  z232 := Tryz.sizeOf334
  v232 := Tryz.zeroValue334
  t233 := Tryz.underlying335
  a233 := Tryz.isAgg335
  z233 := Tryz.sizeOf335
  v233 := Tryz.zeroValue335
  g15 := by kernel_rfl
  g16 := by kernel_rfl
  g17 := by kernel_rfl
  g18 := by kernel_rfl
  g19 := by kernel_rfl
  t80 := Tryz.underlying165
  a80 := Tryz.isAgg165
  z80 := Tryz.sizeOf165
  v80 := Tryz.zeroValue165
  i0 := by kernel_rfl
  i2 := by kernel_rfl
  i3 := by kernel_rfl
  i4 := by kernel_rfl
  i5 := by kernel_rfl
  i9 := by kernel_rfl
  i20 := by kernel_rfl
  i21 := by kernel_rfl
  i37 := by kernel_rfl
  i46 := by kernel_rfl
  i51 := by kernel_rfl
  i53 := by kernel_rfl
  i75 := by kernel_rfl
  i76 := by kernel_rfl
  i80 := by kernel_rfl
  i85 := by kernel_rfl
  i127 := by kernel_rfl
  i143 := by kernel_rfl
  i145 := by kernel_rfl
  i167 := by kernel_rfl
  i168 := by kernel_rfl
  i171 := by kernel_rfl
  i173 := by kernel_rfl
  i175 := by kernel_rfl
  i210 := by kernel_rfl
  i212 := by kernel_rfl
  i232 := by kernel_rfl
  i233 := by kernel_rfl
  m15 := by kernel_rfl
  m16 := by kernel_rfl
  m17 := by kernel_rfl
  m18 := by kernel_rfl
  m19 := by kernel_rfl
  c0 := by kernel_rfl
  c2 := by kernel_rfl
  c3 := by kernel_rfl
  c4 := by kernel_rfl
  c5 := by kernel_rfl
  c9 := by kernel_rfl
  c20 := by kernel_rfl
  c21 := by kernel_rfl
  c37 := by kernel_rfl
  c46 := by kernel_rfl
  c51 := by kernel_rfl
  c53 := by kernel_rfl
  c75 := by kernel_rfl
  c76 := by kernel_rfl
  c80 := by kernel_rfl
  c85 := by kernel_rfl
  c127 := by kernel_rfl
  c143 := by kernel_rfl
  c145 := by kernel_rfl
  c167 := by kernel_rfl
  c168 := by kernel_rfl
  c171 := by kernel_rfl
  c173 := by kernel_rfl
  c175 := by kernel_rfl
  c210 := by kernel_rfl
  c212 := by kernel_rfl
  c213 := by kernel_rfl
  c232 := by kernel_rfl
  c233 := by kernel_rfl }
open Go.RowKit in
theorem Tryz.strconv_Atoi_ok (s : ByteArray) (hmax : s.size ≤ 9223372036854775806) (v : Int) (h : Lib.atoiAll s.data.toList = .ok v) (w : World) :
    Calls Tryz.prog 170 #[.string s] w fun e w' => e = .returned (.tuple #[.int .i64 v, .nilIface]) ∧ (w' = w ∨ ∃ t, w' = Lib.bytesWorld w 5 t) := Any.strconv_Atoi_ok Tryz.laysC172 s hmax v h w
def Tryz.laysC174_ren : Go.Shelf.Ren := ⟨fun | 174 => 108 | 247 => 159 | 245 => 160 | 287 => 197 | 279 => 198 | 280 => 199 | 281 => 200 | 282 => 201 | 321 => 244 | 322 => 245 | 316 => 246 | 171 => 69 | 205 => 247 | 243 => 112 | 246 => 163 | 283 => 204 | 284 => 205 | 285 => 206 | 286 => 207 | 129 => 249 | 317 => 248 | 318 => 250 | 319 => 251 | 320 => 252 | 337 => 272 | 338 => 273 | n => n, fun | 9 => 9 | 3 => 3 | 2 => 2 | 75 => 155 | 85 => 156 | 4 => 4 | 167 => 246 | 5 => 5 | 53 => 234 | 175 => 247 | 46 => 211 | 168 => 249 | 37 => 159 | 0 => 0 | 210 => 309 | 21 => 21 | 127 => 208 | 145 => 328 | 143 => 326 | 171 => 255 | 173 => 258 | 212 => 313 | 51 => 260 | 20 => 20 | 213 => 314 | 232 => 334 | 233 => 335 | 80 => 165 | n => n, fun | 15 => 0 | 16 => 1 | 17 => 3 | 18 => 4 | 19 => 5 | n => n⟩
theorem Tryz.laysC174 : Go.Proofs.LaysC.n174 Tryz.prog Tryz.laysC174_ren := {
  mixed := by kernel_rfl
  f129 := Tryz.func249.trans (congrArg some (by kernel_rfl))
  f171 := Tryz.func69.trans (congrArg some (by kernel_rfl))
  f174 := Tryz.func108.trans (congrArg some (by kernel_rfl))
  f205 := Tryz.func247.trans (congrArg some (by kernel_rfl))
  f243 := Tryz.func112.trans (congrArg some (by kernel_rfl))
  f245 := Tryz.func160.trans (congrArg some (by kernel_rfl))
  f246 := Tryz.func163.trans (congrArg some (by kernel_rfl))
  f247 := Tryz.func159.trans (congrArg some (by kernel_rfl))
  f279 := Tryz.func198.trans (congrArg some (by kernel_rfl))
  f280 := Tryz.func199.trans (congrArg some (by kernel_rfl))
  f281 := Tryz.func200.trans (congrArg some (by kernel_rfl))
  f282 := Tryz.func201.trans (congrArg some (by kernel_rfl))
  f283 := Tryz.func204.trans (congrArg some (by kernel_rfl))
  f284 := Tryz.func205.trans (congrArg some (by kernel_rfl))
  f285 := Tryz.func206.trans (congrArg some (by kernel_rfl))
  f286 := Tryz.func207.trans (congrArg some (by kernel_rfl))
  f287 := Tryz.func197.trans (congrArg some (by kernel_rfl))
  f316 := Tryz.func246.trans (congrArg some (by kernel_rfl))
  f317 := Tryz.func248.trans (congrArg some (by kernel_rfl))
  f318 := Tryz.func250.trans (congrArg some (by kernel_rfl))
  f319 := Tryz.func251.trans (congrArg some (by kernel_rfl))
  f320 := Tryz.func252.trans (congrArg some (by kernel_rfl))
  f321 := Tryz.func244.trans (congrArg some (by kernel_rfl))
  f322 := Tryz.func245.trans (congrArg some (by kernel_rfl))
  f337 := Tryz.func272.trans (congrArg some (by kernel_rfl))
  f338 := Tryz.func273.trans (congrArg some (by kernel_rfl))
  t0 := Tryz.underlying0
  a0 := Tryz.isAgg0
  z0 := Tryz.sizeOf0
  v0 := Tryz.zeroValue0
  t2 := Tryz.underlying2
  a2 := Tryz.isAgg2
  z2 := Tryz.sizeOf2
  v2 := Tryz.zeroValue2
  t3 := Tryz.underlying3
  a3 := Tryz.isAgg3
  z3 := Tryz.sizeOf3
  v3 := Tryz.zeroValue3
  t4 := Tryz.underlying4
  a4 := Tryz.isAgg4
  z4 := Tryz.sizeOf4
  v4 := Tryz.zeroValue4
  t5 := Tryz.underlying5
  a5 := Tryz.isAgg5
  z5 := Tryz.sizeOf5
  v5 := Tryz.zeroValue5
  t9 := Tryz.underlying9
  a9 := Tryz.isAgg9
  z9 := Tryz.sizeOf9
  v9 := Tryz.zeroValue9
  t20 := Tryz.underlying20
  a20 := Tryz.isAgg20
  z20 := Tryz.sizeOf20
  v20 := Tryz.zeroValue20
  t21 := Tryz.underlying21
  a21 := Tryz.isAgg21
  z21 := Tryz.sizeOf21
  v21 := Tryz.zeroValue21
  t37 := Tryz.underlying159
  a37 := Tryz.isAgg159
  z37 := Tryz.sizeOf159
  v37 := Tryz.zeroValue159
  t46 := Tryz.underlying211
  a46 := Tryz.isAgg211
  z46 := Tryz.sizeOf211
  v46 := Tryz.zeroValue211
  t51 := Tryz.underlying260
  a51 := Tryz.isAgg260
  z51 := Tryz.sizeOf260
  v51 := Tryz.zeroValue260
  t53 := Tryz.underlying234
  a53 := Tryz.isAgg234
  z53 := Tryz.sizeOf234
  v53 := Tryz.zeroValue234
  t75 := Tryz.underlying155
  a75 := Tryz.isAgg155
  z75 := Tryz.sizeOf155
  v75 := Tryz.zeroValue155
  t85 := Tryz.underlying156
  a85 := Tryz.isAgg156
  z85 := Tryz.sizeOf156
  v85 := Tryz.zeroValue156
  t127 := Tryz.underlying208
  a127 := Tryz.isAgg208
  z127 := Tryz.sizeOf208
  v127 := Tryz.zeroValue208
  t143 := Tryz.underlying326
  a143 := Tryz.isAgg326
  z143 := Tryz.sizeOf326
  v143 := Tryz.zeroValue326
  t145 := Tryz.underlying328
  a145 := Tryz.isAgg328
  z145 := Tryz.sizeOf328
  v145 := Tryz.zeroValue328
  t167 := Tryz.underlying246
  a167 := Tryz.isAgg246
  z167 := Tryz.sizeOf246
  v167 := Tryz.zeroValue246
  t168 := Tryz.underlying249
  a168 := Tryz.isAgg249
  z168 := Tryz.sizeOf249
  v168 := Tryz.zeroValue249
  t171 := Tryz.underlying255
  a171 := Tryz.isAgg255
  z171 := Tryz.sizeOf255
  v171 := Tryz.zeroValue255
  t173 := Tryz.underlying258
  a173 := Tryz.isAgg258
  z173 := Tryz.sizeOf258
  v173 := Tryz.zeroValue258
  t175 := Tryz.underlying247
  a175 := Tryz.isAgg247
  z175 := Tryz.sizeOf247
  v175 := Tryz.zeroValue247
  t210 := Tryz.underlying309
  a210 := Tryz.isAgg309
  z210 := Tryz.sizeOf309
  v210 := Tryz.zeroValue309
  t212 := Tryz.underlying313
  a212 := Tryz.isAgg313
  z212 := Tryz.sizeOf313
  v212 := Tryz.zeroValue313
  t213 := Tryz.underlying314
  a213 := Tryz.isAgg314
  z213 := Tryz.sizeOf314
  t232 := Tryz.underlying334
  a232 := Tryz.isAgg334
  z232 := Tryz.sizeOf334
  v232 := Tryz.zeroValue334
  t233 := Tryz.underlying335
  a233 := Tryz.isAgg335
  z233 := Tryz.sizeOf335
  v233 := Tryz.zeroValue335
  g15 := by kernel_rfl
  g16 := by kernel_rfl
  g17 := by kernel_rfl
  g18 := by kernel_rfl
  g19 := by kernel_rfl
  t80 := Tryz.underlying165
  a80 := Tryz.isAgg165
  z80 := Tryz.sizeOf165
  v80 := Tryz.zeroValue165
  i0 := by kernel_rfl
  i2 := by kernel_rfl
  i3 := by kernel_rfl
  i4 := by kernel_rfl
  i5 := by kernel_rfl
  i9 := by kernel_rfl
  i20 := by kernel_rfl
  i21 := by kernel_rfl
  i37 := by kernel_rfl
  i46 := by kernel_rfl
  i51 := by kernel_rfl
  i53 := by kernel_rfl
  i75 := by kernel_rfl
  i80 := by kernel_rfl
  i85 := by kernel_rfl
  i127 := by kernel_rfl
  i143 := by kernel_rfl
  i145 := by kernel_rfl
  i167 := by kernel_rfl
  i168 := by kernel_rfl
  i171 := by kernel_rfl
  i173 := by kernel_rfl
  i175 := by kernel_rfl
  i210 := by kernel_rfl
  i212 := by kernel_rfl
  i232 := by kernel_rfl
  i233 := by kernel_rfl
  m15 := by kernel_rfl
  m16 := by kernel_rfl
  m17 := by kernel_rfl
  m18 := by kernel_rfl
  m19 := by kernel_rfl
  c0 := by kernel_rfl
  c2 := by kernel_rfl
  c3 := by kernel_rfl
  c4 := by kernel_rfl
  c5 := by kernel_rfl
  c9 := by kernel_rfl
  c20 := by kernel_rfl
  c21 := by kernel_rfl
  c37 := by kernel_rfl
  c46 := by kernel_rfl
  c51 := by kernel_rfl
  c53 := by kernel_rfl
  c75 := by kernel_rfl
  c80 := by kernel_rfl
  c85 := by kernel_rfl
  c127 := by kernel_rfl
  c143 := by kernel_rfl
  c145 := by kernel_rfl
  c167 := by kernel_rfl
  c168 := by kernel_rfl
  c171 := by kernel_rfl
  c173 := by kernel_rfl
  c175 := by kernel_rfl
  c210 := by kernel_rfl
  c212 := by kernel_rfl
  c213 := by kernel_rfl
  c232 := by kernel_rfl
  c233 := by kernel_rfl }
open Go.RowKit in
theorem Tryz.strconv_ParseInt_10_at64_ok (s : ByteArray) (hmax : s.size ≤ 9223372036854775806) (v : Int) (h : Lib.parseIntB 64 s.data.toList = .ok v) (w : World) :
    Calls Tryz.prog 108 #[.string s, .int .i64 10, .int .i64 64] w fun e w' => e = .returned (.tuple #[.int .i64 v, .nilIface]) ∧ (w' = w ∨ ∃ t, w' = Lib.bytesWorld w 5 t) := Any.strconv_ParseInt_10_at64_ok Tryz.laysC174 s hmax v h w
open Go.RowKit in
theorem Tryz.strconv_ParseInt_10_at64_range_var (s : ByteArray) (hlim : s.size ≤ 281474976710656) (h : Lib.parseIntB 64 s.data.toList = .range) (tp : TypeId) (p : Value) (w : World) (hvar : w.var? Tryz.prog "strconv.ErrRange" = some #[.iface tp p]) :
    Calls Tryz.prog 108 #[.string s, .int .i64 10, .int .i64 64] w fun e w' => ∃ N, e = .returned (.tuple #[.int .i64 (Lib.intSat 64 s.data.toList), .iface 249 (.pointer (some ⟨N, 0, none⟩))]) ∧ w.heap.size ≤ N ∧ w'.heap[N]? = some (.cells #[.string ⟨#[80, 97, 114, 115, 101, 73, 110, 116]⟩, .string s, .iface tp p] 309 (0, 0)) ∧ Below w.heap.size w w' := Any.strconv_ParseInt_10_at64_range_var Tryz.laysC174 s hlim h tp p w hvar
def Tryz.laysPu14_ren : Go.Shelf.Ren := ⟨fun | 14 => 270 | 16 => 197 | 17 => 160 | 19 => 244 | 20 => 245 | 21 => 198 | 22 => 199 | 23 => 200 | 24 => 201 | 25 => 246 | 27 => 69 | 26 => 247 | 28 => 112 | 29 => 163 | 30 => 204 | 31 => 205 | 32 => 206 | 33 => 207 | 35 => 249 | 34 => 248 | 36 => 250 | 37 => 251 | 38 => 252 | 39 => 272 | 40 => 273 | n => n, fun | 9 => 9 | 3 => 3 | 22 => 234 | 24 => 155 | 25 => 247 | 4 => 4 | 34 => 246 | 5 => 5 | 36 => 211 | 37 => 159 | 0 => 0 | 39 => 249 | 21 => 21 | 44 => 309 | 47 => 208 | 50 => 328 | 48 => 326 | 2 => 2 | 52 => 255 | 55 => 258 | 59 => 313 | 60 => 260 | 20 => 20 | 61 => 314 | 65 => 334 | 66 => 335 | 67 => 165 | n => n, fun | 0 => 0 | 1 => 1 | 2 => 3 | 3 => 4 | 4 => 5 | n => n⟩
theorem Tryz.laysPu14 : Go.Proofs.LaysPu.n14 Tryz.prog Tryz.laysPu14_ren := {
  mixed := by kernel_rfl
  f14 := Tryz.func270.trans (congrArg some (by kernel_rfl))
  f16 := Tryz.func197.trans (congrArg some (by kernel_rfl))
  f17 := Tryz.func160.trans (congrArg some (by kernel_rfl))
  f19 := Tryz.func244.trans (congrArg some (by kernel_rfl))
  f20 := Tryz.func245.trans (congrArg some (by kernel_rfl))
  f21 := Tryz.func198.trans (congrArg some (by kernel_rfl))
  f22 := Tryz.func199.trans (congrArg some (by kernel_rfl))
  f23 := Tryz.func200.trans (congrArg some (by kernel_rfl))
  f24 := Tryz.func201.trans (congrArg some (by kernel_rfl))
  f25 := Tryz.func246.trans (congrArg some (by kernel_rfl))
  f26 := Tryz.func247.trans (congrArg some (by kernel_rfl))
  f27 := Tryz.func69.trans (congrArg some (by kernel_rfl))
  f28 := Tryz.func112.trans (congrArg some (by kernel_rfl))
  f29 := Tryz.func163.trans (congrArg some (by kernel_rfl))
  f30 := Tryz.func204.trans (congrArg some (by kernel_rfl))
  f31 := Tryz.func205.trans (congrArg some (by kernel_rfl))
  f32 := Tryz.func206.trans (congrArg some (by kernel_rfl))
  f33 := Tryz.func207.trans (congrArg some (by kernel_rfl))
  f34 := Tryz.func248.trans (congrArg some (by kernel_rfl))
  f35 := Tryz.func249.trans (congrArg some (by kernel_rfl))
  f36 := Tryz.func250.trans (congrArg some (by kernel_rfl))
  f37 := Tryz.func251.trans (congrArg some (by kernel_rfl))
  f38 := Tryz.func252.trans (congrArg some (by kernel_rfl))
  f39 := Tryz.func272.trans (congrArg some (by kernel_rfl))
  f40 := Tryz.func273.trans (congrArg some (by kernel_rfl))
  t0 := Tryz.underlying0
  a0 := Tryz.isAgg0
  z0 := Tryz.sizeOf0
  v0 := Tryz.zeroValue0
  i0 := by kernel_rfl
  t2 := Tryz.underlying2
  a2 := Tryz.isAgg2
  z2 := Tryz.sizeOf2
  v2 := Tryz.zeroValue2
  i2 := by kernel_rfl
  t3 := Tryz.underlying3
  a3 := Tryz.isAgg3
  z3 := Tryz.sizeOf3
  v3 := Tryz.zeroValue3
  i3 := by kernel_rfl
  t4 := Tryz.underlying4
  a4 := Tryz.isAgg4
  z4 := Tryz.sizeOf4
  v4 := Tryz.zeroValue4
  i4 := by kernel_rfl
  t5 := Tryz.underlying5
  a5 := Tryz.isAgg5
  z5 := Tryz.sizeOf5
  v5 := Tryz.zeroValue5
  i5 := by kernel_rfl
  t9 := Tryz.underlying9
  a9 := Tryz.isAgg9
  z9 := Tryz.sizeOf9
  v9 := Tryz.zeroValue9
  i9 := by kernel_rfl
  t20 := Tryz.underlying20
  a20 := Tryz.isAgg20
  z20 := Tryz.sizeOf20
  v20 := Tryz.zeroValue20
  i20 := by kernel_rfl
  t21 := Tryz.underlying21
  a21 := Tryz.isAgg21
  z21 := Tryz.sizeOf21
  v21 := Tryz.zeroValue21
  i21 := by kernel_rfl
  t22 := Tryz.underlying234
  a22 := Tryz.isAgg234
  z22 := Tryz.sizeOf234
  v22 := Tryz.zeroValue234
  i22 := by kernel_rfl
  t24 := Tryz.underlying155
  a24 := Tryz.isAgg155
  z24 := Tryz.sizeOf155
  v24 := Tryz.zeroValue155
  i24 := by kernel_rfl
  t25 := Tryz.underlying247
  a25 := Tryz.isAgg247
  z25 := Tryz.sizeOf247
  v25 := Tryz.zeroValue247
  i25 := by kernel_rfl
  t34 := Tryz.underlying246
  a34 := Tryz.isAgg246
  z34 := Tryz.sizeOf246
  v34 := Tryz.zeroValue246
  i34 := by kernel_rfl
  c34 := by kernel_rfl
  t36 := Tryz.underlying211
  a36 := Tryz.isAgg211
  z36 := Tryz.sizeOf211
  v36 := Tryz.zeroValue211
  i36 := by kernel_rfl
  t37 := Tryz.underlying159
  a37 := Tryz.isAgg159
  z37 := Tryz.sizeOf159
  v37 := Tryz.zeroValue159
  i37 := by kernel_rfl
  t39 := Tryz.underlying249
  a39 := Tryz.isAgg249
  z39 := Tryz.sizeOf249
  v39 := Tryz.zeroValue249
  i39 := by kernel_rfl
  t44 := Tryz.underlying309
  a44 := Tryz.isAgg309
  z44 := Tryz.sizeOf309
  v44 := Tryz.zeroValue309
  i44 := by kernel_rfl
  t47 := Tryz.underlying208
  a47 := Tryz.isAgg208
  z47 := Tryz.sizeOf208
  v47 := Tryz.zeroValue208
  i47 := by kernel_rfl
  t48 := Tryz.underlying326
  a48 := Tryz.isAgg326
  z48 := Tryz.sizeOf326
  v48 := Tryz.zeroValue326
  i48 := by kernel_rfl
  t50 := Tryz.underlying328
  a50 := Tryz.isAgg328
  z50 := Tryz.sizeOf328
  v50 := Tryz.zeroValue328
  i50 := by kernel_rfl
  t52 := Tryz.underlying255
  a52 := Tryz.isAgg255
  z52 := Tryz.sizeOf255
  v52 := Tryz.zeroValue255
  i52 := by kernel_rfl
  t55 := Tryz.underlying258
  a55 := Tryz.isAgg258
  z55 := Tryz.sizeOf258
  v55 := Tryz.zeroValue258
  i55 := by kernel_rfl
  t59 := Tryz.underlying313
  a59 := Tryz.isAgg313
  z59 := Tryz.sizeOf313
  v59 := Tryz.zeroValue313
  i59 := by kernel_rfl
  t60 := Tryz.underlying260
  a60 := Tryz.isAgg260
  z60 := Tryz.sizeOf260
  v60 := Tryz.zeroValue260
  i60 := by kernel_rfl
  t61 := Tryz.underlying314
  a61 := Tryz.isAgg314
  z61 := Tryz.sizeOf314
  t65 := Tryz.underlying334
  a65 := Tryz.isAgg334
  z65 := Tryz.sizeOf334
  v65 := Tryz.zeroValue334
  i65 := by kernel_rfl
  t66 := Tryz.underlying335
  a66 := Tryz.isAgg335
  z66 := Tryz.sizeOf335
  v66 := Tryz.zeroValue335
  i66 := by kernel_rfl
  t67 := Tryz.underlying165
  a67 := Tryz.isAgg165
  z67 := Tryz.sizeOf165
  v67 := Tryz.zeroValue165
  i67 := by kernel_rfl
  g0 := by kernel_rfl
  m0 := by kernel_rfl
  g1 := by kernel_rfl
  m1 := by kernel_rfl
  g2 := by kernel_rfl
  m2 := by kernel_rfl
  g3 := by kernel_rfl
  m3 := by kernel_rfl
  g4 := by kernel_rfl
  m4 := by kernel_rfl }
open Go.RowKit in
theorem Tryz.strconv_ParseUint_10_at64_ok (s : ByteArray) (hmax : s.size ≤ 9223372036854775806) (u : Nat) (h : Lib.parseUintB 64 s.data.toList = .ok u) (w : World) :
    Calls Tryz.prog 270 #[.string s, .int .i64 10, .int .i64 64] w fun e w' => e = .returned (.tuple #[.int .u64 u, .nilIface]) ∧ (w' = w ∨ w' = Lib.bytesWorld w 5 s) := Any.strconv_ParseUint_10_at64_ok Tryz.laysPu14 s hmax u h w
open Go.RowKit in
theorem Tryz.strconv_ParseUint_10_at64_range_var (s : ByteArray) (hlim : s.size ≤ 281474976710656) (h : Lib.parseUintB 64 s.data.toList = .range) (tp : TypeId) (p : Value) (w : World) (hvar : w.var? Tryz.prog "strconv.ErrRange" = some #[.iface tp p]) :
    Calls Tryz.prog 270 #[.string s, .int .i64 10, .int .i64 64] w fun e w' => ∃ N, e = .returned (.tuple #[.int .u64 18446744073709551615, .iface 249 (.pointer (some ⟨N, 0, none⟩))]) ∧ w.heap.size ≤ N ∧ w'.heap[N]? = some (.cells #[.string ⟨#[80, 97, 114, 115, 101, 85, 105, 110, 116]⟩, .string s, .iface tp p] 309 (0, 0)) ∧ Below w.heap.size w w' := Any.strconv_ParseUint_10_at64_range_var Tryz.laysPu14 s hlim h tp p w hvar
def Tryz.lays212_ren : Go.Shelf.Ren := ⟨fun | 212 => 167 | 263 => 208 | 264 => 209 | n => n, fun | 46 => 211 | 51 => 260 | 146 => 261 | 53 => 234 | 148 => 263 | n => n, fun | n => n⟩
theorem Tryz.lays212 : Go.Proofs.Lays.n212 Tryz.prog Tryz.lays212_ren := {
  mixed := by kernel_rfl
  f212 := Tryz.func167.trans (congrArg some (by kernel_rfl))
  f263 := Tryz.func208.trans (congrArg some (by kernel_rfl))
  f264 := Tryz.func209.trans (congrArg some (by kernel_rfl))
  t46 := Tryz.underlying211
  a46 := Tryz.isAgg211
  z46 := Tryz.sizeOf211
  v46 := Tryz.zeroValue211
  t51 := Tryz.underlying260
  a51 := Tryz.isAgg260
  z51 := Tryz.sizeOf260
  v51 := Tryz.zeroValue260
  t53 := Tryz.underlying234
  a53 := Tryz.isAgg234
  z53 := Tryz.sizeOf234
  v53 := Tryz.zeroValue234
  t146 := Tryz.underlying261
  a146 := Tryz.isAgg261
  z146 := Tryz.sizeOf261
  v146 := Tryz.zeroValue261
  t148 := Tryz.underlying263
  a148 := Tryz.isAgg263
  z148 := Tryz.sizeOf263
  v148 := Tryz.zeroValue263 }
open Go.RowKit Go.Lib in
theorem Tryz.bits_Mul (x y : Nat) (hx : x < 18446744073709551616) (hy : y < 18446744073709551616) (w : World) :
    Calls Tryz.prog 167 #[.int .u64 x, .int .u64 y] w fun e w' => e = .returned (.tuple #[.int .u64 ((x * y / 18446744073709551616 : Nat) : Int), .int .u64 ((x * y % 18446744073709551616 : Nat) : Int)]) ∧ w' = w := Any.bits_Mul Tryz.lays212 x y hx hy w
end Go.Proofs

/- The library's contracts, as the walks use them. -/
namespace Go.Proofs.YtlbhgejbfhhipaaGreatDoor
open Go Go.Am Go.Lib Go.Sp Z1 Z2 Z3 Z4 Z5 Z6
theorem frm_grow (w : World) (k : Nat) (os : Array Obj) : Frm (fun _ => False) w (Sort.grow (w.drewN k) os) := by
  refine ⟨rfl, rfl, rfl, ?_, fun b hb _ => ?_⟩
  · simp [Sort.grow, World.drewN]
  · simp only [Sort.grow, World.drewN]
    rw [Array.getElem?_append_left hb]
theorem itoa_ok (n : Int) (h0 : -9223372036854775808 ≤ n) (h1 : n ≤ 9223372036854775807) : OkP (laiOf Tryz.prog) Tryz.prog 69 [.v (.int .i64 n)] (.v (.string ⟨(itoa n).toArray⟩)) := by
  refine okp_plain (args := [.int .i64 n]) (enters_mk Tryz.func69 rfl rfl) trivial trivial (fun w hL _ => ?_)
  refine (Tryz.strconv_Itoa n h0 h1 w hL.1).mono (fun e w' h => ?_)
  obtain ⟨rfl, k, os, rfl⟩ := h
  exact ⟨_, rfl, V_v, frm_grow w k os⟩
theorem frm_bytes' {w w' : World} (h : w' = w ∨ ∃ t, w' = Lib.bytesWorld w 5 t) : Frm (fun _ => False) w w' := by
  rcases h with rfl | ⟨t, rfl⟩
  · exact Frm.refl _ _
  · exact frm_bytes _ _ _
/-- A tuple of two plain values. -/
theorem V_two {w : World} {F : Nat → Prop} {β : Bl} (x y : Value) : V w F β (.tup [.v x, .v y]) (.tuple #[x, y]) := by
  simp only [V]
  exact ⟨[x, y], rfl, Vl.cons V_v (Vl.one V_v)⟩
theorem V_err {w : World} {F : Nat → Prop} {β : Bl} (x : Value) (t : TypeId) (y : Value) : V w F β (.tup [.v x, .ifc]) (.tuple #[x, .iface t y]) := by
  simp only [V]
  exact ⟨[x, .iface t y], rfl, Vl.cons V_v (Vl.one (by simp only [V]; exact ⟨t, y, rfl⟩))⟩
theorem atoi_ok (s : ByteArray) (hs : s.size ≤ 9223372036854775806) (v : Int) (h : Lib.atoiAll s.data.toList = .ok v) : OkP (laiOf Tryz.prog) Tryz.prog 170 [.v (.string s)] (.tup [.v (.int .i64 v), .v .nilIface]) := by
  refine okp_plain (args := [.string s]) (enters_mk Tryz.func170 rfl rfl) ⟨trivial, trivial, trivial⟩ ⟨trivial, trivial, trivial⟩ (fun w hL _ => ?_)
  refine (Tryz.strconv_Atoi_ok s hs v h w).mono (fun e w' h => ?_)
  obtain ⟨rfl, h⟩ := h
  exact ⟨_, rfl, V_two _ _, frm_bytes' h⟩
theorem parseInt_ok (s : ByteArray) (hs : s.size ≤ 9223372036854775806) (v : Int) (h : Lib.parseIntB 64 s.data.toList = .ok v) : OkP (laiOf Tryz.prog) Tryz.prog 108 [.v (.string s), .v (.int .i64 10), .v (.int .i64 64)] (.tup [.v (.int .i64 v), .v .nilIface]) := by
  refine okp_plain (args := [.string s, .int .i64 10, .int .i64 64]) (enters_mk Tryz.func108 rfl rfl) ⟨trivial, trivial, trivial⟩ ⟨trivial, trivial, trivial⟩ (fun w hL _ => ?_)
  refine (Tryz.strconv_ParseInt_10_at64_ok s hs v h w).mono (fun e w' h => ?_)
  obtain ⟨rfl, h⟩ := h
  exact ⟨_, rfl, V_two _ _, frm_bytes' h⟩
theorem parseInt_range (s : ByteArray) (hs : s.size ≤ 281474976710656) (h : Lib.parseIntB 64 s.data.toList = .range) : OkP (laiOf Tryz.prog) Tryz.prog 108 [.v (.string s), .v (.int .i64 10), .v (.int .i64 64)] (.tup [.v (.int .i64 (Lib.intSat 64 s.data.toList)), .ifc]) := by
  refine okp_plain (args := [.string s, .int .i64 10, .int .i64 64]) (enters_mk Tryz.func108 rfl rfl) ⟨trivial, trivial, trivial⟩ ⟨trivial, trivial, trivial⟩ (fun w hL _ => ?_)
  obtain ⟨t, p, hv⟩ := hL.2.2
  refine (Tryz.strconv_ParseInt_10_at64_range_var s hs h t p w hv).mono (fun e w' h => ?_)
  obtain ⟨N, rfl, _, _, h⟩ := h
  exact ⟨_, rfl, V_err _ _ _, below_frm h⟩
theorem parseUint_ok (s : ByteArray) (hs : s.size ≤ 9223372036854775806) (v : Nat) (h : Lib.parseUintB 64 s.data.toList = .ok v) : OkP (laiOf Tryz.prog) Tryz.prog 270 [.v (.string s), .v (.int .i64 10), .v (.int .i64 64)] (.tup [.v (.int .u64 v), .v .nilIface]) := by
  refine okp_plain (args := [.string s, .int .i64 10, .int .i64 64]) (enters_mk Tryz.func270 rfl rfl) ⟨trivial, trivial, trivial⟩ ⟨trivial, trivial, trivial⟩ (fun w hL _ => ?_)
  refine (Tryz.strconv_ParseUint_10_at64_ok s hs v h w).mono (fun e w' h => ?_)
  obtain ⟨rfl, h⟩ := h
  exact ⟨_, rfl, V_two _ _, frm_bytes' (h.imp_right fun h => ⟨s, h⟩)⟩
theorem parseUint_range (s : ByteArray) (hs : s.size ≤ 281474976710656) (h : Lib.parseUintB 64 s.data.toList = .range) : OkP (laiOf Tryz.prog) Tryz.prog 270 [.v (.string s), .v (.int .i64 10), .v (.int .i64 64)] (.tup [.v (.int .u64 18446744073709551615), .ifc]) := by
  refine okp_plain (args := [.string s, .int .i64 10, .int .i64 64]) (enters_mk Tryz.func270 rfl rfl) ⟨trivial, trivial, trivial⟩ ⟨trivial, trivial, trivial⟩ (fun w hL _ => ?_)
  obtain ⟨t, p, hv⟩ := hL.2.2
  refine (Tryz.strconv_ParseUint_10_at64_range_var s hs h t p w hv).mono (fun e w' h => ?_)
  obtain ⟨N, rfl, _, _, h⟩ := h
  exact ⟨_, rfl, V_err _ _ _, below_frm h⟩
end Go.Proofs.YtlbhgejbfhhipaaGreatDoor

/- The library's FormatUint at base 10: the decimal numeral of a number below 2^64. -/
namespace Go.Proofs.YtlbhgejbfhhipaaGreatDoor
open Go Go.Am Go.Lib Go.Sp Go.RowKit Go.Sort Z1 Z2 Z3 Z4 Z5 Z6
theorem holds_zero' (w : World) (T : TypeId) (nd : Nat) (hs : nd ≤ 24) : Holds (fun (b : UInt8) => Value.int .u8 (b.toNat : Int)) (w.alloc (.cells zeros24 T)) w.heap.size 0 (Array.replicate nd (0 : UInt8)) := fun j hj => by
  have hj' : j < nd := by simpa using hj
  refine ⟨?_, World.frozen?_alloc_new _ _ _ _⟩
  rw [World.cell?_alloc_new, zeros24_at _ (by omega), getElem!_pos _ j hj]
  simp
set_option maxRecDepth 100000 in
theorem formatUint (u : Nat) (hu64 : u < 18446744073709551616) (w : World) (htab : Lib.TabIs Tryz.prog w "internal/strconv.uint64pow10" .u64 Lib.pow10Tab) :
    Calls Tryz.prog 271 #[.int .u64 u, .int .i64 10] w fun e w' => e = .returned (.string ⟨(Lib.decDigits u).toArray⟩) ∧ ∃ k os, w' = grow (w.drewN k) os := by
  have e204 : ∀ args w, (callFunc 204 args).run Tryz.prog w = .ok (.enter 204 args) w := enters_mk Tryz.func204 rfl rfl
  have e205 : ∀ args w, (callFunc 205 args).run Tryz.prog w = .ok (.enter 205 args) w := enters_mk Tryz.func205 rfl rfl
  have e206 : ∀ args w, (callFunc 206 args).run Tryz.prog w = .ok (.enter 206 args) w := enters_mk Tryz.func206 rfl rfl
  by_cases hi : u < 100
  · go_enter Tryz.func271, Tryz.ntmps271
    go_wp2_with (go_at_fn 204; refine (Tryz.internal_strconv_small u hi _).mono ?_; rintro e w' ⟨rfl, rfl⟩)
    go_ret
    exact ⟨rfl, 0, #[], by simp [World.drewN_zero]⟩
  · have hu1 : 1 ≤ u := by omega
    have hnd20 : Lib.nDigits u ≤ 20 := by have := Lib.numDigits_eq u hu1 hu64; split at this <;> omega
    have hal : Tryz.prog.arrayLen 255 = 24 := by simp [Program.arrayLen, Tryz.underlying255]
    have hsl1 : ∀ W, (Instr.sliceAt 255 (.pointer (some ⟨w.heap.size, 0, none⟩)) none (some (.int .i64 (Lib.nDigits u : Int))) none).run Tryz.prog W = .ok (.slice (some ⟨w.heap.size, 0, none⟩) (Lib.nDigits u) 24) W := fun W => by
      rw [run_sliceAt_array_h W 255 ⟨w.heap.size, 0, none⟩ (by simp [Program.arrayLen, Program.elem, Tryz.underlying255]) .i64 (Lib.nDigits u : Int) (by omega) (by rw [hal]; omega)]
      go_simp
    have hH0 := holds_zero' w 255 (Lib.nDigits u) (by omega)
    have hfmt := Tryz.internal_strconv_formatBase10 w.heap.size 0 24 u (Array.replicate (Lib.nDigits u) 0) (w.alloc (.cells Lib.zeros24 255)) hH0 (by rw [Array.size_replicate]; exact Lib.lt_pow_nDigits u) hu64 (by rw [Array.size_replicate]; omega)
    rw [Array.size_replicate] at hfmt
    have HH0 := Lib.hid hH0
    clear hH0 hal
    go_enter Tryz.func271, Tryz.ntmps271
    go_wp2_with (first
      | (go_at_fn 205; refine (Tryz.internal_strconv_numDigits u hu1 hu64 _ (Lib.tabIs_alloc htab _)).mono ?_; rintro e w' ⟨rfl, rfl⟩))
    go_at_fn 206
    refine hfmt.mono ?_
    rintro e w' ⟨rfl, k, v', dk, rfl, hF⟩
    have hcv : (convert 159 9 (.slice (some ⟨w.heap.size, 0, none⟩) (Lib.nDigits u) 24)).run Tryz.prog ((putRow (fun (b : UInt8) => Value.int .u8 (b.toNat : Int)) (w.alloc (.cells Lib.zeros24 255)) w.heap.size 0 dk).drewN k) = .ok (.string ⟨(Lib.decDigits u).toArray⟩) ((putRow (fun (b : UInt8) => Value.int .u8 (b.toNat : Int)) (w.alloc (.cells Lib.zeros24 255)) w.heap.size 0 dk).drewN k) := by
      have h := run_convert_bytes_back (P := Tryz.prog) ((putRow (fun (b : UInt8) => Value.int .u8 (b.toNat : Int)) (w.alloc (.cells Lib.zeros24 255)) w.heap.size 0 dk).drewN k) 159 9 5 ⟨w.heap.size, 0, none⟩ 24 (Lib.decDigits u) Tryz.underlying159 Tryz.underlying5 Tryz.underlying9 (fun j hj => by
        rw [Lib.row_is_numeral hF j hj, Lib.add_plain, World.cell?_drewN]
        exact cell?_putRow (fun (b : UInt8) => Value.int .u8 (b.toNat : Int)) _ w.heap.size 0 _ dk HH0.out (by rw [hF.size, Array.size_replicate]) j (by rw [hF.size]; rw [Lib.decDigits_length] at hj; exact hj))
      rw [Lib.decDigits_length] at h
      exact h
    go_wp2
    go_ret
    refine ⟨rfl, k, ?_⟩
    rw [alloc_eq_grow]
    obtain ⟨os', _, e⟩ := putRow_grow_new (fun (b : UInt8) => Value.int .u8 (b.toNat : Int)) w #[.cells Lib.zeros24 255] w.heap.size 0 dk (Nat.le_refl _)
    exact ⟨os', by rw [e]; rfl⟩
/-- The decimal numeral of a number, as a string. -/
def numS (n : Nat) : ByteArray := ⟨(Lib.decDigits n).toArray⟩
theorem formatUintP (n : Nat) (h : n < 18446744073709551616) : OkP (laiOf Tryz.prog) Tryz.prog 271 [.v (.int .u64 n), .v (.int .i64 10)] (.v (.string (numS n))) := by
  refine okp_plain (args := [.int .u64 n, .int .i64 10]) (enters_mk Tryz.func271 rfl rfl) trivial trivial (fun w hL _ => ?_)
  refine (formatUint n h w hL.1).mono (fun e w' h => ?_)
  obtain ⟨rfl, k, os, rfl⟩ := h
  exact ⟨_, rfl, V_v, frm_grow w k os⟩
theorem formatUint2 (n : Nat) (h : n < 18446744073709551616) : OkP (laiOf Tryz.prog) Tryz.prog 242 [.v (.int .u64 n), .v (.int .i64 10)] (.v (.string (numS n))) := by
  refine okp_intro hT 8 Tryz.func242 rfl rfl rfl (Nat.le_of_ble_eq_true rfl) trivial ?_
  intro w0 F0 I
  repeat (first|refine z2 ?_|refine z1 ?_|refine z3 ?_|refine z4 ?_|refine z5 ?_)
  refine al_call (formatUintP n h) rfl rfl rfl rfl (.cons (.refl trivial) (.cons (.refl trivial) .nil)) (.inl trivial) rfl rfl ?_
  repeat (first|refine z2 ?_|refine z1 ?_|refine z3 ?_|refine z4 ?_|refine z5 ?_)
  exact awp_ret ⟨.inl rfl, .refl trivial⟩
theorem of_ok (n : Nat) (h : n < 18446744073709551616) : OkP (laiOf Tryz.prog) Tryz.prog 190 [.v (.int .u64 n)] (.v (.string (numS n))) := by
  refine okp_intro hT 5 Tryz.func190 rfl rfl rfl (Nat.le_of_ble_eq_true rfl) trivial ?_
  intro w0 F0 I
  repeat (first|refine z2 ?_|refine z1 ?_|refine z3 ?_|refine z4 ?_|refine z5 ?_)
  refine al_call (formatUint2 n h) rfl rfl rfl rfl (.cons (.refl trivial) (.cons (.refl trivial) .nil)) (.inl trivial) rfl rfl ?_
  repeat (first|refine z2 ?_|refine z1 ?_|refine z3 ?_|refine z4 ?_|refine z5 ?_)
  exact awp_ret ⟨.inl rfl, .refl trivial⟩
end Go.Proofs.YtlbhgejbfhhipaaGreatDoor

/- Walks: small numbers as texts. -/
namespace Go.Proofs.YtlbhgejbfhhipaaGreatDoor
open Go Go.Am Go.Lib Go.Sp Z1 Z2 Z3 Z4 Z5 Z6
theorem numS_size (n : Nat) : (numS n).size = (decDigits n).length := by simp [numS, ByteArray.size]
theorem numS_list (n : Nat) : (numS n).data.toList = decDigits n := rfl
theorem numS_le {n k : Nat} (hk : 1 ≤ k) : (numS n).size ≤ k ↔ n < 10 ^ k := by rw [numS_size]; exact dec_len_le hk
/-- Decimal numbers whose texts are not too long for any machine. -/
def okN (n : Nat) : Prop := (numS n).size ≤ 3500000000000
theorem small64 (n : Nat) (h : okN n) : OkP (laiOf Tryz.prog) Tryz.prog 241 [.v (.string (numS n))] (.tup [.v (.int .u64 (if n < 18446744073709551616 then n else 0 : Nat)), .v (.bool (decide (n < 18446744073709551616)))]) := by
  refine okp_intro hT 14 Tryz.func241 rfl rfl rfl (Nat.le_of_ble_eq_true rfl) ⟨trivial, trivial, trivial⟩ ?_
  intro w0 F0 I
  unfold okN at h
  have hp := parseU_dec n
  by_cases hn : n < 18446744073709551616
  · rw [if_pos hn] at hp
    repeat (first|refine z2 ?_|refine z1 ?_|refine z3 ?_|refine z4 ?_|refine z5 ?_)
    refine zc (parseUint_ok (numS n) (by omega) n hp) ?_
    repeat (first|refine z2 ?_|refine z1 ?_|refine z3 ?_|refine z4 ?_|refine z5 ?_)
    refine awp_cond rfl (fun h => by cases h) (fun _ => ?_)
    repeat (first|refine z2 ?_|refine z1 ?_|refine z3 ?_|refine z4 ?_|refine z5 ?_)
    rw [if_pos hn, decide_eq_true hn]
    (exact awp_ret ⟨.inl rfl, ret_tup rfl (by repeat' (first | exact SubL.nil | (refine SubL.cons (.refl ?_) ?_; (focus (first | trivial | exact nrl_u64s _ | exact nr_rowS _ | exact nr_matS _ | exact nrl_i64s _ | exact nrl_rowsC _)))))⟩)
  · rw [if_neg hn] at hp
    repeat (first|refine z2 ?_|refine z1 ?_|refine z3 ?_|refine z4 ?_|refine z5 ?_)
    refine zc (parseUint_range (numS n) (by omega) hp) ?_
    repeat (first|refine z2 ?_|refine z1 ?_|refine z3 ?_|refine z4 ?_|refine z5 ?_)
    refine awp_cond rfl (fun _ => ?_) (fun h => by cases h)
    repeat (first|refine z2 ?_|refine z1 ?_|refine z3 ?_|refine z4 ?_|refine z5 ?_)
    rw [if_neg hn, decide_eq_false hn]
    (exact awp_ret ⟨.inl rfl, ret_tup rfl (by repeat' (first | exact SubL.nil | (refine SubL.cons (.refl ?_) ?_; (focus (first | trivial | exact nrl_u64s _ | exact nr_rowS _ | exact nr_matS _ | exact nrl_i64s _ | exact nrl_rowsC _)))))⟩)
theorem both_ok (a b : Nat) (ha : okN a) (hb : okN b) : OkP (laiOf Tryz.prog) Tryz.prog 189 [.v (.string (numS a)), .v (.string (numS b))] (.tup [.v (.int .u64 (if a < 10 ^ 18 ∧ b < 10 ^ 18 then a else 0 : Nat)), .v (.int .u64 (if a < 10 ^ 18 ∧ b < 10 ^ 18 then b else 0 : Nat)), .v (.bool (decide (a < 10 ^ 18 ∧ b < 10 ^ 18)))]) := by
  refine okp_intro hT 27 Tryz.func189 rfl rfl rfl (Nat.le_of_ble_eq_true rfl) ⟨trivial, trivial, trivial, trivial⟩ ?_
  intro w0 F0 I
  have la := numS_le (n := a) (k := 18) (by omega)
  have lb := numS_le (n := b) (k := 18) (by omega)
  have s1 := small64 a ha
  have s2 := small64 b hb
  unfold okN at ha hb
  by_cases hA : a < 10 ^ 18
  · by_cases hB : b < 10 ^ 18
    · have h1 := la.2 hA
      have h2 := lb.2 hB
      rw [if_pos (by omega), decide_eq_true (by omega)] at s1 s2
      have hdA : decide (((numS a).size : Int) > 18) = false := decide_eq_false (by omega)
      have hdB : decide (((numS b).size : Int) > 18) = false := decide_eq_false (by omega)
      rw [if_pos ⟨hA, hB⟩, if_pos ⟨hA, hB⟩, decide_eq_true (show a < 10 ^ 18 ∧ b < 10 ^ 18 from ⟨hA, hB⟩)]
      repeat (first|refine z2 ?_|refine z1 ?_|refine z3 ?_|refine z4 ?_|refine z5 ?_|refine z8 ?_|refine z9 ?_)
      refine awp_cond rfl (fun h => ?_) (fun _ => ?_)
      · rw [hdA, hdB] at h; cases h
      repeat (first|refine z2 ?_|refine z1 ?_|refine z3 ?_|refine z4 ?_|refine z5 ?_)
      refine zc (s1) ?_
      repeat (first|refine z2 ?_|refine z1 ?_|refine z3 ?_|refine z4 ?_|refine z5 ?_)
      refine zc (s2) ?_
      repeat (first|refine z2 ?_|refine z1 ?_|refine z3 ?_|refine z4 ?_|refine z5 ?_)
      (exact awp_ret ⟨.inl rfl, ret_tup rfl (by repeat' (first | exact SubL.nil | (refine SubL.cons (.refl ?_) ?_; (focus (first | trivial | exact nrl_u64s _ | exact nr_rowS _ | exact nr_matS _ | exact nrl_i64s _ | exact nrl_rowsC _)))))⟩)
    · have h1 := la.2 hA
      have h2 : ¬ (numS b).size ≤ 18 := fun h => hB (lb.1 h)
      have hdA : decide (((numS a).size : Int) > 18) = false := decide_eq_false (by omega)
      have hdB : decide (((numS b).size : Int) > 18) = true := decide_eq_true (by omega)
      rw [if_neg (fun h => hB h.2), if_neg (fun h => hB h.2), decide_eq_false (fun h => hB h.2)]
      repeat (first|refine z2 ?_|refine z1 ?_|refine z3 ?_|refine z4 ?_|refine z5 ?_|refine z8 ?_|refine z9 ?_)
      refine awp_cond rfl (fun _ => ?_) (fun h => ?_)
      · repeat (first|refine z2 ?_|refine z1 ?_|refine z3 ?_|refine z4 ?_|refine z5 ?_)
        (exact awp_ret ⟨.inl rfl, ret_tup rfl (by repeat' (first | exact SubL.nil | (refine SubL.cons (.refl ?_) ?_; (focus (first | trivial | exact nrl_u64s _ | exact nr_rowS _ | exact nr_matS _ | exact nrl_i64s _ | exact nrl_rowsC _)))))⟩)
      · rw [hdA, hdB] at h; cases h
  · have h1 : ¬ (numS a).size ≤ 18 := fun h => hA (la.1 h)
    have hdA : decide (((numS a).size : Int) > 18) = true := decide_eq_true (by omega)
    rw [if_neg (fun h => hA h.1), if_neg (fun h => hA h.1), decide_eq_false (fun h => hA h.1)]
    repeat (first|refine z2 ?_|refine z1 ?_|refine z3 ?_|refine z4 ?_|refine z5 ?_|refine z8 ?_|refine z9 ?_)
    refine al_pick rfl rfl rfl (v := decide (((numS a).size : Int) > 18)) (r := .v (.bool true)) (by rw [hdA]; rfl) rfl rfl ?_
    repeat (first|refine z2 ?_|refine z1 ?_|refine z3 ?_|refine z4 ?_|refine z5 ?_)
    refine awp_cond rfl (fun _ => ?_) (fun h => by cases h)
    repeat (first|refine z2 ?_|refine z1 ?_|refine z3 ?_|refine z4 ?_|refine z5 ?_)
    (exact awp_ret ⟨.inl rfl, ret_tup rfl (by repeat' (first | exact SubL.nil | (refine SubL.cons (.refl ?_) ?_; (focus (first | trivial | exact nrl_u64s _ | exact nr_rowS _ | exact nr_matS _ | exact nrl_i64s _ | exact nrl_rowsC _)))))⟩)
end Go.Proofs.YtlbhgejbfhhipaaGreatDoor

/- Walks: pieces of nine digits. -/
namespace Go.Proofs.YtlbhgejbfhhipaaGreatDoor
open Go Go.Am Go.Lib Go.Sp Z1 Z2 Z3 Z4 Z5 Z6
variable {Λ : Lai}
/-- The cells of pieces. -/
def u64s (l : List Nat) : List AV := l.map fun (n : Nat) => AV.v (.int .u64 (n : Int))
theorem u64s_at {l : List Nat} {i j : Nat} (h : i = j) (hj : j < l.length) : (u64s l)[i]? = some (.v (.int .u64 (l.getD j 0 : Nat))) := by
  subst h; simp [u64s, hj]
set_option maxRecDepth 10000 in
theorem trim_ok (l : List Nat) (hl : l.length ≤ 1000000000000) : OkW Λ Tryz.prog 193 [.ref 0 0 1 0 l.length] ⟨[], [(0, [⟨1, u64s l⟩])], 1⟩ (.ref 0 0 1 0 (trimL l).length) ⟨[], [(0, [⟨1, u64s (trimL l)⟩])], 1⟩ := by
  refine okw_intro hT 21 Tryz.func193 rfl rfl rfl (Nat.le_of_ble_eq_true rfl) (Nat.le_refl _) ?_
  intro w0 F0 I β0 hβ
  repeat (first|refine z2 ?_|refine z1 ?_|refine z3 ?_|refine z4 ?_|refine z5 ?_)
  refine awp_loop (fun k : { k : Nat // k ≤ l.length ∧ trimN l l.length = trimN l k } => ⟨[(0, .ref 0 0 1 0 k.1)], [(0, [⟨1, u64s l⟩])], 1⟩) (fun k => k.1) ⟨l.length, Nat.le_refl _, rfl⟩ (le_sub ⟨rfl, trivial⟩ rfl rfl) ?_
  rintro ⟨k, hk, ht⟩
  have fin : trimN l k = k → (trimL l).length = k ∧ u64s (trimL l) = (u64s l).take k := fun h => by
    have e : trimN l l.length = k := by rw [ht, h]
    unfold trimL
    rw [e]
    exact ⟨by rw [List.length_take]; omega, by simp [u64s, List.map_take]⟩
  simp only
  by_cases h0 : k = 0
  · obtain ⟨f1, f2⟩ := fin (by subst h0; rfl)
    repeat (first|refine z2 ?_|refine z1 ?_|refine z3 ?_|refine z4 ?_|refine z5 ?_|refine z6 ?_|refine z7 ?_)
    refine al_pick rfl rfl rfl (v := decide ((k:Int) > 0)) (r := .v (.bool false)) (by subst h0; rfl) rfl rfl ?_
    repeat (first|refine z2 ?_|refine z1 ?_|refine z3 ?_|refine z4 ?_|refine z5 ?_)
    refine awp_cond rfl (fun h => by cases h) (fun _ => ?_)
    repeat (first|refine z2 ?_|refine z1 ?_|refine z3 ?_|refine z4 ?_|refine z5 ?_)
    refine awp_ret ⟨.inl rfl, _, le_trunc (g := 0) (t := 0) (k := k) rfl, ?_, ?_, rfl⟩
    · rw [f1]; rfl
    · rw [f2]; rfl
  · repeat (first|refine z2 ?_|refine z1 ?_|refine z3 ?_|refine z4 ?_|refine z5 ?_|refine z6 ?_|refine z7 ?_)
    refine al_on hT rfl rfl rfl (by first | (rw [hdA]; rfl) | (rw [hdB]; rfl) | rfl | exact decide_eq_true (by omega) | exact decide_eq_false (by omega) | (simp [eqb]; done) | (simp [eqb]; omega)) (pure_load_adr rfl rfl rfl rfl (u64s_at (j := k - 1) (by omega) (by omega))) rfl rfl True.intro ?_
    repeat (first|refine z2 ?_|refine z1 ?_|refine z3 ?_|refine z4 ?_|refine z5 ?_|refine z6 ?_|refine z7 ?_)
    refine awp_cond rfl (fun h => ?_) (fun h => ?_)
    · repeat (first|refine z2 ?_|refine z1 ?_|refine z3 ?_|refine z4 ?_|refine z5 ?_)
      have hz : l.getD (k - 1) 0 = 0 := by rw [decide_eq_true (by omega)] at h; simpa using h
      refine ⟨⟨k - 1, by omega, ?_⟩, le_sub ⟨?_, trivial⟩ rfl rfl, by show k - 1 < k; omega⟩
      · rw [ht]
        obtain ⟨m, rfl⟩ : ∃ m, k = m + 1 := ⟨k - 1, by omega⟩
        rw [Nat.add_sub_cancel] at hz
        rw [trimN, if_pos hz]
        rfl
      · show some _ = some (AV.ref 0 0 1 0 (k - 1))
        rw [show k - 1 = ((k : Int) - 1 - 0).toNat by omega]
        rfl
    · obtain ⟨f1, f2⟩ := fin (by
        rw [decide_eq_true (by omega)] at h
        obtain ⟨m, rfl⟩ : ∃ m, k = m + 1 := ⟨k - 1, by omega⟩
        have hz : ¬ l.getD m 0 = 0 := fun e => by
          simp only [cond_true, Nat.add_sub_cancel, e] at h
          cases h
        rw [trimN, if_neg hz])
      repeat (first|refine z2 ?_|refine z1 ?_|refine z3 ?_|refine z4 ?_|refine z5 ?_)
      refine awp_ret ⟨.inl rfl, _, le_trunc (g := 0) (t := 0) (k := k) rfl, ?_, ?_, rfl⟩
      · rw [f1]; rfl
      · rw [f2]; rfl
theorem u64s_zero (n : Nat) : zeroRep [Value.int .u64 0] n = u64s (List.replicate n 0) := by
  unfold zeroRep u64s
  simp
theorem u64s_set (l : List Nat) (i : Nat) (v : Nat) : setAll (u64s l) i [AV.v (.int .u64 (v : Int))] = u64s (l.set i v) := by
  simp [setAll, u64s, List.map_set]
theorem u64s_drop {l : List Nat} {i j : Nat} (h : i = j) (hj : j < l.length) : ((u64s l).drop i)[0]? = some (.v (.int .u64 (l.getD j 0 : Nat))) := by
  subst h; simp [u64s, hj]
theorem nrl_u64s (l : List Nat) : nrl (u64s l) := nrl_v _ l
theorem hfl_u64s (l : List Nat) : hfl (u64s l) := hfl_v _ l
theorem u64s_len (l : List Nat) : (u64s l).length = l.length := by simp [u64s]
theorem times_last (S V c Q M O a T P : Nat) (hs : S + 0 * M = V + c * M) (hov : V + c * M = O + a * Q * P) (hO : O = T * Q) : S = (T + a * P) * Q := by
  grind
theorem times_step (S V x M r qd c O a T b P K Bv : Nat) (hs : S + x * M = V + r * M) (hd : r + Bv * qd = c + (x + a * b)) (hov : V + c * M = O + a * T * P) (hM : M = P * K) : S + qd * (M * Bv) = O + a * (T + b * K) * P := by
  grind
set_option maxRecDepth 10000 in
theorem times_ok (p q : List Nat) (hp : pcs p) (hq : pcs q) (hl : p.length + q.length ≤ 1000000000000) : OkW Λ Tryz.prog 196 [.sl 1 p.length (u64s p), .sl 1 q.length (u64s q)] ⟨[], [], 0⟩ (.ref 0 0 1 0 (dp (vp p * vp q)).length) ⟨[], [(0, [⟨1, u64s (dp (vp p * vp q))⟩])], 1⟩ := by
  refine okw_intro hT 63 Tryz.func196 rfl rfl rfl (Nat.le_of_ble_eq_true rfl) (Nat.zero_le _) ?_
  intro w0 F0 I β0 hβ
  repeat (first|refine z2 ?_|refine z1 ?_|refine z3 ?_|refine z4 ?_|refine z5 ?_)
  refine al_make hT rfl rfl rfl rfl rfl rfl rfl rfl rfl rfl (by omega) (by omega) (by show (8 : Int) * _ ≤ _; omega) (by omega) ?_
  repeat (first|refine z2 ?_|refine z1 ?_|refine z3 ?_|refine z4 ?_|refine z5 ?_)
  have e0 : ((p.length : Int) + (q.length : Int)).toNat = p.length + q.length := by omega
  refine awp_loop (fun x : { x : Nat × List Nat // x.1 ≤ p.length ∧ x.2.length = p.length + q.length ∧ pcs x.2 ∧ vp x.2 = vp (p.take x.1) * vp q ∧ ∀ j, x.1 + q.length ≤ j → x.2.getD j 0 = 0 } => ⟨[(0, .sl 1 p.length (u64s p)), (1, .sl 1 q.length (u64s q)), (5, .ref 0 0 1 0 (p.length + q.length)), (17, .sl 1 p.length (u64s p)), (18, .v (.int .i64 p.length)), (19, .v (.int .i64 x.1.1))], [(0, [⟨1, u64s x.1.2⟩])], 1⟩) (fun x => p.length - x.1.1)
    ⟨(0, List.replicate (p.length + q.length) 0), Nat.zero_le _, by simp, fun d hd => by rw [List.eq_of_mem_replicate hd]; unfold B; omega, by rw [vp_zeros (fun d hd => List.eq_of_mem_replicate hd)]; simp [vp], fun j _ => by rw [List.getD_eq_getElem?_getD, List.getElem?_replicate]; split <;> rfl⟩ ?_ ?_
  · refine le_sub ⟨rfl, rfl, ?_, rfl, rfl, rfl, trivial⟩ ?_ rfl
    · show some (AV.ref 0 0 1 0 _) = some (AV.ref 0 0 1 0 (p.length + q.length)); rw [← e0]
    · show [(0, [Row.mk 1 (u64s (List.replicate (p.length + q.length) 0))])] = _
      rw [← u64s_zero, ← e0]; rfl
  rintro ⟨⟨i, o⟩, hi, hol, hop, hov, hoz⟩
  simp only at hi hol hop hov hoz ⊢
  repeat (first|refine z2 ?_|refine z1 ?_|refine z3 ?_|refine z4 ?_|refine z5 ?_)
  refine awp_cond rfl (fun h => ?_) (fun h => ?_)
  · have hlt : i < p.length := by have := of_decide_eq_true h; omega
    repeat (first|refine z2 ?_|refine z1 ?_|refine z3 ?_|refine z4 ?_|refine z5 ?_)
    refine al_pure hT rfl (pure_load_pt rfl rfl rfl (u64s_drop (j := i) (by omega) hlt)) rfl rfl True.intro ?_
    repeat (first|refine z2 ?_|refine z1 ?_|refine z3 ?_|refine z4 ?_|refine z5 ?_)
    have ha : p.getD i 0 < B := pcs_get hp i
    refine awp_loop (fun y : { y : Nat × Nat × List Nat // y.1 ≤ q.length ∧ y.2.1 < B ∧ y.2.2.length = p.length + q.length ∧ pcs y.2.2 ∧ vp y.2.2 + y.2.1 * B ^ (i + y.1) = vp o + p.getD i 0 * vp (q.take y.1) * B ^ i ∧ ∀ j, i + y.1 ≤ j → y.2.2.getD j 0 = o.getD j 0 } => ⟨[(0, .sl 1 p.length (u64s p)), (1, .sl 1 q.length (u64s q)), (5, .ref 0 0 1 0 (p.length + q.length)), (17, .sl 1 p.length (u64s p)), (18, .v (.int .i64 p.length)), (19, .v (.int .i64 i)), (6, .v (.int .i64 i)), (7, .v (.int .u64 (p.getD i 0 : Nat))), (8, .v (.int .u64 y.1.2.1)), (24, .sl 1 q.length (u64s q)), (25, .v (.int .i64 q.length)), (26, .v (.int .i64 y.1.1))], [(0, [⟨1, u64s y.1.2.2⟩])], 1⟩) (fun y => q.length - y.1.1)
      ⟨(0, 0, o), Nat.zero_le _, by show 0 < B; unfold B; omega, hol, hop, by simp [vp], fun j _ => rfl⟩ ?_ ?_
    · exact le_sub ⟨rfl, rfl, rfl, rfl, rfl, rfl, rfl, rfl, rfl, rfl, rfl, rfl, trivial⟩ rfl rfl
    rintro ⟨⟨k, c, o'⟩, hk, hc, hol', hop', hov', hoz'⟩
    simp only at hk hc hol' hop' hov' hoz' ⊢
    repeat (first|refine z2 ?_|refine z1 ?_|refine z3 ?_|refine z4 ?_|refine z5 ?_)
    refine awp_cond rfl (fun h2 => ?_) (fun h2 => ?_)
    · have hlt2 : k < q.length := by have := of_decide_eq_true h2; omega
      have hb : q.getD k 0 < B := pcs_get hq k
      have hx : o'.getD (i + k) 0 < B := pcs_get hop' _
      have hab : p.getD i 0 * q.getD k 0 ≤ (B - 1) * (B - 1) := Nat.mul_le_mul (by omega) (by omega)
      have hab2 : ((p.getD i 0 : Nat) : Int) * ((q.getD k 0 : Nat) : Int) ≤ 999999998000000001 := by rw [← Int.natCast_mul]; unfold B at hab; omega
      have hab3 : 0 ≤ ((p.getD i 0 : Nat) : Int) * ((q.getD k 0 : Nat) : Int) := by rw [← Int.natCast_mul]; omega
      unfold B at hc hx
      repeat (first|refine z2 ?_|refine z1 ?_|refine z3 ?_|refine z4 ?_|refine z5 ?_)
      refine al_pure hT rfl (pure_load_pt rfl rfl rfl (u64s_drop (j := k) (by omega) hlt2)) rfl rfl True.intro ?_
      repeat (first|refine z2 ?_|refine z1 ?_|refine z3 ?_|refine z4 ?_|refine z5 ?_)
      refine al_pure hT rfl (pure_load_adr rfl rfl rfl rfl (u64s_at (j := i + k) (by omega) (by omega))) rfl rfl True.intro ?_
      repeat (first|refine z2 ?_|refine z1 ?_|refine z3 ?_|refine z4 ?_|refine z5 ?_)
      have htd : 0 ≤ ((c : Int) + ((o'.getD (i + k) 0 : Nat) + ((p.getD i 0 : Nat) : Int) * ((q.getD k 0 : Nat) : Int))).tdiv 1000000000 ∧ ((c : Int) + ((o'.getD (i + k) 0 : Nat) + ((p.getD i 0 : Nat) : Int) * ((q.getD k 0 : Nat) : Int))).tdiv 1000000000 ≤ 18446744073709551615 := by
        rw [Int.tdiv_eq_ediv_of_nonneg (by omega)]; omega
      refine al_store hT rfl rfl rfl rfl rfl rfl rfl rfl rfl (by show (0 * 1 + ((i : Int) + (k : Int)).toNat * 1) + 1 ≤ (u64s o').length; rw [u64s_len]; omega) (by intro x hx; simp only [List.mem_singleton] at hx; subst hx; rfl) ?_
      repeat (first|refine z2 ?_|refine z1 ?_|refine z3 ?_|refine z4 ?_|refine z5 ?_)
      have et : (c : Int) + ((o'.getD (i + k) 0 : Nat) + ((p.getD i 0 : Nat) : Int) * ((q.getD k 0 : Nat) : Int)) = ((c + (o'.getD (i + k) 0 + p.getD i 0 * q.getD k 0) : Nat) : Int) := by
        rw [Int.natCast_add, Int.natCast_add, Int.natCast_mul]
      have hs := vp_set (l := o') (i := i + k) ((c + (o'.getD (i + k) 0 + p.getD i 0 * q.getD k 0)) % B) (by omega)
      have ht := vp_take (l := q) (k := k) hlt2
      have hd := Nat.mod_add_div (c + (o'.getD (i + k) 0 + p.getD i 0 * q.getD k 0)) B
      refine ⟨⟨(k + 1, (c + (o'.getD (i + k) 0 + p.getD i 0 * q.getD k 0)) / B, o'.set (i + k) ((c + (o'.getD (i + k) 0 + p.getD i 0 * q.getD k 0)) % B)), hlt2, ?_, by simpa using hol', pcs_set hop' (Nat.mod_lt _ (by unfold B; omega)), ?_, ?_⟩, le_sub ⟨rfl, rfl, rfl, rfl, rfl, rfl, rfl, rfl, ?_, rfl, rfl, rfl, trivial⟩ ?_ rfl, by show q.length - (k + 1) < q.length - k; omega⟩
      · show _ / B < B
        unfold B at *
        omega
      · have hm : B ^ (i + k) = B ^ i * B ^ k := Nat.pow_add B i k
        show vp (o'.set _ _) + _ * (B ^ (i + k) * B) = vp o + _ * vp (List.take (k + 1) q) * B ^ i
        rw [ht]
        exact times_step _ _ _ _ _ _ _ _ _ _ _ _ _ _ hs hd hov' hm
      · intro j hj
        show (o'.set _ _).getD j 0 = _
        rw [List.getD_eq_getElem?_getD, List.getElem?_set_ne (by simp only at hj; omega), ← List.getD_eq_getElem?_getD]
        exact hoz' j (by simp only at hj; omega)
      · show some (AV.v (.int .u64 (((c : Int) + ((o'.getD (i + k) 0 : Nat) + ((p.getD i 0 : Nat) : Int) * ((q.getD k 0 : Nat) : Int))).tdiv 1000000000))) = _
        rw [et]
        rfl
      · show _ = [(0, [Row.mk 1 (setAll (u64s o') (0 * 1 + ((i : Int) + (k : Int)).toNat * 1) [AV.v (.int .u64 (((c : Int) + ((o'.getD (i + k) 0 : Nat) + ((p.getD i 0 : Nat) : Int) * ((q.getD k 0 : Nat) : Int))).tmod 1000000000))])])]
        rw [et, show 0 * 1 + ((i : Int) + (k : Int)).toNat * 1 = i + k by omega, ← u64s_set]
        rfl
    · have hkq : k = q.length := by have := of_decide_eq_false h2; omega
      subst hkq
      repeat (first|refine z2 ?_|refine z1 ?_|refine z3 ?_|refine z4 ?_|refine z5 ?_)
      refine al_store hT rfl rfl rfl rfl rfl rfl rfl rfl rfl (by show (0 * 1 + ((i : Int) + (q.length : Int)).toNat * 1) + 1 ≤ (u64s o').length; rw [u64s_len]; omega) (by intro x hx; simp only [List.mem_singleton] at hx; subst hx; rfl) ?_
      repeat (first|refine z2 ?_|refine z1 ?_|refine z3 ?_|refine z4 ?_|refine z5 ?_)
      have hz : o'.getD (i + q.length) 0 = 0 := by rw [hoz' _ (Nat.le_refl _)]; exact hoz _ (Nat.le_refl _)
      have hs := vp_set (l := o') (i := i + q.length) c (by omega)
      rw [hz] at hs
      rw [List.take_length] at hov'
      refine ⟨⟨(i + 1, o'.set (i + q.length) c), hlt, by simpa using hol', pcs_set hop' hc, ?_, ?_⟩, le_sub ⟨rfl, rfl, rfl, rfl, rfl, rfl, trivial⟩ ?_ rfl, by show p.length - (i + 1) < p.length - i; omega⟩
      · show vp (o'.set _ _) = vp (List.take (i + 1) p) * vp q
        rw [vp_take hlt]
        exact times_last _ _ _ _ _ _ _ _ _ hs hov' hov
      · intro j hj
        show (o'.set _ _).getD j 0 = 0
        rw [List.getD_eq_getElem?_getD, List.getElem?_set_ne (by simp only at hj; omega), ← List.getD_eq_getElem?_getD, hoz' j (by simp only at hj; omega)]
        exact hoz j (by simp only at hj; omega)
      · show _ = [(0, [Row.mk 1 (setAll (u64s o') (0 * 1 + ((i : Int) + (q.length : Int)).toNat * 1) [AV.v (.int .u64 (c : Int))])])]
        rw [show 0 * 1 + ((i : Int) + (q.length : Int)).toNat * 1 = i + q.length by omega, ← u64s_set]
  · have hip : i = p.length := by have := of_decide_eq_false h; omega
    subst hip
    have htr : trimL o = dp (vp p * vp q) := by rw [trim_eq hop, hov, List.take_length]
    have htrim : OkW Λ Tryz.prog 193 [.ref 0 0 1 0 (p.length + q.length)] ⟨[], [(0, [⟨1, u64s o⟩])], 1⟩ (.ref 0 0 1 0 (trimL o).length) ⟨[], [(0, [⟨1, u64s (trimL o)⟩])], 1⟩ := by rw [← hol]; exact trim_ok o (by omega)
    repeat (first|refine z2 ?_|refine z1 ?_|refine z3 ?_|refine z4 ?_|refine z5 ?_)
    refine al_callw (fun g t => some (g, t)) [(0, [⟨1, u64s (trimL o)⟩])] 1 (.ref 0 0 1 0 (trimL o).length) htrim rfl rfl rfl rfl rfl (.cons (.ref rfl Nat.zero_lt_one) .nil) (hand_ren ⟨⟨⟨Nat.zero_lt_one, .inr ⟨0, 0, _, rfl, rfl, rfl, WkL.refl (nrl_u64s o)⟩⟩, trivial⟩, trivial⟩ rfl (fun g' t' g t h e => by simp only [Option.some.injEq, Prod.mk.injEq] at e; rw [← e.1]; exact h)) rfl rfl rfl
      (back_ren ⟨⟨.inl ⟨0, 0, _, rfl, rfl, Nat.zero_lt_one, rfl, RnL.refl (hfl_u64s _)⟩, trivial⟩, trivial⟩) (.ref rfl Nat.zero_lt_one) ?_
    repeat (first|refine z2 ?_|refine z1 ?_|refine z3 ?_|refine z4 ?_|refine z5 ?_)
    refine awp_ret ⟨.inl rfl, _, Le.refl _ _, ?_, ?_, rfl⟩
    · rw [← htr]; rfl
    · rw [← htr]; rfl
theorem small_step (V W N r d O q r' Bv : Nat) (hV : V = d + Bv * W) (hW : W = N * O + r) (hd : r' + N * q = r * Bv + d) : V = N * (q + Bv * O) + r' := by
  grind
set_option maxRecDepth 10000 in
theorem small_ok (p : List Nat) (n : Nat) (hp : pcs p) (hn : 0 < n) (hnB : n ≤ B) (hl : p.length ≤ 1000000000000) : OkW Λ Tryz.prog 212 [.sl 1 p.length (u64s p), .v (.int .u64 n)] ⟨[], [], 0⟩ (.tup [.ref 0 0 1 0 (dp (vp p / n)).length, .v (.int .u64 (vp p % n : Nat))]) ⟨[], [(0, [⟨1, u64s (dp (vp p / n))⟩])], 1⟩ := by
  refine okw_intro hT 38 Tryz.func212 rfl rfl rfl (Nat.le_of_ble_eq_true rfl) (Nat.zero_le _) ?_
  intro w0 F0 I β0 hβ
  repeat (first|refine z2 ?_|refine z1 ?_|refine z3 ?_|refine z4 ?_|refine z5 ?_)
  refine al_make hT rfl rfl rfl rfl rfl rfl rfl rfl rfl rfl (by omega) (by omega) (by show (8 : Int) * _ ≤ _; omega) (by omega) ?_
  repeat (first|refine z2 ?_|refine z1 ?_|refine z3 ?_|refine z4 ?_|refine z5 ?_)
  refine awp_loop (fun x : { x : Nat × List Nat × Nat // x.1 ≤ p.length ∧ x.2.1.length = p.length ∧ pcs x.2.1 ∧ x.2.2 < n ∧ vp (p.drop x.1) = n * vp (x.2.1.drop x.1) + x.2.2 } => ⟨[(0, .sl 1 p.length (u64s p)), (1, .v (.int .u64 n)), (6, .ref 0 0 1 0 p.length), (7, .v (.int .u64 x.1.2.2)), (8, .v (.int .i64 ((x.1.1 : Int) - 1)))], [(0, [⟨1, u64s x.1.2.1⟩])], 1⟩) (fun x => x.1.1)
    ⟨(p.length, List.replicate p.length 0, 0), Nat.le_refl _, by simp, fun d hd => by rw [List.eq_of_mem_replicate hd]; unfold B; omega, hn, by simp [vp]⟩ ?_ ?_
  · refine le_sub ⟨rfl, rfl, rfl, rfl, rfl, trivial⟩ ?_ rfl
    show [(0, [Row.mk 1 (u64s (List.replicate p.length 0))])] = _
    rw [← u64s_zero]; rfl
  rintro ⟨⟨k, o, r⟩, hk, hol, hop, hr, hv⟩
  simp only at hk hol hop hr hv ⊢
  repeat (first|refine z2 ?_|refine z1 ?_|refine z3 ?_|refine z4 ?_|refine z5 ?_)
  refine awp_cond rfl (fun h => ?_) (fun h => ?_)
  · have hk0 : 0 < k := by have := of_decide_eq_true h; omega
    obtain ⟨i, rfl⟩ : ∃ i, k = i + 1 := ⟨k - 1, by omega⟩
    have hd : p.getD i 0 < B := pcs_get hp i
    have hBv : B = 1000000000 := rfl
    have hX : ((r : Int) * 1000000000 + (p.getD i 0 : Nat)) = ((r * B + p.getD i 0 : Nat) : Int) := by rw [hBv]; omega
    have hq : (r * B + p.getD i 0) / n < B := by
      rw [Nat.div_lt_iff_lt_mul hn]
      have : (r + 1) * B ≤ n * B := Nat.mul_le_mul_right _ hr
      rw [Nat.add_mul] at this
      rw [Nat.mul_comm B n]
      omega
    have htd : 0 ≤ ((r : Int) * 1000000000 + (p.getD i 0 : Nat)).tdiv (n : Int) ∧ ((r : Int) * 1000000000 + (p.getD i 0 : Nat)).tdiv (n : Int) ≤ 18446744073709551615 := by
      rw [hX]
      exact ⟨Int.natCast_nonneg ((r * B + p.getD i 0) / n), Int.ofNat_le.2 (show (r * B + p.getD i 0) / n ≤ 18446744073709551615 from Nat.le_trans (Nat.le_of_lt hq) (by rw [hBv]; decide))⟩
    repeat (first|refine z2 ?_|refine z1 ?_|refine z3 ?_|refine z4 ?_|refine z5 ?_)
    refine al_pure hT rfl (pure_load_pt rfl rfl rfl (u64s_drop (j := i) (by omega) (by omega))) rfl rfl True.intro ?_
    repeat (first|refine z2 ?_|refine z1 ?_|refine z3 ?_|refine z4 ?_|refine z5 ?_)
    refine al_store hT rfl rfl rfl rfl rfl rfl rfl rfl rfl (by show (0 * 1 + ((i : Int) + 1 - 1).toNat * 1) + 1 ≤ (u64s o).length; rw [u64s_len]; omega) (by intro x hx; simp only [List.mem_singleton] at hx; subst hx; rfl) ?_
    repeat (first|refine z2 ?_|refine z1 ?_|refine z3 ?_|refine z4 ?_|refine z5 ?_)
    refine ⟨⟨(i, o.set i ((r * B + p.getD i 0) / n), (r * B + p.getD i 0) % n), by omega, by simpa using hol, pcs_set hop hq, Nat.mod_lt _ hn, ?_⟩, le_sub ⟨rfl, rfl, rfl, ?_, ?_, trivial⟩ ?_ rfl, by show i < i + 1; omega⟩
    · show vp (p.drop i) = n * vp ((o.set i _).drop i) + _
      rw [vp_drop (by omega), drop_set (by omega), vp]
      exact small_step _ _ _ _ _ _ _ _ _ rfl hv (Nat.mod_add_div _ _)
    · show some (AV.v (.int .u64 (((r : Int) * 1000000000 + (p.getD i 0 : Nat)).tmod (n : Int)))) = _
      rw [hX]; rfl
    · show some (AV.v (.int .i64 (((i + 1 : Nat) : Int) - 1 - 1))) = some (AV.v (.int .i64 ((i : Int) - 1)))
      congr 3
      omega
    · show _ = [(0, [Row.mk 1 (setAll (u64s o) (0 * 1 + (((i + 1 : Nat) : Int) - 1).toNat * 1) [AV.v (.int .u64 (((r : Int) * 1000000000 + (p.getD i 0 : Nat)).tdiv (n : Int)))])])]
      rw [hX, show 0 * 1 + (((i + 1 : Nat) : Int) - 1).toNat * 1 = i by omega]
      show [(0, [Row.mk 1 (u64s (o.set i ((r * B + p.getD i 0) / n)))])] = _
      rw [← u64s_set]
      rfl
  · have hk0 : k = 0 := by have := of_decide_eq_false h; omega
    subst hk0
    simp only [List.drop_zero] at hv
    have hdv : vp o = vp p / n := by rw [hv, Nat.mul_add_div hn, Nat.div_eq_of_lt hr, Nat.add_zero]
    have hmd : r = vp p % n := by rw [hv, Nat.mul_add_mod, Nat.mod_eq_of_lt hr]
    have htr : trimL o = dp (vp p / n) := by rw [trim_eq hop, hdv]
    have htrim : OkW Λ Tryz.prog 193 [.ref 0 0 1 0 p.length] ⟨[], [(0, [⟨1, u64s o⟩])], 1⟩ (.ref 0 0 1 0 (trimL o).length) ⟨[], [(0, [⟨1, u64s (trimL o)⟩])], 1⟩ := by rw [← hol]; exact trim_ok o (by omega)
    repeat (first|refine z2 ?_|refine z1 ?_|refine z3 ?_|refine z4 ?_|refine z5 ?_)
    refine al_callw (fun g t => some (g, t)) [(0, [⟨1, u64s (trimL o)⟩])] 1 (.ref 0 0 1 0 (trimL o).length) htrim rfl rfl rfl rfl rfl (.cons (.ref rfl Nat.zero_lt_one) .nil) (hand_ren ⟨⟨⟨Nat.zero_lt_one, .inr ⟨0, 0, _, rfl, rfl, rfl, WkL.refl (nrl_u64s o)⟩⟩, trivial⟩, trivial⟩ rfl (fun g' t' g t h e => by simp only [Option.some.injEq, Prod.mk.injEq] at e; rw [← e.1]; exact h)) rfl rfl rfl
      (back_ren ⟨⟨.inl ⟨0, 0, _, rfl, rfl, Nat.zero_lt_one, rfl, RnL.refl (hfl_u64s _)⟩, trivial⟩, trivial⟩) (.ref rfl Nat.zero_lt_one) ?_
    repeat (first|refine z2 ?_|refine z1 ?_|refine z3 ?_|refine z4 ?_|refine z5 ?_)
    refine awp_ret ⟨.inl rfl, _, Le.refl _ _, ?_, ?_, rfl⟩
    · rw [← htr, ← hmd]; rfl
    · rw [← htr]; rfl
end Go.Proofs.YtlbhgejbfhhipaaGreatDoor

/- Walks: pieces of nine digits, second part. -/
namespace Go.Proofs.YtlbhgejbfhhipaaGreatDoor
open Go Go.Am Go.Lib Go.Sp Z1 Z2 Z3 Z4 Z5 Z6
variable {Λ : Lai}
set_option maxRecDepth 10000 in
theorem back_ok (p q : List Nat) (m : Nat) (hp : pcs p) (hq : pcs q) (hm : m + q.length < p.length) (hl : p.length ≤ 2000000000000) : OkW Λ Tryz.prog 192 [.ref 0 0 1 0 p.length, .sl 1 q.length (u64s q), .v (.int .i64 m)] ⟨[], [(0, [⟨1, u64s p⟩])], 1⟩ (.tup []) ⟨[], [(0, [⟨1, u64s (backR p q m (q.length + 1)).1⟩])], 1⟩ := by
  refine okw_intro hT 41 Tryz.func192 rfl rfl rfl (Nat.le_of_ble_eq_true rfl) (Nat.le_refl _) ?_
  intro w0 F0 I β0 hβ
  repeat (first|refine z2 ?_|refine z1 ?_|refine z3 ?_|refine z4 ?_|refine z5 ?_)
  refine awp_loop (fun x : { x : Nat // x ≤ q.length + 1 } => ⟨[(0, .ref 0 0 1 0 p.length), (1, .sl 1 q.length (u64s q)), (2, .v (.int .i64 m)), (6, .v (.int .u64 (backR p q m x.1).2)), (7, .v (.int .i64 x.1))], [(0, [⟨1, u64s (backR p q m x.1).1⟩])], 1⟩) (fun x => q.length + 1 - x.1) ⟨0, Nat.zero_le _⟩ (le_sub ⟨rfl, rfl, rfl, rfl, rfl, trivial⟩ rfl rfl) ?_
  rintro ⟨k, hk⟩
  obtain ⟨h1, h2, h3, _⟩ := backR_inv hp hq (at' := m) k (by omega)
  generalize hb : backR p q m k = s at h1 h2 h3
  obtain ⟨o, c⟩ := s
  simp only at h1 h2 h3 ⊢
  have hBv : B = 1000000000 := rfl
  have hx := pcs_get h2 (m + k)
  have hy := pcs_get hq k
  repeat (first|refine z2 ?_|refine z1 ?_|refine z3 ?_|refine z4 ?_|refine z5 ?_)
  refine awp_cond rfl (fun h => ?_) (fun h => ?_)
  · have hkq : k ≤ q.length := by have := of_decide_eq_true h; omega
    repeat (first|refine z2 ?_|refine z1 ?_|refine z3 ?_|refine z4 ?_|refine z5 ?_)
    refine al_pure hT rfl (pure_load_adr rfl rfl rfl rfl (u64s_at (j := m + k) (by omega) (by omega))) rfl rfl True.intro ?_
    repeat (first|refine z2 ?_|refine z1 ?_|refine z3 ?_|refine z4 ?_|refine z5 ?_)
    refine awp_cond rfl (fun h' => ?_) (fun h' => ?_)
    · have hlt : k < q.length := by have := of_decide_eq_true h'; omega
      repeat (first|refine z2 ?_|refine z1 ?_|refine z3 ?_|refine z4 ?_|refine z5 ?_)
      refine al_pure hT rfl (pure_load_pt rfl rfl rfl (u64s_drop (j := k) (by omega) hlt)) rfl rfl True.intro ?_
      have hX : (c : Int) + (o.getD (m + k) 0 : Nat) + (q.getD k 0 : Nat) = ((c + o.getD (m + k) 0 + q.getD k 0 : Nat) : Int) := by omega
      have htd : 0 ≤ ((c : Int) + (o.getD (m + k) 0 : Nat) + (q.getD k 0 : Nat)).tdiv 1000000000 ∧ ((c : Int) + (o.getD (m + k) 0 : Nat) + (q.getD k 0 : Nat)).tdiv 1000000000 ≤ 18446744073709551615 := by
        rw [Int.tdiv_eq_ediv_of_nonneg (by omega)]; omega
      repeat (first|refine z2 ?_|refine z1 ?_|refine z3 ?_|refine z4 ?_|refine z5 ?_)
      refine al_store hT rfl rfl rfl rfl rfl rfl rfl rfl rfl (by show (0 * 1 + ((m : Int) + (k : Int)).toNat * 1) + 1 ≤ (u64s o).length; rw [u64s_len]; omega) (by intro x hx; simp only [List.mem_singleton] at hx; subst hx; rfl) ?_
      repeat (first|refine z2 ?_|refine z1 ?_|refine z3 ?_|refine z4 ?_|refine z5 ?_)
      refine ⟨⟨k + 1, by omega⟩, le_sub ⟨rfl, rfl, rfl, ?_, rfl, trivial⟩ ?_ rfl, by show q.length + 1 - (k + 1) < q.length + 1 - k; omega⟩
      · show some (AV.v (.int .u64 (((c : Int) + (o.getD (m + k) 0 : Nat) + (q.getD k 0 : Nat)).tdiv 1000000000))) = some (AV.v (.int .u64 ((((backR p q m k).2 + (backR p q m k).1.getD (m + k) 0 + q.getD k 0) / B : Nat) : Int)))
        rw [hX, hb]; rfl
      · show [(0, [Row.mk 1 (u64s ((backR p q m k).1.set (m + k) (((backR p q m k).2 + (backR p q m k).1.getD (m + k) 0 + q.getD k 0) % B)))])] = [(0, [Row.mk 1 (setAll (u64s o) (0 * 1 + ((m : Int) + (k : Int)).toNat * 1) [AV.v (.int .u64 (((c : Int) + (o.getD (m + k) 0 : Nat) + (q.getD k 0 : Nat)).tmod 1000000000))])])]
        rw [hX, hb, show 0 * 1 + ((m : Int) + (k : Int)).toNat * 1 = m + k by omega, ← u64s_set]; rfl
    · have hge : ¬ k < q.length := by have := of_decide_eq_false h'; omega
      have hq0 : q.getD k 0 = 0 := by rw [List.getD_eq_getElem?_getD, List.getElem?_eq_none (by omega)]; rfl
      have hX : (c : Int) + (o.getD (m + k) 0 : Nat) = ((c + o.getD (m + k) 0 + q.getD k 0 : Nat) : Int) := by omega
      have htd : 0 ≤ ((c : Int) + (o.getD (m + k) 0 : Nat)).tdiv 1000000000 ∧ ((c : Int) + (o.getD (m + k) 0 : Nat)).tdiv 1000000000 ≤ 18446744073709551615 := by
        rw [Int.tdiv_eq_ediv_of_nonneg (by omega)]; omega
      repeat (first|refine z2 ?_|refine z1 ?_|refine z3 ?_|refine z4 ?_|refine z5 ?_)
      refine al_store hT rfl rfl rfl rfl rfl rfl rfl rfl rfl (by show (0 * 1 + ((m : Int) + (k : Int)).toNat * 1) + 1 ≤ (u64s o).length; rw [u64s_len]; omega) (by intro x hx; simp only [List.mem_singleton] at hx; subst hx; rfl) ?_
      repeat (first|refine z2 ?_|refine z1 ?_|refine z3 ?_|refine z4 ?_|refine z5 ?_)
      refine ⟨⟨k + 1, by omega⟩, le_sub ⟨rfl, rfl, rfl, ?_, rfl, trivial⟩ ?_ rfl, by show q.length + 1 - (k + 1) < q.length + 1 - k; omega⟩
      · show some (AV.v (.int .u64 (((c : Int) + (o.getD (m + k) 0 : Nat)).tdiv 1000000000))) = some (AV.v (.int .u64 ((((backR p q m k).2 + (backR p q m k).1.getD (m + k) 0 + q.getD k 0) / B : Nat) : Int)))
        rw [hX, hb]; rfl
      · show [(0, [Row.mk 1 (u64s ((backR p q m k).1.set (m + k) (((backR p q m k).2 + (backR p q m k).1.getD (m + k) 0 + q.getD k 0) % B)))])] = [(0, [Row.mk 1 (setAll (u64s o) (0 * 1 + ((m : Int) + (k : Int)).toNat * 1) [AV.v (.int .u64 (((c : Int) + (o.getD (m + k) 0 : Nat)).tmod 1000000000))])])]
        rw [hX, hb, show 0 * 1 + ((m : Int) + (k : Int)).toNat * 1 = m + k by omega, ← u64s_set]; rfl
  · have hkq : k = q.length + 1 := by have := of_decide_eq_false h; omega
    subst hkq
    repeat (first|refine z2 ?_|refine z1 ?_|refine z3 ?_|refine z4 ?_|refine z5 ?_)
    exact ⟨.inr rfl, _, Le.refl _ _, rfl, by rw [hb]; rfl, rfl⟩
end Go.Proofs.YtlbhgejbfhhipaaGreatDoor

/- Walks: pieces of nine digits, third part. -/
namespace Go.Proofs.YtlbhgejbfhhipaaGreatDoor
open Go Go.Am Go.Lib Go.Sp Z1 Z2 Z3 Z4 Z5 Z6
variable {Λ : Lai}
set_option maxRecDepth 10000 in
theorem scaled_ok (p : List Nat) (n : Nat) (hp : pcs p) (hn : n < B) (hl : p.length ≤ 900000000000) : OkW Λ Tryz.prog 253 [.sl 1 p.length (u64s p), .v (.int .u64 n)] ⟨[], [], 0⟩ (.ref 0 0 1 0 (dp (vp p * n)).length) ⟨[], [(0, [⟨1, u64s (dp (vp p * n))⟩])], 1⟩ := by
  refine okw_intro hT 10 Tryz.func253 rfl rfl rfl (Nat.le_of_ble_eq_true rfl) (Nat.zero_le _) ?_
  intro w0 F0 I β0 hβ
  have hpn : pcs [n] := fun d hd => by simp only [List.mem_singleton] at hd; rw [hd]; exact hn
  have hdn : dp n = trimL [n] := by rw [trim_eq hpn]; simp [vp]
  have hlen : (trimL [n]).length ≤ 1 := by unfold trimL; exact Nat.le_trans (List.length_take_le _ _) (trimN_le _ _)
  have htimes : OkW Λ Tryz.prog 196 [.sl 1 p.length (u64s p), .sl 1 (trimL [n]).length (u64s (trimL [n]))] ⟨[], [], 0⟩ (.ref 0 0 1 0 (dp (vp p * n)).length) ⟨[], [(0, [⟨1, u64s (dp (vp p * n))⟩])], 1⟩ := by
    have := times_ok (Λ := Λ) p (dp n) hp (pcs_dp n) (by rw [hdn]; omega)
    rw [vp_dp, hdn] at this
    exact this
  repeat (first|refine z2 ?_|refine z1 ?_|refine z3 ?_|refine z4 ?_|refine z5 ?_)
  refine al_lit hT rfl rfl rfl rfl rfl rfl rfl rfl rfl rfl ?_
  repeat (first|refine z2 ?_|refine z1 ?_|refine z3 ?_|refine z4 ?_|refine z5 ?_)
  refine al_callw (fun g t => some (g, t)) [(0, [⟨1, u64s (trimL [n])⟩])] 1 (.ref 0 0 1 0 (trimL [n]).length) (trim_ok [n] (by simp)) rfl rfl rfl rfl rfl (.cons (.ref rfl Nat.zero_lt_one) .nil) (hand_ren ⟨⟨⟨Nat.zero_lt_one, .inr ⟨0, 0, _, rfl, rfl, rfl, WkL.refl (nrl_u64s [n])⟩⟩, trivial⟩, trivial⟩ rfl (fun g' t' g t h e => by simp only [Option.some.injEq, Prod.mk.injEq] at e; rw [← e.1]; exact h)) rfl rfl rfl
    (back_ren ⟨⟨.inl ⟨0, 0, _, rfl, rfl, Nat.zero_lt_one, rfl, RnL.refl (hfl_u64s _)⟩, trivial⟩, trivial⟩) (.ref rfl Nat.zero_lt_one) ?_
  refine al_callw (fun _ _ => none) [(1, [⟨1, u64s (dp (vp p * n))⟩])] 2 (.ref 1 0 1 0 (dp (vp p * n)).length) htimes rfl rfl rfl rfl rfl
    (.cons (.refl (nrl_u64s p)) (.cons (.frz rfl (fun _ _ h => by cases h) rfl (by show (0 + (trimL [n]).length) * 1 ≤ (u64s (trimL [n])).length; rw [u64s_len]; omega) (by
      show WkL _ _ _ (((u64s (trimL [n])).drop (0 * 1)).take ((trimL [n]).length * 1)) _
      rw [Nat.zero_mul, List.drop_zero, Nat.mul_one, List.take_of_length_le (by rw [u64s_len]; exact Nat.le_refl _)]
      exact WkL.refl (nrl_u64s _))) .nil))
    (hand_ren trivial rfl (fun g' _ _ _ h => absurd h (Nat.not_lt_zero _))) rfl rfl rfl
    (back_ren ⟨⟨.inl ⟨0, 0, _, rfl, rfl, Nat.one_lt_two, rfl, RnL.refl (hfl_u64s _)⟩, trivial⟩, trivial⟩) (.ref rfl Nat.one_lt_two) ?_
  repeat (first|refine z2 ?_|refine z1 ?_|refine z3 ?_|refine z4 ?_|refine z5 ?_)
  refine awp_ret ⟨.inl rfl, ⟨[(4, .ref 0 0 1 0 (dp (vp p * n)).length)], [(0, [⟨1, u64s (dp (vp p * n))⟩])], 1⟩, le_ren (fun g t => cond (Nat.beq g 0) (some (1, t)) none) ⟨⟨_, rfl, .ref rfl Nat.zero_lt_one⟩, trivial⟩ ⟨⟨⟨Nat.zero_lt_one, .inr ⟨1, 0, _, rfl, rfl, rfl, WkL.refl (nrl_u64s _)⟩⟩, trivial⟩, trivial⟩ rfl ⟨by show β0.length ≤ 1; rw [hβ]; exact Nat.zero_le _, fun g t h => by (have h' : g < β0.length := h); rw [hβ] at h'; exact absurd h' (Nat.not_lt_zero _)⟩, rfl, rfl, rfl⟩
end Go.Proofs.YtlbhgejbfhhipaaGreatDoor

/- Walks: pieces of nine digits, fourth part. -/
namespace Go.Proofs.YtlbhgejbfhhipaaGreatDoor
open Go Go.Am Go.Lib Go.Sp Z1 Z2 Z3 Z4 Z5 Z6
variable {Λ : Lai}
set_option maxRecDepth 10000 in
theorem compare_ok (n m : Nat) (hl : (dp n).length ≤ 1000000000000) (hl2 : (dp m).length ≤ 1000000000000) : OkP Λ Tryz.prog 211 [.sl 1 (dp n).length (u64s (dp n)), .sl 1 (dp m).length (u64s (dp m))] (.v (.int .i64 (cmpN n m))) := by
  refine okp_intro hT 45 Tryz.func211 rfl rfl rfl (Nat.le_of_ble_eq_true rfl) trivial ?_
  intro w0 F0 I
  repeat (first|refine z2 ?_|refine z1 ?_|refine z3 ?_|refine z4 ?_|refine z5 ?_)
  refine awp_cond rfl (fun h => ?_) (fun h => ?_)
  · repeat (first|refine z2 ?_|refine z1 ?_|refine z3 ?_|refine z4 ?_|refine z5 ?_)
    refine awp_ret ⟨.inl rfl, ?_⟩
    rw [← cmp_len (n := n) (m := m) (by intro e; rw [e] at h; simp at h)]
    exact .refl trivial
  · have hlen : (dp n).length = (dp m).length := by simp at h; omega
    repeat (first|refine z2 ?_|refine z1 ?_|refine z3 ?_|refine z4 ?_|refine z5 ?_)
    refine awp_loop (fun x : { x : Nat // x ≤ (dp n).length ∧ (dp n).drop x = (dp m).drop x } => ⟨[(0, .sl 1 (dp n).length (u64s (dp n))), (1, .sl 1 (dp m).length (u64s (dp m))), (5, .v (.int .i64 ((x.1 : Int) - 1)))], [], 0⟩) (fun x => x.1) ⟨(dp n).length, Nat.le_refl _, by rw [List.drop_length, hlen, List.drop_length]⟩ (le_sub ⟨rfl, rfl, rfl, trivial⟩ rfl rfl) ?_
    rintro ⟨k, hk, hd⟩
    simp only at hk hd ⊢
    repeat (first|refine z2 ?_|refine z1 ?_|refine z3 ?_|refine z4 ?_|refine z5 ?_)
    refine awp_cond rfl (fun h2 => ?_) (fun h2 => ?_)
    · have hk0 : 0 < k := by have := of_decide_eq_true h2; omega
      obtain ⟨i, rfl⟩ : ∃ i, k = i + 1 := ⟨k - 1, by omega⟩
      repeat (first|refine z2 ?_|refine z1 ?_|refine z3 ?_|refine z4 ?_|refine z5 ?_)
      refine awp_region_draw [] hmix (by kernel_rfl) ?_
      repeat (first|refine z2 ?_|refine z1 ?_|refine z3 ?_|refine z4 ?_|refine z5 ?_)
      refine al_pure hT rfl (pure_load_pt rfl rfl rfl (u64s_drop (j := i) (by omega) (by omega))) rfl rfl True.intro ?_
      repeat (first|refine z2 ?_|refine z1 ?_|refine z3 ?_|refine z4 ?_|refine z5 ?_)
      refine al_pure hT rfl (pure_load_pt rfl rfl rfl (u64s_drop (j := i) (by omega) (by omega))) rfl rfl True.intro ?_
      repeat (first|refine z2 ?_|refine z1 ?_|refine z3 ?_|refine z4 ?_|refine z5 ?_)
      refine awp_cond rfl (fun h3 => ?_) (fun h3 => ?_)
      · repeat (first|refine z2 ?_|refine z1 ?_|refine z3 ?_|refine z4 ?_|refine z5 ?_)
        have hc : cmpN n m = -1 := by
          have := of_decide_eq_true h3
          have hv := vp_cmp (pcs_dp n) hlen (by omega) hd (by omega : (dp n).getD i 0 < (dp m).getD i 0)
          rw [vp_dp, vp_dp] at hv
          unfold cmpN; rw [if_pos hv]
        refine awp_ret ⟨.inl rfl, ?_⟩
        rw [hc]
        exact .refl trivial
      · repeat (first|refine z2 ?_|refine z1 ?_|refine z3 ?_|refine z4 ?_|refine z5 ?_)
        refine awp_region_draw [] hmix (by kernel_rfl) ?_
        repeat (first|refine z2 ?_|refine z1 ?_|refine z3 ?_|refine z4 ?_|refine z5 ?_)
        refine al_pure hT rfl (pure_load_pt rfl rfl rfl (u64s_drop (j := i) (by omega) (by omega))) rfl rfl True.intro ?_
        repeat (first|refine z2 ?_|refine z1 ?_|refine z3 ?_|refine z4 ?_|refine z5 ?_)
        refine al_pure hT rfl (pure_load_pt rfl rfl rfl (u64s_drop (j := i) (by omega) (by omega))) rfl rfl True.intro ?_
        repeat (first|refine z2 ?_|refine z1 ?_|refine z3 ?_|refine z4 ?_|refine z5 ?_)
        have n3 := of_decide_eq_false h3
        refine awp_cond rfl (fun h4 => ?_) (fun h4 => ?_)
        · repeat (first|refine z2 ?_|refine z1 ?_|refine z3 ?_|refine z4 ?_|refine z5 ?_)
          have hc : cmpN n m = 1 := by
            have := of_decide_eq_true h4
            have hv := vp_cmp (pcs_dp m) hlen.symm (by omega) hd.symm (by omega : (dp m).getD i 0 < (dp n).getD i 0)
            rw [vp_dp, vp_dp] at hv
            unfold cmpN; rw [if_neg (by omega), if_pos hv]
          refine awp_ret ⟨.inl rfl, ?_⟩
          rw [hc]
          exact .refl trivial
        · repeat (first|refine z2 ?_|refine z1 ?_|refine z3 ?_|refine z4 ?_|refine z5 ?_)
          have n4 := of_decide_eq_false h4
          refine ⟨⟨i, by omega, ?_⟩, le_sub ⟨rfl, rfl, ?_, trivial⟩ rfl rfl, by show i < i + 1; omega⟩
          · have hin : i < (dp n).length := by omega
            have him : i < (dp m).length := by omega
            rw [List.drop_eq_getElem_cons hin, List.drop_eq_getElem_cons him, hd]
            congr 1
            have e1 : (dp n).getD i 0 = (dp m).getD i 0 := by omega
            rw [List.getD_eq_getElem?_getD, List.getD_eq_getElem?_getD, List.getElem?_eq_getElem hin, List.getElem?_eq_getElem him] at e1
            exact e1
          · show some (AV.v (.int .i64 (((i + 1 : Nat) : Int) - 1 - 1))) = some (AV.v (.int .i64 ((i : Int) - 1)))
            congr 3
            omega
    · have hk0 : k = 0 := by have := of_decide_eq_false h2; omega
      subst hk0
      have hnm : n = m := by
        have : dp n = dp m := by simpa using hd
        rw [← vp_dp n, this, vp_dp]
      have hc : cmpN n m = 0 := by unfold cmpN; rw [if_neg (by omega), if_neg (by omega)]
      repeat (first|refine z2 ?_|refine z1 ?_|refine z3 ?_|refine z4 ?_|refine z5 ?_)
      refine awp_ret ⟨.inl rfl, ?_⟩
      rw [hc]
      exact .refl trivial
end Go.Proofs.YtlbhgejbfhhipaaGreatDoor

/- Walks: pieces of nine digits, fifth part. -/
namespace Go.Proofs.YtlbhgejbfhhipaaGreatDoor
open Go Go.Am Go.Lib Go.Sp Z1 Z2 Z3 Z4 Z5 Z6
variable {Λ : Lai}
set_option maxRecDepth 10000 in
theorem take_ok (p q : List Nat) (n m : Nat) (hp : pcs p) (hq : pcs q) (hn : n ≤ B) (hm : m + q.length < p.length) (hl : p.length ≤ 2000000000000) : OkW Λ Tryz.prog 195 [.ref 0 0 1 0 p.length, .sl 1 q.length (u64s q), .v (.int .u64 n), .v (.int .i64 m)] ⟨[], [(0, [⟨1, u64s p⟩])], 1⟩ (.v (.bool (decide (0 < (takeR p q n m (q.length + 1)).2.1)))) ⟨[], [(0, [⟨1, u64s (takeR p q n m (q.length + 1)).1⟩])], 1⟩ := by
  refine okw_intro hT 59 Tryz.func195 rfl rfl rfl (Nat.le_of_ble_eq_true rfl) (Nat.le_refl _) ?_
  intro w0 F0 I β0 hβ
  repeat (first|refine z2 ?_|refine z1 ?_|refine z3 ?_|refine z4 ?_|refine z5 ?_)
  refine awp_loop (fun x : { x : Nat // x ≤ q.length + 1 } => ⟨[(0, .ref 0 0 1 0 p.length), (1, .sl 1 q.length (u64s q)), (2, .v (.int .u64 n)), (3, .v (.int .i64 m)), (9, .v (.int .i64 (takeR p q n m x.1).2.1)), (10, .v (.int .u64 (takeR p q n m x.1).2.2)), (11, .v (.int .i64 x.1))], [(0, [⟨1, u64s (takeR p q n m x.1).1⟩])], 1⟩) (fun x => q.length + 1 - x.1) ⟨0, Nat.zero_le _⟩ (le_sub ⟨rfl, rfl, rfl, rfl, rfl, rfl, rfl, trivial⟩ rfl rfl) ?_
  rintro ⟨k, hk⟩
  obtain ⟨h1, h2, h3, h4, _⟩ := takeR_inv (at' := m) hp hq hn k (by omega)
  generalize hb : takeR p q n m k = s at h1 h2 h3 h4
  obtain ⟨o, b, c⟩ := s
  simp only at h1 h2 h3 h4 ⊢
  have hBv : B = 1000000000 := rfl
  have hx := pcs_get h2 (m + k)
  have hy := pcs_get hq k
  repeat (first|refine z2 ?_|refine z1 ?_|refine z3 ?_|refine z4 ?_|refine z5 ?_)
  refine awp_cond rfl (fun h => ?_) (fun h => ?_)
  · have hkq : k ≤ q.length := by have := of_decide_eq_true h; omega
    have hnq : n * q.getD k 0 ≤ 1000000000 * 999999999 := Nat.mul_le_mul (by omega) (by omega)
    have hX : (c : Int) + (n : Int) * (q.getD k 0 : Nat) = ((c + n * q.getD k 0 : Nat) : Int) := by rw [Int.natCast_add, Int.natCast_mul]
    have hX2 : 0 ≤ (n : Int) * (q.getD k 0 : Nat) ∧ (n : Int) * (q.getD k 0 : Nat) ≤ 999999999000000000 := by rw [← Int.natCast_mul]; omega
    generalize ht : c + n * q.getD k 0 = t at hX
    have htb : t ≤ 1000000000000000000 := by omega
    obtain ⟨r, hre⟩ : ∃ r, r = t % B := ⟨_, rfl⟩
    obtain ⟨d, hde⟩ : ∃ d, d = t / B := ⟨_, rfl⟩
    have htm : ((t : Int).tmod 1000000000) = (r : Int) := by rw [hre]; rfl
    have htd : ((t : Int).tdiv 1000000000) = (d : Int) := by rw [hde]; rfl
    have hr : r < 1000000000 := by rw [hre, ← hBv]; exact Nat.mod_lt t (show 0 < B by omega)
    have hr2 : d ≤ 1000000000 := by rw [hde, hBv]; omega
    repeat (first|refine z2 ?_|refine z1 ?_|refine z3 ?_|refine z4 ?_|refine z5 ?_)
    refine awp_at ⟨[(0, .ref 0 0 1 0 p.length), (1, .sl 1 q.length (u64s q)), (2, .v (.int .u64 n)), (3, .v (.int .i64 m)), (9, .v (.int .i64 b)), (10, .v (.int .u64 t)), (11, .v (.int .i64 k))], [(0, [⟨1, u64s o⟩])], 1⟩ ?_ ?_
    · refine awp_cond rfl (fun h' => ?_) (fun h' => ?_)
      · have hlt : k < q.length := by have := of_decide_eq_true h'; omega
        repeat (first|refine z2 ?_|refine z1 ?_|refine z3 ?_|refine z4 ?_|refine z5 ?_)
        refine al_pure hT rfl (pure_load_pt rfl rfl rfl (u64s_drop (j := k) (by omega) hlt)) rfl rfl True.intro ?_
        repeat (first|refine z2 ?_|refine z1 ?_|refine z3 ?_|refine z4 ?_|refine z5 ?_)
        refine le_sub ⟨rfl, rfl, rfl, rfl, rfl, ?_, rfl, trivial⟩ rfl rfl
        show some (AV.v (.int .u64 ((c : Int) + (n : Int) * (q.getD k 0 : Nat)))) = _
        rw [hX]
      · have hge : ¬ k < q.length := by have := of_decide_eq_false h'; omega
        have hq0 : q.getD k 0 = 0 := by rw [List.getD_eq_getElem?_getD, List.getElem?_eq_none (by omega)]; rfl
        repeat (first|refine z2 ?_|refine z1 ?_|refine z3 ?_|refine z4 ?_|refine z5 ?_)
        refine le_sub ⟨rfl, rfl, rfl, rfl, rfl, ?_, rfl, trivial⟩ rfl rfl
        show some (AV.v (.int .u64 (c : Int))) = _
        rw [← ht, hq0, Nat.mul_zero, Nat.add_zero]
    · repeat (first|refine z2 ?_|refine z1 ?_|refine z3 ?_|refine z4 ?_|refine z5 ?_)
      refine al_pure hT rfl (pure_load_adr rfl rfl rfl rfl (u64s_at (j := m + k) (by omega) (by omega))) rfl rfl True.intro ?_
      repeat (first|refine z2 ?_|refine z1 ?_|refine z3 ?_|refine z4 ?_|refine z5 ?_)
      generalize hxe : o.getD (m + k) 0 = x at hx
      refine awp_at ⟨[(0, .ref 0 0 1 0 p.length), (1, .sl 1 q.length (u64s q)), (2, .v (.int .u64 n)), (3, .v (.int .i64 m)), (9, .v (.int .i64 ((if x < r + b then 1 else 0 : Nat) : Int))), (10, .v (.int .u64 d)), (11, .v (.int .i64 k)), (12, .v (.int .i64 ((if x < r + b then x + B - (r + b) else x - (r + b) : Nat) : Int)))], [(0, [⟨1, u64s o⟩])], 1⟩ ?_ ?_
      · refine awp_cond rfl (fun h' => ?_) (fun h' => ?_)
        · have hlt : x < r + b := by have := of_decide_eq_true h'; rw [htm] at this; omega
          repeat (first|refine z2 ?_|refine z1 ?_|refine z3 ?_|refine z4 ?_|refine z5 ?_)
          refine le_sub ⟨rfl, rfl, rfl, rfl, by rw [if_pos hlt]; rfl, by rw [← htd]; rfl, rfl, ?_, trivial⟩ rfl rfl
          show some (AV.v (.int .i64 ((x : Int) - (t : Int).tmod 1000000000 - (b : Int) + 1000000000))) = _
          rw [if_pos hlt, htm]
          congr 3
          omega
        · have hge : ¬ x < r + b := by have := of_decide_eq_false h'; rw [htm] at this; omega
          repeat (first|refine z2 ?_|refine z1 ?_|refine z3 ?_|refine z4 ?_|refine z5 ?_)
          refine le_sub ⟨rfl, rfl, rfl, rfl, by rw [if_neg hge]; rfl, by rw [← htd]; rfl, rfl, ?_, trivial⟩ rfl rfl
          show some (AV.v (.int .i64 ((x : Int) - (t : Int).tmod 1000000000 - (b : Int)))) = _
          rw [if_neg hge, htm]
          congr 3
          omega
      · have hyb : (if x < r + b then x + B - (r + b) else x - (r + b)) < 1000000000 := by split <;> omega
        repeat (first|refine z2 ?_|refine z1 ?_|refine z3 ?_|refine z4 ?_|refine z5 ?_)
        refine al_store hT rfl rfl rfl rfl rfl rfl rfl rfl rfl (by show (0 * 1 + ((m : Int) + (k : Int)).toNat * 1) + 1 ≤ (u64s o).length; rw [u64s_len]; omega) (by intro x hx; simp only [List.mem_singleton] at hx; subst hx; rfl) ?_
        repeat (first|refine z2 ?_|refine z1 ?_|refine z3 ?_|refine z4 ?_|refine z5 ?_)
        have e : takeR p q n m (k + 1) = (o.set (m + k) (if x < r + b then x + B - (r + b) else x - (r + b)), (if x < r + b then 1 else 0), d) := by
          simp only [takeR, hb, hxe, ht, ← hre, ← hde]
        refine ⟨⟨k + 1, by omega⟩, le_sub ⟨rfl, rfl, rfl, rfl, ?_, ?_, rfl, trivial⟩ ?_ rfl, by show q.length + 1 - (k + 1) < q.length + 1 - k; omega⟩
        · rw [e]; rfl
        · rw [e]; rfl
        · rw [e]
          show _ = [(0, [Row.mk 1 (setAll (u64s o) (0 * 1 + ((m : Int) + (k : Int)).toNat * 1) [AV.v (.int .u64 ((if x < r + b then x + B - (r + b) else x - (r + b) : Nat) : Int))])])]
          rw [show 0 * 1 + ((m : Int) + (k : Int)).toNat * 1 = m + k by omega, ← u64s_set]
  · have hkq : k = q.length + 1 := by have := of_decide_eq_false h; omega
    subst hkq
    repeat (first|refine z2 ?_|refine z1 ?_|refine z3 ?_|refine z4 ?_|refine z5 ?_)
    refine awp_ret ⟨.inl rfl, _, Le.refl _ _, ?_, ?_, rfl⟩
    · rw [hb]
      show some (AV.v (.bool (decide ((b : Int) > 0)))) = some (AV.v (.bool (decide (0 < b))))
      congr 3
      simp
    · rw [hb]; rfl
end Go.Proofs.YtlbhgejbfhhipaaGreatDoor

/- Walks: pieces of nine digits, sixth part: long division. -/
namespace Go.Proofs.YtlbhgejbfhhipaaGreatDoor
open Go Go.Am Go.Lib Go.Sp Z1 Z2 Z3 Z4 Z5 Z6
variable {Λ : Lai}
theorem frz_u64s (l : List Nat) : Fz ⟨[], [(0, [⟨1, u64s l⟩])], 1⟩ (.ref 0 0 1 0 l.length) (.sl 1 l.length (u64s l)) :=
  .ref rfl rfl (by show (0 + l.length) * 1 ≤ (u64s l).length; rw [u64s_len]; omega) (by
    show FzL _ (((u64s l).drop (0 * 1)).take (l.length * 1)) (u64s l)
    rw [Nat.zero_mul, List.drop_zero, Nat.mul_one, List.take_of_length_le (by rw [u64s_len]; exact Nat.le_refl _)]
    exact FzL.refl (hfl_u64s l))
theorem frz_u64s2 {s : AS} {g : Nat} {l : List Nat} (h : s.row g 0 = some ⟨1, u64s l⟩) : Fz s (.ref g 0 1 0 l.length) (.sl 1 l.length (u64s l)) :=
  .ref h rfl (by show (0 + l.length) * 1 ≤ (u64s l).length; rw [u64s_len]; omega) (by
    show FzL _ (((u64s l).drop (0 * 1)).take (l.length * 1)) (u64s l)
    rw [Nat.zero_mul, List.drop_zero, Nat.mul_one, List.take_of_length_le (by rw [u64s_len]; exact Nat.le_refl _)]
    exact FzL.refl (hfl_u64s l))
theorem wkl_eq {st : AS} {ρ : Rho} {m : Nat} {xs ys : List AV} (h : xs = ys) (hn : nrl ys) : WkL st ρ m xs ys := by subst h; exact WkL.refl hn
theorem u64s_snoc (l : List Nat) (n : Nat) : u64s l ++ ([AV.v (.int .u64 (n : Int))] ++ []) = u64s (l ++ [n]) := by simp [u64s]
theorem pick_three (d1 d2 d3 c : Bool) (h1 : d1 = false) (h2 : d2 = true) (h3 : d3 = c) : some (AV.v (.bool (cond d1 true (cond d2 d3 false)))) = some (.v (.bool c)) := by subst h1; subst h2; subst h3; rfl
theorem nr_u64s (k : Nat) (l : List Nat) : nr (.sl 1 k (u64s l)) := by simp only [nr]; exact nrl_u64s l
theorem scaled_okp (p : List Nat) (n : Nat) (hp : pcs p) (hn : n < B) (hl : p.length ≤ 900000000000) : OkP Λ Tryz.prog 253 [.sl 1 p.length (u64s p), .v (.int .u64 n)] (.sl 1 (dp (vp p * n)).length (u64s (dp (vp p * n)))) :=
  okp_of_okw (scaled_ok p n hp hn hl) (frz_u64s _) (nr_u64s _ _)
theorem times_okp (p q : List Nat) (hp : pcs p) (hq : pcs q) (hl : p.length + q.length ≤ 1000000000000) : OkP Λ Tryz.prog 196 [.sl 1 p.length (u64s p), .sl 1 q.length (u64s q)] (.sl 1 (dp (vp p * vp q)).length (u64s (dp (vp p * vp q)))) :=
  okp_of_okw (times_ok p q hp hq hl) (frz_u64s _) (nr_u64s _ _)
theorem small_okp (p : List Nat) (n : Nat) (hp : pcs p) (hn : 0 < n) (hnB : n ≤ B) (hl : p.length ≤ 1000000000000) : OkP Λ Tryz.prog 212 [.sl 1 p.length (u64s p), .v (.int .u64 n)] (.tup [.sl 1 (dp (vp p / n)).length (u64s (dp (vp p / n))), .v (.int .u64 (vp p % n : Nat))]) :=
  okp_of_okw (small_ok p n hp hn hnB hl) (.tup (.cons (frz_u64s _) (.cons (.hf trivial) .nil))) ⟨nrl_u64s _, trivial, trivial⟩
set_option maxHeartbeats 1000000 in
set_option maxRecDepth 10000 in
theorem divide_ok (P Q : Nat) (hPQ : Q ≤ P) (h2 : 2 ≤ (dp Q).length) (hl : (dp P).length ≤ 400000000000) : OkW Λ Tryz.prog 213 [.sl 1 (dp P).length (u64s (dp P)), .sl 1 (dp Q).length (u64s (dp Q))] ⟨[], [], 0⟩ (.tup [.ref 0 0 1 0 (dp (P / Q)).length, .ref 1 0 1 0 (dp (P % Q)).length]) ⟨[], [(0, [⟨1, u64s (dp (P / Q))⟩]), (1, [⟨1, u64s (dp (P % Q))⟩])], 2⟩ := by
  refine okw_intro hT 146 Tryz.func213 rfl rfl rfl (Nat.le_of_ble_eq_true rfl) (Nat.zero_le _) ?_
  intro w0 F0 I β0 hβ
  have hBv : B = 1000000000 := rfl
  have hqp : (dp Q).length ≤ (dp P).length := (dp_len Q _).2 (Nat.lt_of_le_of_lt hPQ ((dp_len P _).1 (Nat.le_refl _)))
  have hq0 : (dp Q).getD ((dp Q).length - 1) 0 < B := pcs_get (pcs_dp Q) _
  have hF : ∃ F, F = B / ((dp Q).getD ((dp Q).length - 1) 0 + 1) := ⟨_, rfl⟩
  obtain ⟨F, hF⟩ := hF
  have hF1 : 0 < F := by rw [hF]; exact Nat.div_pos (by omega) (by omega)
  have hFB : F < B := by
    have h0 : (dp Q).getD ((dp Q).length - 1) 0 ≠ 0 := by
      rw [dp_getD (by omega)]
      have h1 := dp_drop_pos (n := Q) (k := (dp Q).length - 1) (by omega)
      have h2 : Q / B ^ ((dp Q).length - 1) < B := by
        rw [Nat.div_lt_iff_lt_mul (Nat.pow_pos B_pos), Nat.mul_comm, ← Nat.pow_succ, show ((dp Q).length - 1).succ = (dp Q).length by omega]
        exact (dp_len Q _).1 (Nat.le_refl _)
      rw [Nat.mod_eq_of_lt h2]
      exact h1
    rw [hF]
    exact Nat.div_lt_self B_pos (by omega)
  have hFe : (1000000000 : Int).tdiv (((dp Q).getD ((dp Q).length - 1) 0 : Nat) + 1) = (F : Int) := by rw [hF]; rfl
  have htd : 0 ≤ (1000000000 : Int).tdiv (((dp Q).getD ((dp Q).length - 1) 0 : Nat) + 1) ∧ (1000000000 : Int).tdiv (((dp Q).getD ((dp Q).length - 1) 0 : Nat) + 1) ≤ 18446744073709551615 := by rw [hFe]; omega
  repeat (first|refine z2 ?_|refine z1 ?_|refine z3 ?_|refine z4 ?_|refine z5 ?_)
  refine al_pure hT rfl (pure_load_pt rfl rfl rfl (u64s_drop (j := (dp Q).length - 1) (by omega) (by omega))) rfl rfl True.intro ?_
  repeat (first|refine z2 ?_|refine z1 ?_|refine z3 ?_|refine z4 ?_|refine z5 ?_)
  have hs1 := scaled_ok (Λ := Λ) (dp P) F (pcs_dp P) hFB (by omega)
  have hs2 := scaled_okp (Λ := Λ) (dp Q) F (pcs_dp Q) hFB (by omega)
  rw [vp_dp, ← hFe] at hs1 hs2
  refine al_callw (fun _ _ => none) [(0, [⟨1, u64s (dp (P * F))⟩])] 1 (.ref 0 0 1 0 (dp (P * F)).length) hs1 rfl rfl rfl rfl rfl (.cons (.refl (nrl_u64s _)) (.cons (.refl trivial) .nil)) (hand_ren trivial rfl (fun g' _ _ _ h => absurd h (Nat.not_lt_zero _))) rfl rfl rfl (back_ren ⟨⟨.inl ⟨0, 0, _, rfl, rfl, Nat.zero_lt_one, rfl, RnL.refl (hfl_u64s _)⟩, trivial⟩, trivial⟩) (.ref rfl Nat.zero_lt_one) ?_
  refine al_litF hT rfl rfl rfl rfl rfl rfl rfl rfl rfl ?_
  repeat (first|refine z2 ?_|refine z1 ?_|refine z3 ?_|refine z4 ?_|refine z5 ?_)
  have hPF : (dp (P * F)).length ≤ (dp P).length + 1 := (dp_len _ _).2 (by rw [Nat.pow_succ]; exact Nat.mul_lt_mul'' ((dp_len P _).1 (Nat.le_refl _)) hFB)
  have hQPF : (dp (Q * F)).length ≤ (dp (P * F)).length := (dp_len _ _).2 (Nat.lt_of_le_of_lt (Nat.mul_le_mul_right _ hPQ) ((dp_len _ _).1 (Nat.le_refl _)))
  refine al_append hT rfl rfl rfl rfl rfl rfl rfl rfl rfl rfl rfl rfl rfl (by show (u64s _).length = _ * 1; rw [u64s_len, Nat.mul_one]) (fun g r h e => by cases e; cases h; rfl) (by intro x hx; simp only [List.append_nil, List.mem_singleton] at hx; subst hx; rfl) (by show (_ + 1) * 8 ≤ _; omega) (by omega) ?_
  repeat (first|refine z2 ?_|refine z1 ?_|refine z3 ?_|refine z4 ?_|refine z5 ?_)
  refine al_call hs2 rfl rfl rfl rfl (.cons (.refl (nr_u64s _ _)) (.cons (.refl trivial) .nil)) (.inr ⟨⟨nrl_u64s _, trivial, trivial⟩, rfl⟩) rfl rfl ?_
  repeat (first|refine z2 ?_|refine z1 ?_|refine z3 ?_|refine z4 ?_|refine z5 ?_)
  refine awp_loop (fun x : { a : List Nat // vp a = P * F ∧ pcs a ∧ (∃ l, a = l ++ [0]) ∧ (dp (P * F)).length < a.length ∧ a.length ≤ (dp P).length + 2 } => ⟨[(0, .sl 1 (dp P).length (u64s (dp P))), (1, .sl 1 (dp Q).length (u64s (dp Q))), (6, .v (.int .u64 F)), (7, .ref 0 0 1 0 x.1.length), (8, .sl 1 (dp (Q * F)).length (u64s (dp (Q * F)))), (9, .v (.int .i64 (dp (Q * F)).length))], [(0, [⟨1, u64s x.1⟩])], 1⟩) (fun x => (dp P).length + 2 - x.1.length)
    ⟨dp (P * F) ++ [0], by rw [vp_snoc, vp_dp]; simp, pcs_snoc (pcs_dp _) B_pos, ⟨_, rfl⟩, by simp, by simp; omega⟩ ?_ ?_
  · refine le_ren (fun g t => cond (Nat.beq g 0) (some (1, t)) none) ⟨⟨_, rfl, .refl (nr_u64s _ _)⟩, ⟨_, rfl, .refl (nr_u64s _ _)⟩, ⟨_, by show _ = some (AV.v (.int .u64 (F : Int))); rw [← hFe]; rfl, .refl trivial⟩, ⟨.ref 1 0 1 0 (dp (P * F) ++ [0]).length, by rw [List.length_append]; rfl, .ref rfl Nat.zero_lt_one⟩, ⟨_, rfl, .refl (nr_u64s _ _)⟩, ⟨_, rfl, .refl trivial⟩, trivial⟩ ⟨⟨⟨Nat.zero_lt_one, .inr ⟨1, 0, _, rfl, rfl, rfl, ?_⟩⟩, trivial⟩, trivial⟩ rfl ⟨by show β0.length ≤ _; rw [hβ]; exact Nat.zero_le _, fun g t h => by (have h' : g < β0.length := h); rw [hβ] at h'; exact absurd h' (Nat.not_lt_zero _)⟩
    exact wkl_eq (u64s_snoc _ 0) (nrl_u64s _)
  rintro ⟨a, ha1, ha2, ha3, ha4, ha5⟩
  simp only at ha1 ha2 ha3 ha4 ha5 ⊢
  repeat (first|refine z2 ?_|refine z1 ?_|refine z3 ?_|refine z4 ?_|refine z5 ?_)
  refine awp_cond rfl (fun h => ?_) (fun h => ?_)
  · have hle : a.length ≤ (dp P).length := by have := of_decide_eq_true h; omega
    repeat (first|refine z2 ?_|refine z1 ?_|refine z3 ?_|refine z4 ?_|refine z5 ?_)
    refine al_litF hT rfl rfl rfl rfl rfl rfl rfl rfl rfl ?_
    refine al_append hT rfl rfl rfl rfl rfl rfl rfl rfl rfl rfl rfl rfl rfl (by show (u64s _).length = _ * 1; rw [u64s_len, Nat.mul_one]) (fun g r h e => by cases e; cases h; rfl) (by intro x hx; simp only [List.append_nil, List.mem_singleton] at hx; subst hx; rfl) (by show (_ + 1) * 8 ≤ _; omega) (by omega) ?_
    repeat (first|refine z2 ?_|refine z1 ?_|refine z3 ?_|refine z4 ?_|refine z5 ?_)
    refine ⟨⟨a ++ [0], by rw [vp_snoc, ha1]; simp, pcs_snoc ha2 B_pos, ⟨_, rfl⟩, by simp; omega, by simp; omega⟩, ?_, by simp; omega⟩
    refine le_ren (fun g t => cond (Nat.beq g 0) (some (1, t)) none) ⟨⟨_, rfl, .refl (nr_u64s _ _)⟩, ⟨_, rfl, .refl (nr_u64s _ _)⟩, ⟨_, rfl, .refl trivial⟩, ⟨.ref 1 0 1 0 (a ++ [0]).length, by rw [List.length_append]; rfl, .ref rfl Nat.zero_lt_one⟩, ⟨_, rfl, .refl (nr_u64s _ _)⟩, ⟨_, rfl, .refl trivial⟩, trivial⟩ ⟨⟨⟨Nat.zero_lt_one, .inr ⟨1, 0, _, rfl, rfl, rfl, ?_⟩⟩, trivial⟩, trivial⟩ rfl ⟨by show β0.length ≤ _; rw [hβ]; exact Nat.zero_le _, fun g t h => by (have h' : g < β0.length := h); rw [hβ] at h'; exact absurd h' (Nat.not_lt_zero _)⟩
    exact wkl_eq (u64s_snoc _ 0) (nrl_u64s _)
  have hgt : (dp P).length < a.length := by have := of_decide_eq_false h; omega
  clear h
  obtain ⟨L, hL⟩ : ∃ L, L = a.length := ⟨_, rfl⟩
  obtain ⟨b, hb⟩ : ∃ b, b = dp (Q * F) := ⟨_, rfl⟩
  have hbv : vp b = Q * F := by rw [hb, vp_dp]
  have hbp : pcs b := by rw [hb]; exact pcs_dp _
  have hbl : 2 ≤ b.length := by
    rw [hb]
    rcases Nat.lt_or_ge (dp (Q * F)).length 2 with h' | h'
    · exfalso
      have h3 := (dp_len (Q * F) 1).1 (by omega)
      have h4 := (dp_len Q 1).2 (Nat.lt_of_le_of_lt (Nat.le_mul_of_pos_right _ hF1) h3)
      omega
    · exact h'
  rw [← hb] at hQPF ⊢
  rw [← hL] at ha4 ha5 hgt ⊢
  repeat (first|refine z2 ?_|refine z1 ?_|refine z3 ?_|refine z4 ?_|refine z5 ?_)
  refine al_make hT rfl rfl rfl rfl rfl rfl rfl rfl rfl rfl (by omega) (by omega) (by show (8 : Int) * _ ≤ _; omega) (by omega) ?_
  repeat (first|refine z2 ?_|refine z1 ?_|refine z3 ?_|refine z4 ?_|refine z5 ?_)
  have e0 : ((L : Int) - (b.length : Int)).toNat = L - b.length := by omega
  have hV1 : B ^ (b.length - 1) ≤ vp b := by
    rcases Nat.lt_or_ge (vp b) (B ^ (b.length - 1)) with h' | h'
    · rw [hbv] at h'
      have := (dp_len _ _).2 h'
      rw [← hb] at this
      omega
    · exact h'
  refine awp_loop (fun x : { x : Nat × List Nat × List Nat // x.1 ≤ L - b.length ∧ x.2.1.length = L ∧ pcs x.2.1 ∧ x.2.2.length = L - b.length ∧ pcs x.2.2 ∧ vp x.2.1 < B ^ x.1 * vp b ∧ P * F = vp x.2.1 + vp (x.2.2.drop x.1) * B ^ x.1 * vp b } => ⟨[(6, .v (.int .u64 F)), (7, .ref 0 0 1 0 L), (8, .sl 1 b.length (u64s b)), (9, .v (.int .i64 b.length)), (10, .ref 1 0 1 0 (L - b.length)), (11, .v (.int .i64 ((x.1.1 : Int) - 1)))], [(1, [⟨1, u64s x.1.2.2⟩]), (0, [⟨1, u64s x.1.2.1⟩])], 2⟩) (fun x => x.1.1)
    ⟨(L - b.length, a, List.replicate (L - b.length) 0), Nat.le_refl _, hL.symm, ha2, by simp, fun d hd => by rw [List.eq_of_mem_replicate hd]; exact B_pos, ?_, ?_⟩ ?_ ?_
  · obtain ⟨l, hl'⟩ := ha3
    have h3 : vp a = vp l := by rw [hl', vp_snoc]; simp
    have hll : l.length + 1 = L := by rw [hL, hl']; simp
    have h4 := vp_lt (l := l) (fun d hd => ha2 d (by rw [hl']; simp [hd]))
    show vp a < B ^ (L - b.length) * vp b
    rw [h3]
    refine Nat.lt_of_lt_of_le h4 (Nat.le_trans ?_ (Nat.mul_le_mul_left _ hV1))
    rw [← Nat.pow_add]
    exact Nat.pow_le_pow_right B_pos (by omega)
  · show P * F = vp a + vp ((List.replicate (L - b.length) 0).drop (L - b.length)) * B ^ (L - b.length) * vp b
    rw [List.drop_of_length_le (by simp), vp, Nat.zero_mul, Nat.zero_mul, Nat.add_zero, ha1]
  · refine le_sub ⟨rfl, rfl, rfl, rfl, ?_, ?_, trivial⟩ ?_ rfl
    · show some (AV.ref 1 0 1 0 _) = some (AV.ref 1 0 1 0 (L - b.length)); rw [← e0]
    · show some (AV.v (.int .i64 ((L : Int) - (b.length : Int) - 1))) = some (AV.v (.int .i64 (((L - b.length : Nat) : Int) - 1)))
      congr 3
      omega
    · show [(1, [Row.mk 1 (u64s (List.replicate (L - b.length) 0))]), (0, [Row.mk 1 (u64s a)])] = _
      rw [← u64s_zero, ← e0]; rfl
  rintro ⟨⟨k, a', o⟩, hk, hal, hap, hol, hop, hlt, hinv⟩
  simp only at hk hal hap hol hop hlt hinv ⊢
  clear ha1 ha2 ha3 hL a
  repeat (first|refine z2 ?_|refine z1 ?_|refine z3 ?_|refine z4 ?_|refine z5 ?_)
  refine awp_cond rfl (fun h => ?_) (fun h => ?_)
  · have hk0 : 0 < k := by have := of_decide_eq_true h; omega
    obtain ⟨i, rfl⟩ : ∃ i, k = i + 1 := ⟨k - 1, by omega⟩
    clear h hk0
    obtain ⟨n, hn⟩ : ∃ n, b.length = n + 2 := ⟨b.length - 2, by omega⟩
    -- the pieces on top
    have hVn : vp b < B ^ (n + 2) := by have := vp_lt hbp; rwa [hn] at this
    have hPos : 0 < B ^ i := Nat.pow_pos B_pos
    have hAlt : vp a' < B ^ (i + n + 3) := by
      refine Nat.lt_of_lt_of_le hlt ?_
      rw [show i + n + 3 = (i + 1) + (n + 2) by omega, Nat.pow_add B (i + 1)]
      exact Nat.mul_le_mul_left _ (Nat.le_of_lt hVn)
    have tA := vp_top (l := a') (j := i + n) (by omega) hAlt
    have tV := vp_top2 (l := b) (j := n) hn
    have hE : B ^ (i + n) = B ^ n * B ^ i := by rw [Nat.add_comm, Nat.pow_add]
    have hLA : vp (a'.take (i + n)) < B ^ (i + n) := by
      have := vp_lt (l := a'.take (i + n)) (fun d hd => hap d (List.mem_of_mem_take hd))
      rwa [List.length_take, Nat.min_eq_left (by omega)] at this
    have hMV : vp (b.take n) < B ^ n := by
      have := vp_lt (l := b.take n) (fun d hd => hbp d (List.mem_of_mem_take hd))
      rwa [List.length_take, Nat.min_eq_left (by omega)] at this
    have g1 := pcs_get hap (i + n)
    have g2 := pcs_get hap (i + n + 1)
    have g3 := pcs_get hap (i + n + 2)
    have f1 := pcs_get hbp n
    have f2 := pcs_get hbp (n + 1)
    have hb1 : 0 < b.getD (n + 1) 0 := by
      rcases Nat.eq_zero_or_pos (b.getD (n + 1) 0) with h0 | h0
      · exfalso
        rw [h0, Nat.mul_zero, Nat.add_zero] at tV
        have h3 := Nat.mul_le_mul_left (B ^ n) (show b.getD n 0 + 1 ≤ B by omega)
        rw [Nat.mul_add, Nat.mul_one] at h3
        rw [show b.length - 1 = n + 1 by omega, Nat.pow_succ] at hV1
        omega
      · exact h0
    have lo : (a'.getD (i + n + 2) 0 : Nat) * B + (a'.getD (i + n + 1) 0) = a'.getD (i + n + 1) 0 + a'.getD (i + n + 2) 0 * B := Nat.add_comm _ _
    have hhigh := kn_high _ _ _ _ _ _ _ _ _ _ _ _ tA tV hMV f1 hE (by rw [← Nat.pow_succ]; exact hlt)
    have hguess := kn_guess (a'.getD (i + n + 1) 0) _ _ hhigh g2 hb1
    rw [lo] at hguess
    have hHB : a'.getD (i + n + 1) 0 + a'.getD (i + n + 2) 0 * B ≤ 999999999999999999 := by rw [hBv] at g2 g3 ⊢; omega
    obtain ⟨H, hH⟩ : ∃ H, H = a'.getD (i + n + 1) 0 + a'.getD (i + n + 2) 0 * B := ⟨_, rfl⟩
    have hHe : (a'.getD (i + n + 2) 0 : Int) * 1000000000 + (a'.getD (i + n + 1) 0 : Nat) = (H : Int) := by rw [hH, hBv]; omega
    rw [← hH] at tA hguess hHB
    have hfirst := kn_first _ _ _ _ _ _ _ _ _ _ _ (H / b.getD (n + 1) 0) (H % b.getD (n + 1) 0) tA hLA g1 tV hE (by rw [Nat.mul_comm]; exact Nat.div_add_mod _ _) (Nat.mod_lt _ hb1)
    have hdm := Nat.div_add_mod H (b.getD (n + 1) 0)
    rw [Nat.mul_comm] at hdm
    repeat (first|refine z2 ?_|refine z1 ?_|refine z3 ?_|refine z4 ?_|refine z5 ?_)
    refine awp_region_draw [] hmix (by kernel_rfl) ?_
    repeat (first|refine z2 ?_|refine z1 ?_|refine z3 ?_|refine z4 ?_|refine z5 ?_)
    refine al_pure hT rfl (pure_load_adr rfl rfl rfl rfl (u64s_at (j := i + n + 2) (by omega) (by omega))) rfl rfl True.intro ?_
    repeat (first|refine z2 ?_|refine z1 ?_|refine z3 ?_|refine z4 ?_|refine z5 ?_)
    refine al_pure hT rfl (pure_load_adr rfl rfl rfl rfl (u64s_at (j := i + n + 1) (by omega) (by omega))) rfl rfl True.intro ?_
    repeat (first|refine z2 ?_|refine z1 ?_|refine z3 ?_|refine z4 ?_|refine z5 ?_)
    rw [hHe]
    refine awp_region_draw [] hmix (by kernel_rfl) ?_
    repeat (first|refine z2 ?_|refine z1 ?_|refine z3 ?_|refine z4 ?_|refine z5 ?_)
    refine al_pure hT rfl (pure_load_pt rfl rfl rfl (u64s_drop (j := n + 1) (by omega) (by omega))) rfl rfl True.intro ?_
    have q1 : (H : Int).tdiv (b.getD (n + 1) 0 : Nat) = ((H / b.getD (n + 1) 0 : Nat) : Int) := rfl
    have q2 : (H : Int).tmod (b.getD (n + 1) 0 : Nat) = ((H % b.getD (n + 1) 0 : Nat) : Int) := rfl
    have hmodlt := Nat.mod_lt H hb1
    generalize H / b.getD (n + 1) 0 = s0 at q1 hguess hfirst hdm
    generalize H % b.getD (n + 1) 0 = r0 at q2 hmodlt hdm
    have q3 : 0 ≤ (H : Int).tdiv (b.getD (n + 1) 0 : Nat) ∧ (H : Int).tdiv (b.getD (n + 1) 0 : Nat) ≤ 18446744073709551615 := by rw [q1]; omega
    have q4 : 0 ≤ (H : Int).tmod (b.getD (n + 1) 0 : Nat) ∧ (H : Int).tmod (b.getD (n + 1) 0 : Nat) ≤ 18446744073709551615 := by rw [q2]; omega
    repeat (first|refine z2 ?_|refine z1 ?_|refine z3 ?_|refine z4 ?_|refine z5 ?_)
    refine al_pure hT rfl (pure_load_pt rfl rfl rfl (u64s_drop (j := n + 1) (by omega) (by omega))) rfl rfl True.intro ?_
    repeat (first|refine z2 ?_|refine z1 ?_|refine z3 ?_|refine z4 ?_|refine z5 ?_)
    -- the guess
    refine awp_loop (fun y : { y : Nat × Nat // y.1 * b.getD (n + 1) 0 + y.2 = H ∧ y.1 ≤ 2 * B ∧ vp a' < (y.1 + 1) * vp b * B ^ i } => ⟨[(6, .v (.int .u64 F)), (7, .ref 0 0 1 0 L), (8, .sl 1 b.length (u64s b)), (9, .v (.int .i64 b.length)), (10, .ref 1 0 1 0 (L - b.length)), (11, .v (.int .i64 (((i + 1 : Nat) : Int) - 1))), (12, .v (.int .u64 H)), (13, .v (.int .u64 y.1.1)), (14, .v (.int .u64 y.1.2))], [(1, [⟨1, u64s o⟩]), (0, [⟨1, u64s a'⟩])], 2⟩) (fun y => y.1.1)
      ⟨(s0, r0), hdm, hguess, hfirst⟩ (le_sub ⟨rfl, rfl, rfl, rfl, rfl, rfl, rfl, by rw [← q1]; rfl, by rw [← q2]; rfl, trivial⟩ rfl rfl) ?_
    rintro ⟨⟨g, r⟩, e1, e2, e3⟩
    simp only at e1 e2 e3 ⊢
    clear q1 q2 q3 q4 hmodlt hguess hfirst hdm s0 r0
    have hrH : r ≤ 999999999999999999 := by omega
    have hgb : ((g : Nat) : Int) * (b.getD n 0 : Nat) ≤ 2000000000000000000 ∧ 0 ≤ ((g : Nat) : Int) * (b.getD n 0 : Nat) := by
      have := Nat.mul_le_mul e2 (Nat.le_of_lt f1)
      rw [← Int.natCast_mul]
      rw [hBv] at this
      omega
    repeat (first | refine awp_seq ?_ | refine awp_block ?_)
    obtain ⟨cnd, hcnd⟩ : ∃ c : Bool, c = decide (B ≤ g ∨ (r < B ∧ r * B + a'.getD (i + n) 0 < g * b.getD n 0)) := ⟨_, rfl⟩
    refine awp_at ⟨[(6, .v (.int .u64 F)), (7, .ref 0 0 1 0 L), (8, .sl 1 b.length (u64s b)), (9, .v (.int .i64 b.length)), (10, .ref 1 0 1 0 (L - b.length)), (11, .v (.int .i64 (((i + 1 : Nat) : Int) - 1))), (12, .v (.int .u64 H)), (13, .v (.int .u64 g)), (14, .v (.int .u64 r)), (111, .v (.bool cnd))], [(1, [⟨1, u64s o⟩]), (0, [⟨1, u64s a'⟩])], 2⟩ ?_ ?_
    · refine awp_region_draw [] hmix (by kernel_rfl) ?_
      by_cases hgB : B ≤ g
      · have hdA : decide ((g : Int) ≥ 1000000000) = true := decide_eq_true (by omega)
        repeat (first|refine z2 ?_|refine z1 ?_|refine z3 ?_|refine z4 ?_|refine z5 ?_|refine z8 ?_|refine z9 ?_)
        refine al_pick rfl rfl rfl (v := decide ((g : Int) ≥ 1000000000)) (r := .v (.bool true)) (by rw [hdA]; rfl) rfl rfl ?_
        repeat (first|refine z2 ?_|refine z1 ?_|refine z3 ?_|refine z4 ?_|refine z5 ?_)
        refine le_sub ⟨rfl, rfl, rfl, rfl, rfl, rfl, rfl, rfl, rfl, ?_, trivial⟩ rfl rfl
        rw [hcnd, decide_eq_true (show B ≤ g ∨ (r < B ∧ r * B + a'.getD (i + n) 0 < g * b.getD n 0) from .inl hgB)]; rfl
      · have hdA : decide ((g : Int) ≥ 1000000000) = false := decide_eq_false (by omega)
        by_cases hrB : r < B
        · have hdB : decide ((r : Int) < 1000000000) = true := decide_eq_true (by omega)
          have hr9 : ((r : Nat) : Int) * 1000000000 ≤ 999999999000000000 := by omega
          repeat (first|refine z2 ?_|refine z1 ?_|refine z3 ?_|refine z4 ?_|refine z5 ?_|refine z8 ?_|refine z9 ?_)
          refine al_on hT rfl rfl rfl (by first | (rw [hdA]; rfl) | (rw [hdB]; rfl)) (pure_load_pt rfl rfl rfl (u64s_drop (j := n) (by omega) (by omega))) rfl rfl True.intro ?_
          repeat (first|refine z2 ?_|refine z1 ?_|refine z3 ?_|refine z4 ?_|refine z5 ?_|refine z8 ?_|refine z9 ?_)
          refine al_on hT rfl rfl rfl (by first | (rw [hdA]; rfl) | (rw [hdB]; rfl)) (pure_load_adr rfl rfl rfl rfl (u64s_at (j := i + n) (by omega) (by omega))) rfl rfl True.intro ?_
          repeat (first|refine z2 ?_|refine z1 ?_|refine z3 ?_|refine z4 ?_|refine z5 ?_|refine z8 ?_|refine z9 ?_)
          refine le_sub ⟨rfl, rfl, rfl, rfl, rfl, rfl, rfl, rfl, rfl, ?_, trivial⟩ rfl rfl
          show some (AV.v (.bool (cond (decide ((g : Int) ≥ 1000000000)) true (cond (decide ((r : Int) < 1000000000)) (decide ((g : Int) * (b.getD n 0 : Nat) > (r : Int) * 1000000000 + (a'.getD (i + n) 0 : Nat))) false)))) = some (AV.v (.bool cnd))
          refine pick_three _ _ _ _ hdA hdB ?_
          rw [hcnd]
          have hm : ((g * b.getD n 0 : Nat) : Int) = (g : Int) * (b.getD n 0 : Nat) := Int.natCast_mul _ _
          by_cases hh : r * B + a'.getD (i + n) 0 < g * b.getD n 0
          · rw [decide_eq_true (show B ≤ g ∨ (r < B ∧ r * B + a'.getD (i + n) 0 < g * b.getD n 0) from .inr ⟨hrB, hh⟩), decide_eq_true]
            rw [← hm]; rw [hBv] at hh; omega
          · rw [decide_eq_false (show ¬ (B ≤ g ∨ (r < B ∧ r * B + a'.getD (i + n) 0 < g * b.getD n 0)) from fun h => h.elim hgB (fun h => hh h.2)), decide_eq_false]
            rw [← hm]; rw [hBv] at hh; omega
        · have hdB : decide ((r : Int) < 1000000000) = false := decide_eq_false (by omega)
          repeat (first|refine z2 ?_|refine z1 ?_|refine z3 ?_|refine z4 ?_|refine z5 ?_|refine z8 ?_|refine z9 ?_)
          refine al_on_pick rfl rfl rfl ?_ rfl (v := decide ((r : Int) < 1000000000)) (r := .v (.bool false)) rfl ?_ rfl rfl ?_
          focus (rw [hdA]; rfl)
          focus (rw [hdB]; rfl)
          refine al_pick rfl rfl rfl (v := decide ((g : Int) ≥ 1000000000)) (r := .v (.bool false)) (by rw [hdA]; rfl) rfl rfl ?_
          repeat (first|refine z2 ?_|refine z1 ?_|refine z3 ?_|refine z4 ?_|refine z5 ?_)
          refine le_sub ⟨rfl, rfl, rfl, rfl, rfl, rfl, rfl, rfl, rfl, ?_, trivial⟩ rfl rfl
          rw [hcnd, decide_eq_false (show ¬ (B ≤ g ∨ (r < B ∧ r * B + a'.getD (i + n) 0 < g * b.getD n 0)) from fun h => h.elim hgB (fun h => hrB h.1))]; rfl
    · refine awp_cond rfl (fun hc => ?_) (fun hc => ?_)
      · rw [hc] at hcnd
        have hc2 := of_decide_eq_true hcnd.symm
        have hless : vp a' < g * vp b * B ^ i := by
          rcases hc2 with h3 | h3
          · refine Nat.lt_of_lt_of_le hlt ?_
            have : B * vp b * B ^ i ≤ g * vp b * B ^ i := Nat.mul_le_mul_right _ (Nat.mul_le_mul_right _ h3)
            have e : B ^ (i + 1) * vp b = B * vp b * B ^ i := by rw [Nat.pow_succ]; grind
            omega
          · exact kn_less _ _ _ _ _ _ _ _ _ _ _ _ _ tA hLA tV hE e1 h3.2
        have hg0 : 0 < g := by
          rcases Nat.eq_zero_or_pos g with h0 | h0
          · subst h0; simp at hless
          · exact h0
        repeat (first|refine z2 ?_|refine z1 ?_|refine z3 ?_|refine z4 ?_|refine z5 ?_)
        refine al_pure hT rfl (pure_load_pt rfl rfl rfl (u64s_drop (j := n + 1) (by omega) (by omega))) rfl rfl True.intro ?_
        repeat (first|refine z2 ?_|refine z1 ?_|refine z3 ?_|refine z4 ?_|refine z5 ?_)
        refine ⟨⟨(g - 1, r + b.getD (n + 1) 0), ?_, by show g - 1 ≤ 2 * B; omega, ?_⟩, le_sub ⟨rfl, rfl, rfl, rfl, rfl, rfl, rfl, ?_, ?_, trivial⟩ rfl rfl, by show g - 1 < g; omega⟩
        · show (g - 1) * b.getD (n + 1) 0 + (r + b.getD (n + 1) 0) = H
          have : (g - 1) * b.getD (n + 1) 0 + b.getD (n + 1) 0 = g * b.getD (n + 1) 0 := by rw [← Nat.succ_mul]; congr 1; omega
          omega
        · show vp a' < (g - 1 + 1) * vp b * B ^ i
          rw [Nat.sub_add_cancel hg0]; exact hless
        · show some (AV.v (.int .u64 ((g : Int) - 1))) = some (AV.v (.int .u64 ((g - 1 : Nat) : Int)))
          congr 3; omega
        · rfl
      · rw [hc] at hcnd
        have hc2 := of_decide_eq_false hcnd.symm
        have hgB : g < B := by omega
        have htest := kn_test g (b.getD n 0) r (a'.getD (i + n) 0) hgB f1 (fun h => hc2 (.inr h))
        have hen := kn_enough _ _ _ _ _ _ _ _ _ _ _ _ _ tA tV hMV hE hb1 e1 hgB htest
        clear hgb
        repeat (first|refine z2 ?_|refine z1 ?_|refine z3 ?_|refine z4 ?_|refine z5 ?_)
        have ht := take_ok (Λ := Λ) a' b g i hap hbp (by omega) (by omega) (by omega)
        obtain ⟨t1, t2, t3, t4, t5⟩ := takeR_inv (at' := i) hap hbp (n := g) (by omega) (b.length + 1) (by omega)
        have t6 := takeR_carry (p := a') (q := b) (n := g) (at' := i) (b.length + 1)
        have t7 := takeR_drop (p := a') (q := b) (n := g) (at' := i) (b.length + 1)
        generalize takeR a' b g i (b.length + 1) = S at ht t1 t2 t3 t4 t5 t6 t7
        obtain ⟨a2, bo, c⟩ := S
        simp only at ht t1 t2 t3 t4 t5 t6 t7
        have ei : ((i + 1 : Nat) : Int) - 1 = (i : Int) := by omega
        rw [hal] at ht t1
        rw [← ei] at ht
        rw [List.take_of_length_le (by omega)] at t5 t6
        have hc0 : c = 0 := by
          rcases Nat.eq_zero_or_pos c with h0 | h0
          · exact h0
          · exfalso
            have h3 : g * vp b < B * B ^ b.length := Nat.mul_lt_mul'' hgB (vp_lt hbp)
            have h4 := Nat.mul_le_mul_right (B ^ (b.length + 1)) h0
            rw [Nat.one_mul, Nat.pow_succ, Nat.mul_comm] at h4
            rw [Nat.pow_succ, Nat.mul_comm (B ^ b.length)] at t6
            omega
        have eQ : i + (b.length + 1) = i + n + 3 := by omega
        have hA2 : vp a2 < B ^ (i + n + 3) := by
          rw [← eQ]
          exact vp_lt_drop t2 (by omega) (by rw [t7, eQ]; exact vp_drop_zero (by omega) hAlt)
        obtain ⟨k1, k2⟩ := kn_left (vp a') (vp a2) (B ^ (i + n + 3)) g (vp b * B ^ i) (g * vp b * B ^ i) bo (Nat.mul_assoc _ _ _) (by rw [t5, hc0, eQ, Nat.add_zero]) t3 hA2 (by rw [← Nat.mul_assoc]; exact e3) hen
        refine al_callw (fun g t => some (g, t)) [(1, [⟨1, u64s o⟩]), (0, [⟨1, u64s a2⟩])] 2 (.v (.bool (decide (0 < bo)))) ht rfl rfl rfl rfl rfl (.cons (.ref rfl Nat.zero_lt_one) (.cons (.refl (nr_u64s _ _)) (.cons (.refl trivial) (.cons (.refl trivial) .nil))))
          (hand_ren ⟨⟨⟨Nat.zero_lt_one, .inr ⟨0, 0, _, rfl, rfl, rfl, WkL.refl (nrl_u64s a')⟩⟩, trivial⟩, trivial⟩ rfl (fun g' t' g t h e => by simp only [Option.some.injEq, Prod.mk.injEq] at e; rw [← e.1]; exact Nat.lt_trans h Nat.one_lt_two)) rfl rfl rfl
          (back_ren ⟨⟨.inr ⟨rfl, rfl⟩, trivial⟩, ⟨.inl ⟨0, 0, _, rfl, rfl, Nat.zero_lt_two, rfl, RnL.refl (hfl_u64s _)⟩, trivial⟩, trivial⟩) (.same trivial) ?_
        obtain ⟨g2, hg2⟩ : ∃ x, x = if 0 < bo then g - 1 else g := ⟨_, rfl⟩
        obtain ⟨a3, ha3⟩ : ∃ x, x = if 0 < bo then (backR a2 b i (b.length + 1)).1 else a2 := ⟨_, rfl⟩
        obtain ⟨c1, c2, c3, c4⟩ := backR_inv (p := a2) (q := b) (at' := i) t2 hbp (b.length + 1) (by omega)
        have c5 := backR_drop (p := a2) (q := b) (at' := i) (b.length + 1)
        have fact : a3.length = L ∧ pcs a3 ∧ vp a3 + g2 * (vp b * B ^ i) = vp a' ∧ vp a3 < vp b * B ^ i ∧ g2 < B := by
          rw [ha3, hg2]
          by_cases hbo : 0 < bo
          · rw [if_pos hbo, if_pos hbo]
            rw [List.take_of_length_le (by omega)] at c4
            have hA3 : vp (backR a2 b i (b.length + 1)).1 < B ^ (i + n + 3) := by
              rw [← eQ]
              exact vp_lt_drop c2 (by omega) (by rw [c5, eQ]; exact vp_drop_zero (by omega) hA2)
            obtain ⟨u1, u2⟩ := k2 hbo
            have u3 := u2 _ _ (by rw [← eQ]; exact c4) hA3 c3
            exact ⟨by omega, c2, u3.1, u3.2, by omega⟩
          · rw [if_neg hbo, if_neg hbo]
            have u3 := k1 (by omega)
            exact ⟨t1, t2, u3.1, u3.2, hgB⟩
        have hback := back_ok (Λ := Λ) a2 b i t2 hbp (by omega) (by omega)
        rw [t1, ← ei] at hback
        refine al_nil ?_
        repeat (first | refine awp_seq ?_ | refine awp_block ?_)
        refine awp_at ⟨[(6, .v (.int .u64 F)), (7, .ref 0 0 1 0 L), (8, .sl 1 b.length (u64s b)), (9, .v (.int .i64 b.length)), (10, .ref 1 0 1 0 (L - b.length)), (11, .v (.int .i64 (((i + 1 : Nat) : Int) - 1))), (13, .v (.int .u64 g2))], [(1, [⟨1, u64s o⟩]), (0, [⟨1, u64s a3⟩])], 2⟩ ?_ ?_
        · refine awp_cond rfl (fun hbo => ?_) (fun hbo => ?_)
          · have hbo := of_decide_eq_true hbo
            have hg0 := (k2 hbo).1
            rw [if_pos hbo] at hg2 ha3
            repeat (first|refine z2 ?_|refine z1 ?_|refine z3 ?_|refine z4 ?_|refine z5 ?_)
            refine al_callw (fun g t => some (g, t)) [(1, [⟨1, u64s o⟩]), (0, [⟨1, u64s (backR a2 b i (b.length + 1)).1⟩])] 2 (.tup []) hback rfl rfl rfl rfl rfl (.cons (.ref rfl Nat.zero_lt_one) (.cons (.refl (nr_u64s _ _)) (.cons (.refl trivial) .nil)))
              (hand_ren ⟨⟨⟨Nat.zero_lt_one, .inr ⟨0, 0, _, rfl, rfl, rfl, WkL.refl (nrl_u64s a2)⟩⟩, trivial⟩, trivial⟩ rfl (fun g' t' g t h e => by simp only [Option.some.injEq, Prod.mk.injEq] at e; rw [← e.1]; exact Nat.lt_trans h Nat.one_lt_two)) rfl rfl rfl
              (back_ren ⟨⟨.inr ⟨rfl, rfl⟩, trivial⟩, ⟨.inl ⟨0, 0, _, rfl, rfl, Nat.zero_lt_two, rfl, RnL.refl (hfl_u64s _)⟩, trivial⟩, trivial⟩) (.same trivial) ?_
            repeat (first|refine z2 ?_|refine z1 ?_|refine z3 ?_|refine z4 ?_|refine z5 ?_)
            refine le_sub ⟨rfl, rfl, rfl, rfl, rfl, rfl, ?_, trivial⟩ ?_ rfl
            · show some (AV.v (.int .u64 ((g : Int) - 1))) = some (AV.v (.int .u64 (g2 : Int)))
              rw [hg2]; congr 3; omega
            · rw [ha3]; rfl
          · have hbo := of_decide_eq_false hbo
            rw [if_neg hbo] at hg2 ha3
            repeat (first|refine z2 ?_|refine z1 ?_|refine z3 ?_|refine z4 ?_|refine z5 ?_)
            refine le_sub ⟨rfl, rfl, rfl, rfl, rfl, rfl, ?_, trivial⟩ ?_ rfl
            · rw [hg2]; rfl
            · rw [ha3]; rfl
        · obtain ⟨v1, v2, v3, v4, v5⟩ := fact
          repeat (first|refine z2 ?_|refine z1 ?_|refine z3 ?_|refine z4 ?_|refine z5 ?_)
          refine al_store hT rfl rfl rfl rfl rfl rfl rfl rfl rfl (by show (0 * 1 + (((i + 1 : Nat) : Int) - 1).toNat * 1) + 1 ≤ (u64s o).length; rw [u64s_len]; omega) (by intro x hx; simp only [List.mem_singleton] at hx; subst hx; rfl) ?_
          repeat (first|refine z2 ?_|refine z1 ?_|refine z3 ?_|refine z4 ?_|refine z5 ?_)
          refine ⟨⟨(i, a3, o.set i g2), by omega, v1, v2, by simpa using hol, pcs_set hop v5, by show vp a3 < B ^ i * vp b; rw [Nat.mul_comm]; exact v4, ?_⟩, le_sub ⟨rfl, rfl, rfl, rfl, rfl, ?_, trivial⟩ ?_ rfl, by show i < i + 1; omega⟩
          · show P * F = vp a3 + vp ((o.set i g2).drop i) * B ^ i * vp b
            rw [drop_set (by omega), vp]
            exact kn_out _ _ _ _ _ _ _ _ rfl (by rw [← Nat.pow_succ]; exact hinv) v3
          · show some (AV.v (.int .i64 (((i + 1 : Nat) : Int) - 1 - 1))) = some (AV.v (.int .i64 ((i : Int) - 1)))
            congr 3
            omega
          · show _ = [(1, [Row.mk 1 (setAll (u64s o) (0 * 1 + (((i + 1 : Nat) : Int) - 1).toNat * 1) [AV.v (.int .u64 (g2 : Int))])]), (0, [Row.mk 1 (u64s a3)])]
            rw [show 0 * 1 + (((i + 1 : Nat) : Int) - 1).toNat * 1 = i by omega, ← u64s_set]
  · have hk0 : k = 0 := by have := of_decide_eq_false h; omega
    subst hk0
    rw [Nat.pow_zero, Nat.one_mul] at hlt
    rw [Nat.pow_zero, List.drop_zero, Nat.mul_one, hbv] at hinv
    rw [hbv] at hlt
    obtain ⟨r1, r2⟩ := kn_fin _ P Q F _ _ hF1 rfl hinv hlt
    have htra : trimL a' = dp (P % Q * F) := by rw [trim_eq hap, r2]
    have htro : trimL o = dp (P / Q) := by rw [trim_eq hop, r1]
    have trA := trim_ok (Λ := Λ) a' (by omega)
    have trO := trim_ok (Λ := Λ) o (by omega)
    rw [hal, htra] at trA
    rw [hol, htro] at trO
    have hsm := small_ok (Λ := Λ) (dp (P % Q * F)) F (pcs_dp _) hF1 (by omega) (by
      have h3 : (dp (P % Q * F)).length ≤ (dp (P * F)).length := (dp_len _ _).2 (Nat.lt_of_le_of_lt (Nat.mul_le_mul_right _ (Nat.mod_le _ _)) ((dp_len _ _).1 (Nat.le_refl _)))
      omega)
    rw [vp_dp, Nat.mul_div_cancel _ hF1] at hsm
    repeat (first|refine z2 ?_|refine z1 ?_|refine z3 ?_|refine z4 ?_|refine z5 ?_)
    refine al_callw (fun g t => some (g, t)) [(1, [⟨1, u64s o⟩]), (0, [⟨1, u64s (dp (P % Q * F))⟩])] 2 (.ref 0 0 1 0 (dp (P % Q * F)).length) trA rfl rfl rfl rfl rfl (.cons (.ref rfl Nat.zero_lt_one) .nil)
      (hand_ren ⟨⟨⟨Nat.zero_lt_one, .inr ⟨0, 0, _, rfl, rfl, rfl, WkL.refl (nrl_u64s a')⟩⟩, trivial⟩, trivial⟩ rfl (fun g' t' g t h e => by simp only [Option.some.injEq, Prod.mk.injEq] at e; rw [← e.1]; exact Nat.lt_trans h Nat.one_lt_two)) rfl rfl rfl
      (back_ren ⟨⟨.inr ⟨rfl, rfl⟩, trivial⟩, ⟨.inl ⟨0, 0, _, rfl, rfl, Nat.zero_lt_two, rfl, RnL.refl (hfl_u64s _)⟩, trivial⟩, trivial⟩) (.ref rfl Nat.zero_lt_two) ?_
    repeat (first|refine z2 ?_|refine z1 ?_|refine z3 ?_|refine z4 ?_|refine z5 ?_)
    refine al_callw (fun _ _ => none) [(1, [⟨1, u64s o⟩]), (2, [⟨1, u64s (dp (P % Q))⟩])] 3 (.tup [.ref 2 0 1 0 (dp (P % Q)).length, .v (.int .u64 (P % Q * F % F : Nat))]) hsm rfl rfl rfl rfl rfl
      (.cons (.frz rfl (fun _ _ h => by cases h) rfl (by show (0 + _) * 1 ≤ (u64s _).length; rw [u64s_len]; omega) (by
        show WkL _ _ _ (((u64s (dp (P % Q * F))).drop (0 * 1)).take ((dp (P % Q * F)).length * 1)) _
        rw [Nat.zero_mul, List.drop_zero, Nat.mul_one, List.take_of_length_le (by rw [u64s_len]; exact Nat.le_refl _)]
        exact WkL.refl (nrl_u64s _))) (.cons (.refl trivial) .nil))
      (hand_ren trivial rfl (fun g' _ _ _ h => absurd h (Nat.not_lt_zero _))) rfl rfl rfl
      (back_ren ⟨⟨.inr ⟨rfl, rfl⟩, trivial⟩, ⟨.inl ⟨0, 0, _, rfl, rfl, by omega, rfl, RnL.refl (hfl_u64s _)⟩, trivial⟩, trivial⟩) (.tup (.cons (.ref rfl (by omega)) (.cons (.same trivial) .nil))) ?_
    repeat (first|refine z2 ?_|refine z1 ?_|refine z3 ?_|refine z4 ?_|refine z5 ?_)
    refine al_callw (fun g t => cond (Nat.beq g 0) (some (1, t)) none) [(1, [⟨1, u64s (dp (P / Q))⟩]), (2, [⟨1, u64s (dp (P % Q))⟩])] 3 (.ref 1 0 1 0 (dp (P / Q)).length) trO rfl rfl rfl rfl rfl (.cons (.ref rfl Nat.zero_lt_one) .nil)
      (hand_ren ⟨⟨⟨Nat.zero_lt_one, .inr ⟨1, 0, _, rfl, rfl, rfl, WkL.refl (nrl_u64s o)⟩⟩, trivial⟩, trivial⟩ rfl (fun g' t' g t h e => by
        have : g' = 0 := Nat.lt_one_iff.1 h
        subst this
        cases e
        show 1 < 3
        omega)) rfl rfl rfl
      (back_ren ⟨⟨.inl ⟨0, 0, _, rfl, rfl, by omega, rfl, RnL.refl (hfl_u64s _)⟩, trivial⟩, ⟨.inr ⟨rfl, rfl⟩, trivial⟩, trivial⟩) (.ref rfl (by omega)) ?_
    repeat (first|refine z2 ?_|refine z1 ?_|refine z3 ?_|refine z4 ?_|refine z5 ?_)
    refine awp_ret ⟨.inl rfl, ⟨[(4, .ref 0 0 1 0 (dp (P / Q)).length), (5, .ref 1 0 1 0 (dp (P % Q)).length)], [(0, [⟨1, u64s (dp (P / Q))⟩]), (1, [⟨1, u64s (dp (P % Q))⟩])], 2⟩, le_ren (fun g t => cond (Nat.beq g 0) (some (1, t)) (cond (Nat.beq g 1) (some (2, t)) none)) ⟨⟨_, rfl, .ref rfl Nat.zero_lt_two⟩, ⟨_, rfl, .ref rfl Nat.one_lt_two⟩, trivial⟩ ⟨⟨⟨Nat.zero_lt_two, .inr ⟨1, 0, _, rfl, rfl, rfl, WkL.refl (nrl_u64s _)⟩⟩, trivial⟩, ⟨⟨Nat.one_lt_two, .inr ⟨2, 0, _, rfl, rfl, rfl, WkL.refl (nrl_u64s _)⟩⟩, trivial⟩, trivial⟩ rfl ⟨by show β0.length ≤ _; rw [hβ]; exact Nat.zero_le _, fun g t h => by (have h' : g < β0.length := h); rw [hβ] at h'; exact absurd h' (Nat.not_lt_zero _)⟩, rfl, rfl, rfl⟩
theorem divide_okp (P Q : Nat) (hPQ : Q ≤ P) (h2 : 2 ≤ (dp Q).length) (hl : (dp P).length ≤ 400000000000) : OkP Λ Tryz.prog 213 [.sl 1 (dp P).length (u64s (dp P)), .sl 1 (dp Q).length (u64s (dp Q))] (.tup [.sl 1 (dp (P / Q)).length (u64s (dp (P / Q))), .sl 1 (dp (P % Q)).length (u64s (dp (P % Q)))]) :=
  okp_of_okw (divide_ok P Q hPQ h2 hl) (.tup (.cons (frz_u64s2 rfl) (.cons (frz_u64s2 rfl) .nil))) ⟨nrl_u64s _, nrl_u64s _, trivial⟩
end Go.Proofs.YtlbhgejbfhhipaaGreatDoor

/- Walks: from numerals to pieces and back. -/
namespace Go.Proofs.YtlbhgejbfhhipaaGreatDoor
open Go Go.Am Go.Lib Go.Sp Z1 Z2 Z3 Z4 Z5 Z6
variable {Λ : Lai}
theorem ext_list (s : ByteArray) (a b : Nat) : (s.extract a b).data.toList = (s.data.toList.drop a).take (b - a) := by
  rw [ByteArray.data_extract, Array.toList_extract]
theorem u8s_drop {l : List UInt8} {i j : Nat} (h : i = j) (hj : j < l.length) : ((u8s l).drop i)[0]? = some (.v (.int .u8 (l[j].toNat : Nat))) := by
  subst h; simp [u8s, hj]
theorem pcs_nil : pcs [] := fun d h => by cases h
set_option maxRecDepth 10000 in
theorem cut_ok (N : Nat) (h : okN N) : OkW Λ Tryz.prog 191 [.v (.string (numS N))] ⟨[], [], 0⟩ (.ref 0 0 1 0 (dp N).length) ⟨[], [(0, [⟨1, u64s (dp N)⟩])], 1⟩ := by
  refine okw_intro hT 44 Tryz.func191 rfl rfl rfl (Nat.le_of_ble_eq_true rfl) (Nat.zero_le _) ?_
  intro w0 F0 I β0 hβ
  unfold okN at h
  have hsz := numS_size N
  obtain ⟨L, hL⟩ : ∃ L, L = (numS N).size := ⟨_, rfl⟩
  have htd : 0 ≤ (((numS N).size : Nat) : Int).tdiv 9 ∧ (((numS N).size : Nat) : Int).tdiv 9 ≤ 4000000000000 := by
    rw [Int.tdiv_eq_ediv_of_nonneg (by omega)]; omega
  repeat (first|refine z2 ?_|refine z1 ?_|refine z3 ?_|refine z4 ?_|refine z5 ?_)
  refine al_make hT rfl rfl rfl rfl rfl rfl rfl rfl rfl rfl (by omega) (by omega) (by show (8 : Int) * _ ≤ _; omega) (by omega) ?_
  repeat (first|refine z2 ?_|refine z1 ?_|refine z3 ?_|refine z4 ?_|refine z5 ?_)
  refine awp_loop (fun x : { x : Nat × List Nat // 9 * x.1 < L + 9 ∧ x.2.length = x.1 ∧ pcs x.2 ∧ vp x.2 = val ((decDigits N).drop (L - 9 * x.1)) } => ⟨[(0, .v (.string (numS N))), (3, .ref 0 0 1 0 x.1.2.length), (4, .v (.int .i64 ((L : Int) - 9 * x.1.1)))], [(0, [⟨1, u64s x.1.2⟩])], 1⟩) (fun x => L + 9 - 9 * x.1.1)
    ⟨(0, []), by omega, rfl, pcs_nil, by rw [hL, hsz]; simp [vp, val]⟩ (le_sub ⟨rfl, rfl, by show _ = some (AV.v (.int .i64 ((L : Int) - 9 * ((0 : Nat) : Int)))); rw [hL, show (((numS N).size : Nat) : Int) - 9 * ((0 : Nat) : Int) = ((numS N).size : Nat) by omega]; rfl, trivial⟩ rfl rfl) ?_
  rintro ⟨⟨k, o⟩, hk, hol, hop, hv⟩
  simp only at hk hol hop hv ⊢
  repeat (first|refine z2 ?_|refine z1 ?_|refine z3 ?_|refine z4 ?_|refine z5 ?_)
  refine awp_cond rfl (fun h' => ?_) (fun h' => ?_)
  · have hpos : 9 * k < L := by have := of_decide_eq_true h'; omega
    repeat (first|refine z2 ?_|refine z1 ?_|refine z3 ?_|refine z4 ?_|refine z5 ?_)
    obtain ⟨ch, hch⟩ : ∃ ch, ch = ((decDigits N).drop (L - 9 * (k + 1))).take (L - 9 * k - (L - 9 * (k + 1))) := ⟨_, rfl⟩
    have hex : ((numS N).extract (max 0 ((L : Int) - 9 * (k : Int) - 9)).toNat ((L : Int) - 9 * (k : Int)).toNat).data.toList = ch := by
      rw [ext_list, numS_list, hch]
      congr 2 <;> omega
    have hexs : ((numS N).extract (max 0 ((L : Int) - 9 * (k : Int) - 9)).toNat ((L : Int) - 9 * (k : Int)).toNat).size = ch.length := by rw [← hex]; exact (Array.length_toList).symm
    have hchd : digs ch := fun c hc => dec_digs N c (by rw [hch] at hc; exact List.mem_of_mem_drop (List.mem_of_mem_take hc))
    have hchl : ch.length ≤ 9 := by rw [hch, List.length_take, List.length_drop]; omega
    have hcut := val_chunk (decDigits N) (L - 9 * (k + 1)) (L - 9 * k) (by omega)
    rw [← hch] at hcut
    refine al_bytes hT rfl rfl rfl rfl rfl rfl rfl rfl rfl rfl ?_
    rw [hex, hexs]
    repeat (first|refine z2 ?_|refine z1 ?_|refine z3 ?_|refine z4 ?_|refine z5 ?_)
    refine awp_loop (fun y : { y : Nat // y ≤ ch.length } => ⟨[(0, .v (.string (numS N))), (3, .ref 0 0 1 0 o.length), (4, .v (.int .i64 ((L : Int) - 9 * k))), (5, .v (.int .u64 (val (ch.take y.1) : Nat))), (25, .sl 1 ch.length (u8s ch)), (26, .v (.int .i64 ch.length)), (27, .v (.int .i64 y.1))], [(0, [⟨1, u64s o⟩])], 1⟩) (fun y => ch.length - y.1)
      ⟨0, Nat.zero_le _⟩ (le_sub ⟨rfl, rfl, rfl, rfl, rfl, rfl, rfl, trivial⟩ rfl rfl) ?_
    rintro ⟨j, hj⟩
    simp only at hj ⊢
    have hvj : val (ch.take j) < 1000000000 := by
      have h1 := val_lt (l := ch.take j) (fun c hc => hchd c (List.mem_of_mem_take hc))
      have h2 : (ch.take j).length ≤ 9 := by rw [List.length_take]; omega
      exact Nat.lt_of_lt_of_le h1 (Nat.le_trans (Nat.pow_le_pow_right (by omega) h2) (by decide))
    repeat (first|refine z2 ?_|refine z1 ?_|refine z3 ?_|refine z4 ?_|refine z5 ?_)
    refine awp_cond rfl (fun hc => ?_) (fun hc => ?_)
    · have hjl : j < ch.length := by have := of_decide_eq_true hc; omega
      have hdj : isDig ch[j] := hchd _ (List.getElem_mem hjl)
      unfold isDig at hdj
      repeat (first|refine z2 ?_|refine z1 ?_|refine z3 ?_|refine z4 ?_|refine z5 ?_)
      refine al_pure hT rfl (pure_load_pt rfl rfl rfl (u8s_drop (j := j) (by omega) hjl)) rfl rfl True.intro ?_
      repeat (first|refine z2 ?_|refine z1 ?_|refine z3 ?_|refine z4 ?_|refine z5 ?_)
      refine ⟨⟨j + 1, hjl⟩, le_sub ⟨rfl, rfl, rfl, ?_, rfl, rfl, rfl, trivial⟩ rfl rfl, by show ch.length - (j + 1) < ch.length - j; omega⟩
      show some (AV.v (.int .u64 (10 * (val (ch.take j) : Nat) + ((ch[j].toNat : Int) - 48)))) = some (AV.v (.int .u64 (val (ch.take (j + 1)) : Nat)))
      rw [val_take_succ hjl]
      congr 3
      omega
    · have hjl : j = ch.length := by have := of_decide_eq_false hc; omega
      subst hjl
      rw [List.take_length] at hvj ⊢
      repeat (first|refine z2 ?_|refine z1 ?_|refine z3 ?_|refine z4 ?_|refine z5 ?_)
      refine al_litF hT rfl rfl rfl rfl rfl rfl rfl rfl rfl ?_
      refine al_append hT rfl rfl rfl rfl rfl rfl rfl rfl rfl rfl rfl rfl rfl (by show (u64s _).length = _ * 1; rw [u64s_len, Nat.mul_one]) (fun g r h e => by cases e; cases h; rfl) (by intro x hx; simp only [List.append_nil, List.mem_singleton] at hx; subst hx; rfl) (by show (_ + 1) * 8 ≤ _; omega) (by omega) ?_
      repeat (first|refine z2 ?_|refine z1 ?_|refine z3 ?_|refine z4 ?_|refine z5 ?_)
      refine ⟨⟨(k + 1, o ++ [val ch]), by omega, by simp [hol], pcs_snoc hop (by unfold B; exact hvj), ?_⟩, ?_, by show L + 9 - 9 * (k + 1) < L + 9 - 9 * k; omega⟩
      · show vp (o ++ [val ch]) = val ((decDigits N).drop (L - 9 * (k + 1)))
        rw [vp_snoc, hcut, hv, hol, pow_nine, ← hsz, ← hL, show L - (L - 9 * k) = 9 * k by omega, Nat.mul_comm (val ch), Nat.add_comm]
      · refine le_ren (fun g t => cond (Nat.beq g 0) (some (1, t)) none) ⟨⟨_, rfl, .refl trivial⟩, ⟨.ref 1 0 1 0 (o ++ [val ch]).length, by rw [List.length_append]; rfl, .ref rfl Nat.zero_lt_one⟩, ⟨_, by show _ = some (AV.v (.int .i64 ((L : Int) - 9 * ((k + 1 : Nat) : Int)))); rw [show (L : Int) - 9 * ((k + 1 : Nat) : Int) = (L : Int) - 9 * (k : Int) - 9 by omega]; rfl, .refl trivial⟩, trivial⟩ ⟨⟨⟨Nat.zero_lt_one, .inr ⟨1, 0, _, rfl, rfl, rfl, ?_⟩⟩, trivial⟩, trivial⟩ rfl ⟨by show β0.length ≤ _; rw [hβ]; exact Nat.zero_le _, fun g t h => by (have h' : g < β0.length := h); rw [hβ] at h'; exact absurd h' (Nat.not_lt_zero _)⟩
        exact wkl_eq (u64s_snoc _ _) (nrl_u64s _)
  · have hle : L ≤ 9 * k := by have := of_decide_eq_false h'; omega
    have hvN : vp o = N := by rw [hv, show L - 9 * k = 0 by omega, List.drop_zero, val_dec]
    have htr : trimL o = dp N := by rw [trim_eq hop, hvN]
    have tr := trim_ok (Λ := Λ) o (by omega)
    rw [htr] at tr
    repeat (first|refine z2 ?_|refine z1 ?_|refine z3 ?_|refine z4 ?_|refine z5 ?_)
    refine al_callw (fun g t => some (g, t)) [(0, [⟨1, u64s (dp N)⟩])] 1 (.ref 0 0 1 0 (dp N).length) tr rfl rfl rfl rfl rfl (.cons (.ref rfl Nat.zero_lt_one) .nil) (hand_ren ⟨⟨⟨Nat.zero_lt_one, .inr ⟨0, 0, _, rfl, rfl, rfl, WkL.refl (nrl_u64s o)⟩⟩, trivial⟩, trivial⟩ rfl (fun g' t' g t h e => by simp only [Option.some.injEq, Prod.mk.injEq] at e; rw [← e.1]; exact h)) rfl rfl rfl
      (back_ren ⟨⟨.inl ⟨0, 0, _, rfl, rfl, Nat.zero_lt_one, rfl, RnL.refl (hfl_u64s _)⟩, trivial⟩, trivial⟩) (.ref rfl Nat.zero_lt_one) ?_
    repeat (first|refine z2 ?_|refine z1 ?_|refine z3 ?_|refine z4 ?_|refine z5 ?_)
    exact awp_ret ⟨.inl rfl, _, Le.refl _ _, rfl, rfl, rfl⟩
theorem cut_okp (N : Nat) (h : okN N) : OkP Λ Tryz.prog 191 [.v (.string (numS N))] (.sl 1 (dp N).length (u64s (dp N))) := okp_of_okw (cut_ok N h) (frz_u64s _) (nr_u64s _ _)
end Go.Proofs.YtlbhgejbfhhipaaGreatDoor

/- Walks: bytes turned round, pieces as texts. -/
namespace Go.Proofs.YtlbhgejbfhhipaaGreatDoor
open Go Go.Am Go.Lib Go.Sp Z1 Z2 Z3 Z4 Z5 Z6
variable {Λ : Lai}
theorem u8s_set (l : List UInt8) (i : Nat) (v : UInt8) : setAll (u8s l) i [AV.v (.int .u8 (v.toNat : Int))] = u8s (l.set i v) := by
  simp [setAll, u8s, List.map_set]
theorem u8s_len (l : List UInt8) : (u8s l).length = l.length := by simp [u8s]
theorem nrl_u8s (l : List UInt8) : nrl (u8s l) := nrl_v _ l
theorem hfl_u8s (l : List UInt8) : hfl (u8s l) := hfl_v _ l
theorem u8s_at {l : List UInt8} {i j : Nat} (h : i = j) (hj : j < l.length) : (u8s l)[i]? = some (.v (.int .u8 (l[j].toNat : Nat))) := by
  subst h; simp [u8s, hj]
set_option maxRecDepth 10000 in
theorem reverse_ok (l : List UInt8) (hl : l.length ≤ 100000000000000) : OkW Λ Tryz.prog 243 [.ref 0 0 1 0 l.length] ⟨[], [(0, [⟨1, u8s l⟩])], 1⟩ (.tup []) ⟨[], [(0, [⟨1, u8s l.reverse⟩])], 1⟩ := by
  refine okw_intro hT 28 Tryz.func243 rfl rfl rfl (Nat.le_of_ble_eq_true rfl) (Nat.le_refl _) ?_
  intro w0 F0 I β0 hβ
  repeat (first|refine z2 ?_|refine z1 ?_|refine z3 ?_|refine z4 ?_|refine z5 ?_)
  refine awp_loop (fun x : { x : Nat × List UInt8 // x.2.length = l.length ∧ (∀ k (hk : k < x.2.length), x.2[k] = if k < x.1 ∨ l.length - 1 - k < x.1 then l[l.length - 1 - k]?.getD 0 else l[k]?.getD 0) ∧ x.1 ≤ l.length } => ⟨[(0, .ref 0 0 1 0 l.length), (2, .v (.int .i64 x.1.1)), (3, .v (.int .i64 ((l.length : Int) - 1 - x.1.1)))], [(0, [⟨1, u8s x.1.2⟩])], 1⟩) (fun x => l.length - x.1.1)
    ⟨(0, l), rfl, fun k hk => by simp [hk], Nat.zero_le _⟩ (le_sub ⟨rfl, rfl, by show _ = some (AV.v (.int .i64 ((l.length : Int) - 1 - ((0 : Nat) : Int)))); rw [show (l.length : Int) - 1 - ((0 : Nat) : Int) = (l.length : Int) - 1 by omega]; rfl, trivial⟩ rfl rfl) ?_
  rintro ⟨⟨i, R⟩, hR, hv, hi⟩
  simp only at hR hv hi ⊢
  repeat (first|refine z2 ?_|refine z1 ?_|refine z3 ?_|refine z4 ?_|refine z5 ?_)
  refine awp_cond rfl (fun h => ?_) (fun h => ?_)
  · have hlt : 2 * i + 1 < l.length := by have := of_decide_eq_true h; omega
    repeat (first|refine z2 ?_|refine z1 ?_|refine z3 ?_|refine z4 ?_|refine z5 ?_)
    refine awp_region_draw [] hmix (by kernel_rfl) ?_
    repeat (first|refine z2 ?_|refine z1 ?_|refine z3 ?_|refine z4 ?_|refine z5 ?_)
    refine al_pure hT rfl (pure_load_adr rfl rfl rfl rfl (u8s_at (j := l.length - 1 - i) (by omega) (by omega))) rfl rfl True.intro ?_
    repeat (first|refine z2 ?_|refine z1 ?_|refine z3 ?_|refine z4 ?_|refine z5 ?_)
    refine al_pure hT rfl (pure_load_adr rfl rfl rfl rfl (u8s_at (j := i) (by omega) (by omega))) rfl rfl True.intro ?_
    repeat (first|refine z2 ?_|refine z1 ?_|refine z3 ?_|refine z4 ?_|refine z5 ?_)
    refine al_store hT rfl rfl rfl rfl rfl rfl rfl rfl rfl (by show (0 * 1 + (i : Int).toNat * 1) + 1 ≤ (u8s R).length; rw [u8s_len]; omega) (by intro x hx; simp only [List.mem_singleton] at hx; subst hx; rfl) ?_
    repeat (first|refine z2 ?_|refine z1 ?_|refine z3 ?_|refine z4 ?_|refine z5 ?_)
    refine al_store hT rfl rfl rfl rfl rfl rfl rfl rfl rfl (by show (0 * 1 + ((l.length : Int) - 1 - (i : Int)).toNat * 1) + 1 ≤ (setAll (u8s R) _ _).length; rw [u8s_set, u8s_len, List.length_set]; omega) (by intro x hx; simp only [List.mem_singleton] at hx; subst hx; rfl) ?_
    repeat (first|refine z2 ?_|refine z1 ?_|refine z3 ?_|refine z4 ?_|refine z5 ?_)
    refine ⟨⟨(i + 1, (R.set i (R[l.length - 1 - i]'(by omega))).set (l.length - 1 - i) (R[i]'(by omega))), by simpa using hR, fun k hk => ?_, by omega⟩, le_sub ⟨rfl, rfl, ?_, trivial⟩ ?_ rfl, by show l.length - (i + 1) < l.length - i; omega⟩
    · simp only [List.length_set] at hk
      simp only [List.getElem_set]
      have e1 := hv (l.length - 1 - i) (by omega)
      have e2 := hv i (by omega)
      rw [if_neg (by omega)] at e1 e2
      by_cases h1 : l.length - 1 - i = k
      · subst h1
        rw [if_pos rfl, if_pos (by omega), e2]
        congr 2
        omega
      · rw [if_neg h1]
        by_cases h2 : i = k
        · subst h2
          rw [if_pos rfl, if_pos (by omega), e1]
        · rw [if_neg h2, hv k hk]
          by_cases h3 : k < i ∨ l.length - 1 - k < i
          · rw [if_pos h3, if_pos (by omega)]
          · rw [if_neg h3, if_neg (by omega)]
    · show some (AV.v (.int .i64 ((l.length : Int) - 1 - (i : Int) - 1))) = some (AV.v (.int .i64 ((l.length : Int) - 1 - ((i + 1 : Nat) : Int))))
      congr 3
      omega
    · show _ = [(0, [Row.mk 1 (setAll (setAll (u8s R) (0 * 1 + (i : Int).toNat * 1) [AV.v (.int .u8 ((R[l.length - 1 - i]'(by omega)).toNat : Nat))]) (0 * 1 + ((l.length : Int) - 1 - (i : Int)).toNat * 1) [AV.v (.int .u8 ((R[i]'(by omega)).toNat : Nat))])])]
      rw [show 0 * 1 + (i : Int).toNat * 1 = i by omega, show 0 * 1 + ((l.length : Int) - 1 - (i : Int)).toNat * 1 = l.length - 1 - i by omega, u8s_set, u8s_set]
  · have hge : l.length ≤ 2 * i + 1 := by have := of_decide_eq_false h; omega
    have hfin : R = l.reverse := by
      apply List.ext_getElem (by simp [hR])
      intro k h1 h2
      rw [hv k h1, List.getElem_reverse]
      split
      · rw [List.getElem?_eq_getElem (by omega)]; rfl
      · rw [List.getElem?_eq_getElem (by omega)]
        show l[k] = _
        congr 1
        omega
    subst hfin
    repeat (first|refine z2 ?_|refine z1 ?_|refine z3 ?_|refine z4 ?_|refine z5 ?_)
    exact ⟨.inr rfl, _, Le.refl _ _, rfl, rfl, rfl⟩
theorem u8s_snoc (l : List UInt8) (c : UInt8) {z : Int} (h : z = (c.toNat : Int)) : u8s l ++ ([AV.v (.int .u8 z)] ++ []) = u8s (l ++ [c]) := by subst h; simp [u8s]
theorem frz_cells {st : AS} {ρ : Rho} {m : Nat} {cs : List AV} {k : Nat} (hl : cs.length = k) (hn : nrl cs) : WkL st ρ m ((cs.drop (0 * 1)).take (k * 1)) cs :=
  wkl_eq (by rw [Nat.zero_mul, List.drop_zero, Nat.mul_one, List.take_of_length_le (by omega)]) hn
theorem pick_tt (d1 d3 c : Bool) (h1 : d1 = true) (h3 : d3 = c) : some (AV.v (.bool (cond d1 d3 false))) = some (.v (.bool c)) := by subst h1; subst h3; rfl
theorem pick_tft (d1 d2 d3 c : Bool) (h1 : d1 = true) (h2 : d2 = false) (h3 : d3 = c) : some (AV.v (.bool (cond d1 (cond d2 true d3) false))) = some (.v (.bool c)) := by subst h1; subst h2; subst h3; rfl
set_option maxRecDepth 10000 in
theorem text_ok (N : Nat) (hl : (dp N).length ≤ 400000000000) : OkP Λ Tryz.prog 194 [.sl 1 (dp N).length (u64s (dp N))] (.v (.string (numS N))) := by
  refine okp_intro hT 50 Tryz.func194 rfl rfl rfl (Nat.le_of_ble_eq_true rfl) trivial ?_
  intro w0 F0 I
  repeat (first|refine z2 ?_|refine z1 ?_|refine z3 ?_|refine z4 ?_|refine z5 ?_)
  refine awp_cond rfl (fun h => ?_) (fun h => ?_)
  · have h0 : N = 0 := by
      have := of_decide_eq_true h
      by_cases hN : N = 0
      · exact hN
      · rw [dp_pos hN] at this; simp at this; omega
    repeat (first|refine z2 ?_|refine z1 ?_|refine z3 ?_|refine z4 ?_|refine z5 ?_)
    subst h0
    refine awp_ret ⟨.inl rfl, ret_one rfl ?_⟩
    rw [show numS 0 = ⟨#[48]⟩ by simp [numS, dec_zero]]
    exact .refl trivial
  · have hN : N ≠ 0 := by
      intro e; subst e; rw [dp_zero] at h; simp at h
    have hLpos : 0 < (dp N).length := by rw [dp_pos hN]; simp
    repeat (first|refine z2 ?_|refine z1 ?_|refine z3 ?_|refine z4 ?_|refine z5 ?_)
    refine al_make hT rfl rfl rfl rfl rfl rfl rfl rfl rfl rfl (by omega) (by omega) (by show (1 : Int) * _ ≤ _; omega) (by omega) ?_
    repeat (first|refine z2 ?_|refine z1 ?_|refine z3 ?_|refine z4 ?_|refine z5 ?_)
    obtain ⟨L, hL⟩ : ∃ L, L = (dp N).length := ⟨_, rfl⟩
    have hNL : N / B ^ L = 0 := Nat.div_eq_of_lt ((dp_len N L).1 (by omega))
    refine awp_loop (fun x : { x : Nat × Nat // x.1 ≤ L ∧ x.2 ≤ 9 * x.1 ∧ (x.1 < L → x.2 = 9 * x.1) ∧ (x.1 = L → N / 10 ^ x.2 = 0) ∧ (0 < x.2 → N / 10 ^ (x.2 - 1) ≠ 0) } => ⟨[(0, .sl 1 L (u64s (dp N))), (3, .ref 0 0 1 0 x.1.2), (14, .sl 1 L (u64s (dp N))), (15, .v (.int .i64 L)), (16, .v (.int .i64 x.1.1))], [(0, [⟨1, u8s (fixd x.1.2 N)⟩])], 1⟩) (fun x => L - x.1.1)
      ⟨(0, 0), Nat.zero_le _, by simp, fun _ => rfl, fun e => by omega, fun e => by omega⟩ (le_sub ⟨by rw [hL]; rfl, rfl, by rw [hL]; rfl, by rw [hL]; rfl, rfl, trivial⟩ rfl rfl) ?_
    rintro ⟨⟨i, T0⟩, hi, hT0, hT1, hT2, hT3⟩
    simp only at hi hT0 hT1 hT2 hT3 ⊢
    repeat (first|refine z2 ?_|refine z1 ?_|refine z3 ?_|refine z4 ?_|refine z5 ?_)
    refine awp_cond rfl (fun h1 => ?_) (fun h1 => ?_)
    · have hiL : i < L := by have := of_decide_eq_true h1; omega
      have hT0' := hT1 hiL
      subst hT0'
      have hpi : (dp N).getD i 0 = N / B ^ i % B := dp_getD (by omega)
      obtain ⟨c0, hc0⟩ : ∃ c, c = (dp N).getD i 0 := ⟨_, rfl⟩
      have hcB : c0 < 1000000000 := by rw [hc0]; exact pcs_get (pcs_dp N) i
      obtain ⟨R, hR⟩ : ∃ R, R = N / B ^ (i + 1) := ⟨_, rfl⟩
      have hst : N / 10 ^ (9 * i) = c0 + 10 ^ (9 - 0) * R := by
        rw [← pow_nine, hc0, hpi, hR]
        show N / B ^ i = N / B ^ i % B + B * (N / B ^ (i + 1))
        rw [show B ^ (i + 1) = B ^ i * B from rfl, ← Nat.div_div_eq_div_mul]
        exact (Nat.mod_add_div _ _).symm
      repeat (first|refine z2 ?_|refine z1 ?_|refine z3 ?_|refine z4 ?_|refine z5 ?_)
      refine al_pure hT rfl (pure_load_pt rfl rfl rfl (u64s_drop (j := i) (by omega) (by omega))) rfl rfl True.intro ?_
      rw [← hc0]
      repeat (first|refine z2 ?_|refine z1 ?_|refine z3 ?_|refine z4 ?_|refine z5 ?_)
      refine awp_loop (fun y : { y : Nat × Nat // y.1 ≤ 9 ∧ y.2 = c0 / 10 ^ y.1 ∧ N / 10 ^ (9 * i + y.1) = y.2 + 10 ^ (9 - y.1) * R ∧ (0 < 9 * i + y.1 → N / 10 ^ (9 * i + y.1 - 1) ≠ 0) } => ⟨[(0, .sl 1 L (u64s (dp N))), (3, .ref 0 0 1 0 (9 * i + y.1.1)), (14, .sl 1 L (u64s (dp N))), (15, .v (.int .i64 L)), (16, .v (.int .i64 i)), (4, .v (.int .i64 i)), (5, .v (.int .u64 y.1.2)), (6, .v (.int .i64 y.1.1))], [(0, [⟨1, u8s (fixd (9 * i + y.1.1) N)⟩])], 1⟩) (fun y => 9 - y.1.1)
        ⟨(0, c0), Nat.zero_le _, by simp, hst, hT3⟩ (le_sub ⟨rfl, rfl, rfl, rfl, rfl, rfl, rfl, rfl, trivial⟩ rfl rfl) ?_
      rintro ⟨⟨k, c⟩, hk, hc, hv, hp⟩
      simp only at hk hc hv hp ⊢
      have hcl : c < 1000000000 := by rw [hc]; exact Nat.lt_of_le_of_lt (Nat.div_le_self _ _) hcB
      repeat (first | refine awp_seq ?_ | refine awp_block ?_)
      obtain ⟨cnd, hcnd⟩ : ∃ b : Bool, b = decide (k < 9 ∧ (i + 1 < L ∨ 0 < c)) := ⟨_, rfl⟩
      refine awp_at ⟨[(0, .sl 1 L (u64s (dp N))), (3, .ref 0 0 1 0 (9 * i + k)), (14, .sl 1 L (u64s (dp N))), (15, .v (.int .i64 L)), (16, .v (.int .i64 i)), (4, .v (.int .i64 i)), (5, .v (.int .u64 c)), (6, .v (.int .i64 k)), (33, .v (.bool cnd))], [(0, [⟨1, u8s (fixd (9 * i + k) N)⟩])], 1⟩ ?_ ?_
      · refine awp_region ?_
        by_cases hk9 : k < 9
        · have hdA : decide ((k : Int) < 9) = true := decide_eq_true (by omega)
          by_cases hiL2 : i + 1 < L
          · have hdB : decide ((i : Int) + 1 < (L : Int)) = true := decide_eq_true (by omega)
            repeat (first|refine z2 ?_|refine z1 ?_|refine z3 ?_|refine z4 ?_|refine z5 ?_|refine z8 ?_|refine z9 ?_)
            refine al_on_pick rfl rfl rfl ?_ rfl (v := decide ((i : Int) + 1 < (L : Int))) (r := .v (.bool true)) rfl ?_ rfl rfl ?_
            focus (rw [hdA]; rfl)
            focus (rw [hdB]; rfl)
            repeat (first|refine z2 ?_|refine z1 ?_|refine z3 ?_|refine z4 ?_|refine z5 ?_|refine z8 ?_|refine z9 ?_)
            refine le_sub ⟨rfl, rfl, rfl, rfl, rfl, rfl, rfl, rfl, ?_, trivial⟩ rfl rfl
            refine pick_tt _ _ _ hdA ?_
            rw [hcnd, decide_eq_true ⟨hk9, .inl hiL2⟩]
          · have hdB : decide ((i : Int) + 1 < (L : Int)) = false := decide_eq_false (by omega)
            repeat (first|refine z2 ?_|refine z1 ?_|refine z3 ?_|refine z4 ?_|refine z5 ?_|refine z8 ?_|refine z9 ?_)
            refine le_sub ⟨rfl, rfl, rfl, rfl, rfl, rfl, rfl, rfl, ?_, trivial⟩ rfl rfl
            refine pick_tft _ _ _ _ hdA hdB ?_
            rw [hcnd]
            by_cases hh : 0 < c
            · rw [decide_eq_true (show k < 9 ∧ (i + 1 < L ∨ 0 < c) from ⟨hk9, .inr hh⟩)]
              exact decide_eq_true (by omega)
            · rw [decide_eq_false (show ¬ (k < 9 ∧ (i + 1 < L ∨ 0 < c)) from fun h => h.2.elim hiL2 hh)]
              exact decide_eq_false (by omega)
        · have hdA : decide ((k : Int) < 9) = false := decide_eq_false (by omega)
          repeat (first|refine z2 ?_|refine z1 ?_|refine z3 ?_|refine z4 ?_|refine z5 ?_|refine z8 ?_|refine z9 ?_)
          refine al_pick rfl rfl rfl (v := decide ((k : Int) < 9)) (r := .v (.bool false)) (by rw [hdA]; rfl) rfl rfl ?_
          repeat (first|refine z2 ?_|refine z1 ?_|refine z3 ?_|refine z4 ?_|refine z5 ?_)
          refine le_sub ⟨rfl, rfl, rfl, rfl, rfl, rfl, rfl, rfl, ?_, trivial⟩ rfl rfl
          rw [hcnd, decide_eq_false (show ¬ (k < 9 ∧ (i + 1 < L ∨ 0 < c)) from fun h => hk9 h.1)]; rfl
      · refine awp_cond rfl (fun h2 => ?_) (fun h2 => ?_)
        · rw [h2] at hcnd
          obtain ⟨hk9, hor⟩ := of_decide_eq_true hcnd.symm
          obtain ⟨d1, d2⟩ := div_step N c R k (9 * i + k) hk9 hv
          have hne : N / 10 ^ (9 * i + k) ≠ 0 := by
            rw [hv]
            rcases hor with h3 | h3
            · have := dp_drop_pos (n := N) (k := i + 1) (by omega)
              rw [← hR] at this
              have : 0 < 10 ^ (9 - k) * R := Nat.mul_pos (Nat.pow_pos (by omega)) (by omega)
              omega
            · omega
          have hm : (c : Int).tmod 10 = ((c % 10 : Nat) : Int) := rfl
          have hm2 : 0 ≤ (c : Int).tmod 10 ∧ (c : Int).tmod 10 ≤ 9 := by rw [hm]; omega
          have hd2 : 0 ≤ (c : Int).tdiv 10 ∧ (c : Int).tdiv 10 ≤ 1000000000 := by rw [show (c : Int).tdiv 10 = ((c / 10 : Nat) : Int) from rfl]; omega
          have hby : 48 + (c : Int).tmod 10 = ((UInt8.ofNat (48 + N / 10 ^ (9 * i + k) % 10)).toNat : Int) := by rw [hm, d2, toNat_ofNat (by omega)]; omega
          repeat (first|refine z2 ?_|refine z1 ?_|refine z3 ?_|refine z4 ?_|refine z5 ?_)
          refine al_litF hT rfl rfl rfl rfl rfl rfl rfl rfl rfl ?_
          refine al_append hT rfl rfl rfl rfl rfl rfl rfl rfl rfl rfl rfl rfl rfl (by show (u8s _).length = _ * 1; rw [u8s_len, fixd_len, Nat.mul_one]) (fun g r h e => by cases e; cases h; rfl) (by intro x hx; simp only [List.append_nil, List.mem_singleton] at hx; subst hx; rfl) (by show (_ + 1) * 1 ≤ _; omega) (by omega) ?_
          repeat (first|refine z2 ?_|refine z1 ?_|refine z3 ?_|refine z4 ?_|refine z5 ?_)
          refine ⟨⟨(k + 1, c / 10), by omega, by rw [hc, Nat.pow_succ, Nat.div_div_eq_div_mul], d1, fun _ => hne⟩, ?_, by show 9 - (k + 1) < 9 - k; omega⟩
          refine le_ren (fun g t => cond (Nat.beq g 0) (some (1, t)) none) ⟨⟨_, rfl, .refl (nr_u64s _ _)⟩, ⟨_, rfl, .ref rfl Nat.zero_lt_one⟩, ⟨_, rfl, .refl (nr_u64s _ _)⟩, ⟨_, rfl, .refl trivial⟩, ⟨_, rfl, .refl trivial⟩, ⟨_, rfl, .refl trivial⟩, ⟨_, rfl, .refl trivial⟩, ⟨_, rfl, .refl trivial⟩, trivial⟩ ⟨⟨⟨Nat.zero_lt_one, .inr ⟨1, 0, _, rfl, rfl, rfl, ?_⟩⟩, trivial⟩, trivial⟩ rfl (base_nil _ _)
          exact wkl_eq (by show _ = u8s (fixd (9 * i + k + 1) N); rw [fixd_snoc]; exact u8s_snoc _ _ hby) (nrl_u8s _)
        · rw [h2] at hcnd
          have hno := of_decide_eq_false hcnd.symm
          repeat (first|refine z2 ?_|refine z1 ?_|refine z3 ?_|refine z4 ?_|refine z5 ?_)
          refine ⟨⟨(i + 1, 9 * i + k), by omega, by show 9 * i + k ≤ 9 * (i + 1); omega, fun h3 => ?_, fun h3 => ?_, hp⟩, le_sub ⟨rfl, rfl, rfl, rfl, rfl, trivial⟩ rfl rfl, by show L - (i + 1) < L - i; omega⟩
          · show 9 * i + k = 9 * (i + 1)
            have h3' : i + 1 < L := h3
            have : ¬ k < 9 := fun h4 => hno ⟨h4, .inl h3'⟩
            omega
          · show N / 10 ^ (9 * i + k) = 0
            have h3' : i + 1 = L := h3
            have hR0 : R = 0 := by rw [hR, h3', hNL]
            rw [hv, hR0, Nat.mul_zero, Nat.add_zero]
            by_cases hk9 : k < 9
            · have : ¬ 0 < c := fun h4 => hno ⟨hk9, .inr h4⟩
              omega
            · have : k = 9 := by omega
              rw [hc, this]
              exact Nat.div_eq_of_lt hcB
    · have hiL : i = L := by have := of_decide_eq_false h1; omega
      have hz := hT2 hiL
      have hpos : 0 < T0 := by
        rcases Nat.eq_zero_or_pos T0 with e | e
        · subst e; simp at hz; exact absurd hz hN
        · exact e
      obtain ⟨m, rfl⟩ : ∃ m, T0 = m + 1 := ⟨T0 - 1, by omega⟩
      have hfin : (fixd (m + 1) N).reverse = decDigits N := fixd_dec m N hN hz (hT3 hpos)
      have hrv := reverse_ok (Λ := Λ) (fixd (m + 1) N) (by rw [fixd_len]; omega)
      rw [hfin, fixd_len] at hrv
      have hdl : (decDigits N).length = m + 1 := by rw [← hfin, List.length_reverse, fixd_len]
      repeat (first|refine z2 ?_|refine z1 ?_|refine z3 ?_|refine z4 ?_|refine z5 ?_)
      refine al_callw (fun g t => some (g, t)) [(0, [⟨1, u8s (decDigits N)⟩])] 1 (.tup []) hrv rfl rfl rfl rfl rfl (.cons (.ref rfl Nat.zero_lt_one) .nil) (hand_ren ⟨⟨⟨Nat.zero_lt_one, .inr ⟨0, 0, _, rfl, rfl, rfl, WkL.refl (nrl_u8s _)⟩⟩, trivial⟩, trivial⟩ rfl (fun g' t' g t h e => by simp only [Option.some.injEq, Prod.mk.injEq] at e; rw [← e.1]; exact h)) rfl rfl rfl
        (back_ren ⟨⟨.inl ⟨0, 0, _, rfl, rfl, Nat.zero_lt_one, rfl, RnL.refl (hfl_u8s _)⟩, trivial⟩, trivial⟩) (.same trivial) ?_
      refine al_nil ?_
      refine awp_le (le_ren (st2 := ⟨[(3, .sl 1 (decDigits N).length (u8s (decDigits N)))], [], 0⟩) (fun _ _ => none) ⟨⟨.ref 0 0 1 0 (decDigits N).length, by rw [hdl]; rfl, .frz rfl (fun _ _ h => by cases h) rfl (by show (0 + (decDigits N).length) * 1 ≤ (u8s (decDigits N)).length; rw [u8s_len]; omega) (frz_cells (u8s_len _) (nrl_u8s _))⟩, trivial⟩ trivial rfl (base_nil _ _)) ?_
      repeat (first|refine z2 ?_|refine z1 ?_|refine z3 ?_|refine z4 ?_|refine z5 ?_)
      refine al_string hT rfl rfl rfl rfl rfl rfl rfl rfl rfl rfl rfl ?_
      repeat (first|refine z2 ?_|refine z1 ?_|refine z3 ?_|refine z4 ?_|refine z5 ?_)
      (exact awp_ret ⟨.inl rfl, ret_one rfl (.refl (by first | trivial | exact nrl_u64s _))⟩)
end Go.Proofs.YtlbhgejbfhhipaaGreatDoor

/- Walks: numerals compared. -/
namespace Go.Proofs.YtlbhgejbfhhipaaGreatDoor
open Go Go.Am Go.Lib Go.Sp Z1 Z2 Z3 Z4 Z5 Z6
theorem numS_toList (n : Nat) : (numS n).toList = decDigits n := by rw [ByteArray.toList_eq]; rfl
theorem size_eq {n m : Nat} : (numS n).size = (numS m).size ↔ (decDigits n).length = (decDigits m).length := by rw [numS_size, numS_size]
theorem cmp_ok {Λ : Lai} (a b : Nat) (ha : okN a) (hb : okN b) : OkP Λ Tryz.prog 156 [.v (.string (numS a)), .v (.string (numS b))] (.v (.int .i64 (cmpN a b))) := by
  refine okp_intro hT 26 Tryz.func156 rfl rfl rfl (Nat.le_of_ble_eq_true rfl) trivial ?_
  intro w0 F0 I
  unfold okN at ha hb
  repeat (first|refine z2 ?_|refine z1 ?_|refine z3 ?_|refine z4 ?_|refine z5 ?_)
  refine awp_cond rfl (fun h => ?_) (fun h => ?_)
  · have hne : (decDigits a).length ≠ (decDigits b).length := fun e => by rw [size_eq.2 e] at h; simp at h
    repeat (first|refine z2 ?_|refine z1 ?_|refine z3 ?_|refine z4 ?_|refine z5 ?_)
    rw [← cmp_dec hne, ← numS_size, ← numS_size]
    (exact awp_ret ⟨.inl rfl, ret_one rfl (.refl (by first | trivial | exact nrl_u64s _))⟩)
  · have heq : (decDigits a).length = (decDigits b).length := by
      have : ((numS a).size : Int) = ((numS b).size : Int) := by simpa using h
      exact size_eq.1 (by omega)
    repeat (first|refine z2 ?_|refine z1 ?_|refine z3 ?_|refine z4 ?_|refine z5 ?_)
    refine awp_cond rfl (fun h1 => ?_) (fun h1 => ?_)
    · rw [numS_toList, numS_toList, bytesLess_dec heq] at h1
      have h1 := of_decide_eq_true h1
      have hc : cmpN a b = -1 := by unfold cmpN; rw [if_pos h1]
      rw [hc]
      repeat (first|refine z2 ?_|refine z1 ?_|refine z3 ?_|refine z4 ?_|refine z5 ?_)
      (exact awp_ret ⟨.inl rfl, ret_one rfl (.refl (by first | trivial | exact nrl_u64s _))⟩)
    · rw [numS_toList, numS_toList, bytesLess_dec heq] at h1
      have h1 := of_decide_eq_false h1
      repeat (first|refine z2 ?_|refine z1 ?_|refine z3 ?_|refine z4 ?_|refine z5 ?_)
      refine awp_cond rfl (fun h2 => ?_) (fun h2 => ?_)
      · rw [numS_toList, numS_toList, bytesLess_dec heq, dec_beq] at h2
        have hc : cmpN a b = 1 := by
          unfold cmpN
          simp at h2
          rw [if_neg h1, if_pos (by omega)]
        rw [hc]
        repeat (first|refine z2 ?_|refine z1 ?_|refine z3 ?_|refine z4 ?_|refine z5 ?_)
        (exact awp_ret ⟨.inl rfl, ret_one rfl (.refl (by first | trivial | exact nrl_u64s _))⟩)
      · rw [numS_toList, numS_toList, bytesLess_dec heq, dec_beq] at h2
        have hc : cmpN a b = 0 := by
          unfold cmpN
          simp at h2
          rw [if_neg h1, if_neg (by omega)]
        rw [hc]
        repeat (first|refine z2 ?_|refine z1 ?_|refine z3 ?_|refine z4 ?_|refine z5 ?_)
        (exact awp_ret ⟨.inl rfl, ret_one rfl (.refl (by first | trivial | exact nrl_u64s _))⟩)
end Go.Proofs.YtlbhgejbfhhipaaGreatDoor

/- Walks: products, quotients and rests of numerals. -/
namespace Go.Proofs.YtlbhgejbfhhipaaGreatDoor
open Go Go.Am Go.Lib Go.Sp Z1 Z2 Z3 Z4 Z5 Z6
theorem dp_len_dec (n : Nat) : (dp n).length ≤ (decDigits n).length / 9 + 1 := by
  generalize hk : (decDigits n).length / 9 + 1 = k
  refine (dp_len n k).2 ?_
  rw [pow_nine]
  exact (dec_len_le (by omega)).1 (by omega)
theorem okN_dp {n : Nat} (h : okN n) : (dp n).length ≤ 390000000000 := by
  have := dp_len_dec n
  unfold okN at h
  rw [numS_size] at h
  omega
theorem okN_mono {n m : Nat} (h : n ≤ m) (hm : okN m) : okN n := by
  unfold okN at *
  rw [numS_size] at *
  have := nDigits_mono h
  rw [decDigits_length] at *
  omega
theorem okN_small {n : Nat} (h : n < 10 ^ 20) : okN n := by
  have := (numS_le (n := n) (k := 20) (by omega)).2 h
  unfold okN
  omega
set_option maxRecDepth 10000 in
theorem mul_ok (a b : Nat) (ha : okN a) (hb : okN b) (hab : okN (a * b)) : OkP (laiOf Tryz.prog) Tryz.prog 158 [.v (.string (numS a)), .v (.string (numS b))] (.v (.string (numS (a * b)))) := by
  refine okp_intro hT 31 Tryz.func158 rfl rfl rfl (Nat.le_of_ble_eq_true rfl) trivial ?_
  intro w0 F0 I
  have dA := okN_dp ha
  have dB := okN_dp hb
  have dAB := okN_dp hab
  have h1 := both_ok a b ha hb
  have c1 := cut_okp (Λ := laiOf Tryz.prog) a ha
  have c2 := cut_okp (Λ := laiOf Tryz.prog) b hb
  unfold okN at ha hb
  repeat (first|refine z2 ?_|refine z1 ?_|refine z3 ?_|refine z4 ?_|refine z5 ?_)
  refine awp_cond rfl (fun h => ?_) (fun h => ?_)
  · have hs := of_decide_eq_true h
    have l1 := dec_len_pos a
    have l2 := dec_len_pos b
    rw [numS_size, numS_size] at hs
    have ka : a < 10 ^ (decDigits a).length := (dec_len_le l1).1 (Nat.le_refl _)
    have kb : b < 10 ^ (decDigits b).length := (dec_len_le l2).1 (Nat.le_refl _)
    have km : a * b < 10 ^ 18 := by
      have h3 : a * b < 10 ^ (decDigits a).length * 10 ^ (decDigits b).length := Nat.mul_lt_mul'' ka kb
      rw [← Nat.pow_add] at h3
      exact Nat.lt_of_lt_of_le h3 (Nat.pow_le_pow_right (by omega) (by omega))
    have k1 : a < 10 ^ 18 := Nat.lt_of_lt_of_le ka (Nat.pow_le_pow_right (by omega) (by omega))
    have k2 : b < 10 ^ 18 := Nat.lt_of_lt_of_le kb (Nat.pow_le_pow_right (by omega) (by omega))
    rw [if_pos ⟨k1, k2⟩, if_pos ⟨k1, k2⟩, decide_eq_true (show a < 10 ^ 18 ∧ b < 10 ^ 18 from ⟨k1, k2⟩)] at h1
    have hm : (a : Int) * (b : Int) = ((a * b : Nat) : Int) := (Int.natCast_mul _ _).symm
    have hm2 : 0 ≤ (a : Int) * (b : Int) ∧ (a : Int) * (b : Int) ≤ 18446744073709551615 := by rw [hm]; omega
    repeat (first|refine z2 ?_|refine z1 ?_|refine z3 ?_|refine z4 ?_|refine z5 ?_)
    refine zc (h1) ?_
    repeat (first|refine z2 ?_|refine z1 ?_|refine z3 ?_|refine z4 ?_|refine z5 ?_)
    rw [hm]
    refine zc (of_ok (a * b) (by omega)) ?_
    repeat (first|refine z2 ?_|refine z1 ?_|refine z3 ?_|refine z4 ?_|refine z5 ?_)
    (exact awp_ret ⟨.inl rfl, ret_one rfl (.refl (by first | trivial | exact nrl_u64s _))⟩)
  · repeat (first|refine z2 ?_|refine z1 ?_|refine z3 ?_|refine z4 ?_|refine z5 ?_)
    refine zs (c1) ?_
    repeat (first|refine z2 ?_|refine z1 ?_|refine z3 ?_|refine z4 ?_|refine z5 ?_)
    refine zs (c2) ?_
    repeat (first|refine z2 ?_|refine z1 ?_|refine z3 ?_|refine z4 ?_|refine z5 ?_)
    refine zs (times_okp (dp a) (dp b) (pcs_dp a) (pcs_dp b) (by omega)) ?_
    rw [vp_dp, vp_dp]
    repeat (first|refine z2 ?_|refine z1 ?_|refine z3 ?_|refine z4 ?_|refine z5 ?_)
    refine zc (text_ok (a * b) (by omega)) ?_
    repeat (first|refine z2 ?_|refine z1 ?_|refine z3 ?_|refine z4 ?_|refine z5 ?_)
    (exact awp_ret ⟨.inl rfl, ret_one rfl (.refl (by first | trivial | exact nrl_u64s _))⟩)
theorem numS_zero : numS 0 = ⟨#[48]⟩ := by simp [numS, dec_zero]
theorem numS_one : numS 1 = ⟨#[49]⟩ := by simp [numS, dec_one]
theorem num_beq (n m : Nat) : ((numS n).toList == (numS m).toList) = decide (n = m) := by rw [numS_toList, numS_toList, dec_beq]
theorem num_beq0 (n : Nat) : ((numS n).toList == (⟨#[48]⟩ : ByteArray).toList) = decide (n = 0) := by rw [← numS_zero, num_beq]
theorem num_beq1 (n : Nat) : ((numS n).toList == (⟨#[49]⟩ : ByteArray).toList) = decide (n = 1) := by rw [← numS_one, num_beq]
theorem dp_one {b : Nat} (h : (dp b).length = 1) : dp b = [b] ∧ 0 < b ∧ b < B := by
  by_cases hb : b = 0
  · subst hb; rw [dp_zero] at h; simp at h
  · have h1 := (dp_len b 1).1 (by omega)
    rw [Nat.pow_one] at h1
    rw [dp_pos hb, Nat.div_eq_of_lt h1, dp_zero, Nat.mod_eq_of_lt h1]
    exact ⟨rfl, by omega, h1⟩
theorem cmpN_lt {a b : Nat} : cmpN a b < 0 ↔ a < b := by unfold cmpN; split <;> (try split) <;> omega
set_option maxRecDepth 10000 in
theorem divmod_ok (a b : Nat) (ha : okN a) (hb : okN b) (h0 : b ≠ 0) : OkP (laiOf Tryz.prog) Tryz.prog 171 [.v (.string (numS a)), .v (.string (numS b))] (.tup [.v (.string (numS (a / b))), .v (.string (numS (a % b))), .v (.int .i64 0)]) := by
  refine okp_intro hT 68 Tryz.func171 rfl rfl rfl (Nat.le_of_ble_eq_true rfl) ⟨trivial, trivial, trivial, trivial⟩ ?_
  intro w0 F0 I
  have dA := okN_dp ha
  have dB := okN_dp hb
  have h1 := both_ok a b ha hb
  have c1 := cut_okp (Λ := laiOf Tryz.prog) a ha
  have c2 := cut_okp (Λ := laiOf Tryz.prog) b hb
  have hq : a / b ≤ a := Nat.div_le_self a b
  have hr : a % b < b := Nat.mod_lt a (by omega)
  have dQ := okN_dp (okN_mono hq ha)
  have dR := okN_dp (okN_mono (Nat.le_of_lt hr) hb)
  repeat (first|refine z2 ?_|refine z1 ?_|refine z3 ?_|refine z4 ?_|refine z5 ?_)
  refine awp_cond rfl (fun h => ?_) (fun _ => ?_)
  · rw [num_beq0] at h; exact absurd (of_decide_eq_true h) h0
  repeat (first|refine z2 ?_|refine z1 ?_|refine z3 ?_|refine z4 ?_|refine z5 ?_)
  refine zc (h1) ?_
  repeat (first|refine z2 ?_|refine z1 ?_|refine z3 ?_|refine z4 ?_|refine z5 ?_)
  refine awp_cond rfl (fun h => ?_) (fun h => ?_)
  · obtain ⟨k1, k2⟩ := of_decide_eq_true h
    rw [if_pos ⟨k1, k2⟩, if_pos ⟨k1, k2⟩]
    have q1 : (a : Int).tdiv (b : Int) = ((a / b : Nat) : Int) := rfl
    have q2 : (a : Int).tmod (b : Int) = ((a % b : Nat) : Int) := rfl
    obtain ⟨q, hqe⟩ : ∃ q, q = a / b := ⟨_, rfl⟩
    obtain ⟨r, hre⟩ : ∃ r, r = a % b := ⟨_, rfl⟩
    rw [← hqe] at q1 hq ⊢
    rw [← hre] at q2 hr ⊢
    have q3 : 0 ≤ (a : Int).tdiv (b : Int) ∧ (a : Int).tdiv (b : Int) ≤ 18446744073709551615 := by rw [q1]; omega
    have q4 : 0 ≤ (a : Int).tmod (b : Int) ∧ (a : Int).tmod (b : Int) ≤ 18446744073709551615 := by rw [q2]; omega
    repeat (first|refine z2 ?_|refine z1 ?_|refine z3 ?_|refine z4 ?_|refine z5 ?_)
    refine awp_region_draw [] hmix (by kernel_rfl) ?_
    repeat (first|refine z2 ?_|refine z1 ?_|refine z3 ?_|refine z4 ?_|refine z5 ?_)
    rw [q1]
    refine zc (of_ok q (by omega)) ?_
    repeat (first|refine z2 ?_|refine z1 ?_|refine z3 ?_|refine z4 ?_|refine z5 ?_)
    rw [q2]
    refine zc (of_ok r (by omega)) ?_
    repeat (first|refine z2 ?_|refine z1 ?_|refine z3 ?_|refine z4 ?_|refine z5 ?_)
    (exact awp_ret ⟨.inl rfl, ret_tup rfl (by repeat' (first | exact SubL.nil | (refine SubL.cons (.refl ?_) ?_; (focus (first | trivial | exact nrl_u64s _ | exact nr_rowS _ | exact nr_matS _ | exact nrl_i64s _ | exact nrl_rowsC _)))))⟩)
  · repeat (first|refine z2 ?_|refine z1 ?_|refine z3 ?_|refine z4 ?_|refine z5 ?_)
    refine zs (c1) ?_
    repeat (first|refine z2 ?_|refine z1 ?_|refine z3 ?_|refine z4 ?_|refine z5 ?_)
    refine zs (c2) ?_
    repeat (first|refine z2 ?_|refine z1 ?_|refine z3 ?_|refine z4 ?_|refine z5 ?_)
    refine zc (compare_ok a b (by omega) (by omega)) ?_
    repeat (first|refine z2 ?_|refine z1 ?_|refine z3 ?_|refine z4 ?_|refine z5 ?_)
    refine awp_cond rfl (fun h2 => ?_) (fun h2 => ?_)
    · have hlt := cmpN_lt.1 (of_decide_eq_true h2)
      rw [Nat.div_eq_of_lt hlt, Nat.mod_eq_of_lt hlt, numS_zero]
      repeat (first|refine z2 ?_|refine z1 ?_|refine z3 ?_|refine z4 ?_|refine z5 ?_)
      (exact awp_ret ⟨.inl rfl, ret_tup rfl (by repeat' (first | exact SubL.nil | (refine SubL.cons (.refl ?_) ?_; (focus (first | trivial | exact nrl_u64s _ | exact nr_rowS _ | exact nr_matS _ | exact nrl_i64s _ | exact nrl_rowsC _)))))⟩)
    · have hge : b ≤ a := by
        have := of_decide_eq_false h2
        rw [cmpN_lt] at this
        omega
      repeat (first|refine z2 ?_|refine z1 ?_|refine z3 ?_|refine z4 ?_|refine z5 ?_)
      refine awp_cond rfl (fun h3 => ?_) (fun h3 => ?_)
      · have h3 : (dp b).length = 1 := by
          have : (((dp b).length : Nat) : Int) = 1 := by simpa using h3
          omega
        obtain ⟨e1, e2, e3⟩ := dp_one h3
        have e4 : (dp b).getD 0 0 = b := by rw [e1]; rfl
        have hsm := small_okp (Λ := laiOf Tryz.prog) (dp a) b (pcs_dp a) e2 (by omega) (by omega)
        rw [vp_dp] at hsm
        repeat (first|refine z2 ?_|refine z1 ?_|refine z3 ?_|refine z4 ?_|refine z5 ?_)
        refine al_pure hT rfl (pure_load_pt rfl rfl rfl (u64s_drop (j := 0) (by omega) (by omega))) rfl rfl True.intro ?_
        rw [e4]
        repeat (first|refine z2 ?_|refine z1 ?_|refine z3 ?_|refine z4 ?_|refine z5 ?_)
        refine zs (hsm) ?_
        repeat (first|refine z2 ?_|refine z1 ?_|refine z3 ?_|refine z4 ?_|refine z5 ?_)
        refine zc (text_ok (a / b) (by omega)) ?_
        repeat (first|refine z2 ?_|refine z1 ?_|refine z3 ?_|refine z4 ?_|refine z5 ?_)
        refine zc (of_ok (a % b) (by unfold B at e3; omega)) ?_
        repeat (first|refine z2 ?_|refine z1 ?_|refine z3 ?_|refine z4 ?_|refine z5 ?_)
        (exact awp_ret ⟨.inl rfl, ret_tup rfl (by repeat' (first | exact SubL.nil | (refine SubL.cons (.refl ?_) ?_; (focus (first | trivial | exact nrl_u64s _ | exact nr_rowS _ | exact nr_matS _ | exact nrl_i64s _ | exact nrl_rowsC _)))))⟩)
      · have h3 : (dp b).length ≠ 1 := fun e => by rw [e] at h3; cases h3
        have h4 : (dp b).length ≠ 0 := fun e => by
          have := (dp_len b 0).1 (by omega)
          simp at this
          exact h0 this
        repeat (first|refine z2 ?_|refine z1 ?_|refine z3 ?_|refine z4 ?_|refine z5 ?_)
        refine zs (divide_okp a b hge (by omega) (by omega)) ?_
        repeat (first|refine z2 ?_|refine z1 ?_|refine z3 ?_|refine z4 ?_|refine z5 ?_)
        refine zc (text_ok (a / b) (by omega)) ?_
        repeat (first|refine z2 ?_|refine z1 ?_|refine z3 ?_|refine z4 ?_|refine z5 ?_)
        refine zc (text_ok (a % b) (by omega)) ?_
        repeat (first|refine z2 ?_|refine z1 ?_|refine z3 ?_|refine z4 ?_|refine z5 ?_)
        (exact awp_ret ⟨.inl rfl, ret_tup rfl (by repeat' (first | exact SubL.nil | (refine SubL.cons (.refl ?_) ?_; (focus (first | trivial | exact nrl_u64s _ | exact nr_rowS _ | exact nr_matS _ | exact nrl_i64s _ | exact nrl_rowsC _)))))⟩)
end Go.Proofs.YtlbhgejbfhhipaaGreatDoor

/- Walks: greatest common divisors, sums and differences of numerals. -/
namespace Go.Proofs.YtlbhgejbfhhipaaGreatDoor
open Go Go.Am Go.Lib Go.Sp Z1 Z2 Z3 Z4 Z5 Z6
set_option maxRecDepth 10000 in
theorem gcd_ok (a b : Nat) (ha : okN a) (hb : okN b) : OkP (laiOf Tryz.prog) Tryz.prog 130 [.v (.string (numS a)), .v (.string (numS b))] (.v (.string (numS (Nat.gcd a b)))) := by
  refine okp_intro hT 22 Tryz.func130 rfl rfl rfl (Nat.le_of_ble_eq_true rfl) trivial ?_
  intro w0 F0 I
  repeat (first|refine z2 ?_|refine z1 ?_|refine z3 ?_|refine z4 ?_|refine z5 ?_)
  refine awp_loop (fun x : { x : Nat × Nat // Nat.gcd x.1 x.2 = Nat.gcd a b ∧ okN x.1 ∧ okN x.2 } => ⟨[(0, .v (.string (numS x.1.1))), (1, .v (.string (numS x.1.2)))], [], 0⟩) (fun x => x.1.2) ⟨(a, b), rfl, ha, hb⟩ (le_sub ⟨rfl, rfl, trivial⟩ rfl rfl) ?_
  rintro ⟨⟨x, y⟩, hg, hx, hy⟩
  simp only at hg hx hy ⊢
  repeat (first|refine z2 ?_|refine z1 ?_|refine z3 ?_|refine z4 ?_|refine z5 ?_)
  refine awp_cond rfl (fun h => ?_) (fun h => ?_)
  · have hy0 : y ≠ 0 := by rw [num_beq0] at h; simpa using h
    repeat (first|refine z2 ?_|refine z1 ?_|refine z3 ?_|refine z4 ?_|refine z5 ?_)
    refine zc (divmod_ok x y hx hy hy0) ?_
    repeat (first|refine z2 ?_|refine z1 ?_|refine z3 ?_|refine z4 ?_|refine z5 ?_)
    refine awp_cond rfl (fun h => by cases h) (fun _ => ?_)
    repeat (first|refine z2 ?_|refine z1 ?_|refine z3 ?_|refine z4 ?_|refine z5 ?_)
    have hlt : x % y < y := Nat.mod_lt x (by omega)
    refine ⟨⟨(y, x % y), by show Nat.gcd y (x % y) = _; rw [← hg, Nat.gcd_comm x y, Nat.gcd_rec y x, Nat.gcd_comm], hy, okN_mono (Nat.le_of_lt hlt) hy⟩, le_sub ⟨rfl, rfl, trivial⟩ rfl rfl, hlt⟩
  · have hy0 : y = 0 := by rw [num_beq0] at h; simpa using h
    subst hy0
    rw [Nat.gcd_zero_right] at hg
    rw [← hg]
    repeat (first|refine z2 ?_|refine z1 ?_|refine z3 ?_|refine z4 ?_|refine z5 ?_)
    (exact awp_ret ⟨.inl rfl, ret_one rfl (.refl (by first | trivial | exact nrl_u64s _))⟩)
theorem vp_pad (l : List Nat) (k : Nat) : vp (l ++ List.replicate k 0) = vp l := by
  rw [vp_append, vp_zeros (fun d hd => List.eq_of_mem_replicate hd)]; simp
theorem pcs_pad {l : List Nat} (h : pcs l) (k : Nat) : pcs (l ++ List.replicate k 0) := by
  intro d hd
  rcases List.mem_append.1 hd with hd | hd
  · exact h d hd
  · rw [List.eq_of_mem_replicate hd]; exact B_pos
/-- The longer pieces and a zero, plus the shorter ones and zeros. -/
theorem add_back (p q : List Nat) (hp : pcs p) (hq : pcs q) (hl : q.length ≤ p.length) : (backR (p ++ [0]) (q ++ List.replicate (p.length - q.length) 0) 0 (p.length + 1)).1.length = p.length + 1 ∧ pcs (backR (p ++ [0]) (q ++ List.replicate (p.length - q.length) 0) 0 (p.length + 1)).1 ∧ vp (backR (p ++ [0]) (q ++ List.replicate (p.length - q.length) 0) 0 (p.length + 1)).1 = vp p + vp q := by
  obtain ⟨h1, h2, h3, h4⟩ := backR_inv (p := p ++ [0]) (q := q ++ List.replicate (p.length - q.length) 0) (at' := 0) (pcs_snoc hp B_pos) (pcs_pad hq _) (p.length + 1) (by simp)
  have e1 : vp (p ++ [0]) = vp p := by rw [vp_snoc]; simp
  rw [e1, List.take_of_length_le (by simp; omega), vp_pad, Nat.pow_zero, Nat.mul_one, Nat.zero_add] at h4
  have hlt : vp p + vp q < B ^ (p.length + 1) := by
    have a1 := vp_lt hp
    have a2 := vp_lt hq
    have a3 : B ^ q.length ≤ B ^ p.length := Nat.pow_le_pow_right B_pos hl
    have a4 : B ^ p.length * 2 ≤ B ^ p.length * B := Nat.mul_le_mul_left _ (by unfold B; omega)
    rw [Nat.pow_succ]
    omega
  have hc : (backR (p ++ [0]) (q ++ List.replicate (p.length - q.length) 0) 0 (p.length + 1)).2 = 0 := by
    rcases Nat.eq_zero_or_pos (backR (p ++ [0]) (q ++ List.replicate (p.length - q.length) 0) 0 (p.length + 1)).2 with h | h
    · exact h
    · have := Nat.mul_le_mul_right (B ^ (p.length + 1)) h
      rw [Nat.one_mul] at this
      omega
  rw [hc, Nat.zero_mul, Nat.add_zero] at h4
  exact ⟨by rw [h1]; simp, h2, h4⟩
/-- Pieces and a zero, less no greater pieces and zeros. -/
theorem sub_take (p q : List Nat) (hp : pcs p) (hq : pcs q) (hl : q.length ≤ p.length) (hv : vp q ≤ vp p) : (takeR (p ++ [0]) (q ++ List.replicate (p.length - q.length) 0) 1 0 (p.length + 1)).1.length = p.length + 1 ∧ pcs (takeR (p ++ [0]) (q ++ List.replicate (p.length - q.length) 0) 1 0 (p.length + 1)).1 ∧ vp (takeR (p ++ [0]) (q ++ List.replicate (p.length - q.length) 0) 1 0 (p.length + 1)).1 = vp p - vp q := by
  obtain ⟨h1, h2, h3, _, h5⟩ := takeR_inv (p := p ++ [0]) (q := q ++ List.replicate (p.length - q.length) 0) (n := 1) (at' := 0) (pcs_snoc hp B_pos) (pcs_pad hq _) (by unfold B; omega) (p.length + 1) (by simp)
  have h6 := vp_lt h2
  rw [h1] at h6
  have e1 : vp (p ++ [0]) = vp p := by rw [vp_snoc]; simp
  rw [e1, List.take_of_length_le (by simp; omega), vp_pad, Nat.pow_zero, Nat.mul_one, Nat.one_mul, Nat.zero_add] at h5
  rw [List.length_append, List.length_singleton] at h6
  generalize (takeR (p ++ [0]) (q ++ List.replicate (p.length - q.length) 0) 1 0 (p.length + 1)).2.1 + (takeR (p ++ [0]) (q ++ List.replicate (p.length - q.length) 0) 1 0 (p.length + 1)).2.2 = c at h5
  have hc : c = 0 := by
    rcases Nat.eq_zero_or_pos c with h | h
    · exact h
    · have := Nat.mul_le_mul_right (B ^ (p.length + 1)) h
      rw [Nat.one_mul] at this
      omega
  rw [hc, Nat.zero_mul, Nat.add_zero] at h5
  exact ⟨by rw [h1]; simp, h2, by omega⟩
theorem u64s_app (l m : List Nat) : u64s (l ++ m) = u64s l ++ u64s m := by simp [u64s]
theorem sub_own {st : AS} {g : Nat} {l : List Nat} (h : st.row g 0 = some ⟨1, u64s l⟩) : Sub st (.ref g 0 1 0 l.length) (.sl 1 l.length (u64s l)) :=
  .own h rfl (by show (0 + l.length) * 1 ≤ (u64s l).length; rw [u64s_len]; omega) (by
    show SubL st (((u64s l).drop (0 * 1)).take (l.length * 1)) (u64s l)
    rw [Nat.zero_mul, List.drop_zero, Nat.mul_one, List.take_of_length_le (by rw [u64s_len]; exact Nat.le_refl _)]
    exact SubL.refl (nrl_u64s l))
set_option maxRecDepth 10000 in
theorem addN_ok (a b : Nat) (ha : okN a) (hb : okN b) (hab : okN (a + b)) : OkP (laiOf Tryz.prog) Tryz.prog 155 [.v (.string (numS a)), .v (.string (numS b))] (.v (.string (numS (a + b)))) := by
  refine okp_intro hT 49 Tryz.func155 rfl rfl rfl (Nat.le_of_ble_eq_true rfl) trivial ?_
  intro w0 F0 I
  have dA := okN_dp ha
  have dB := okN_dp hb
  have dAB := okN_dp hab
  have h1 := both_ok a b ha hb
  have c1 := cut_ok (Λ := laiOf Tryz.prog) a ha
  have c2 := cut_ok (Λ := laiOf Tryz.prog) b hb
  repeat (first|refine z2 ?_|refine z1 ?_|refine z3 ?_|refine z4 ?_|refine z5 ?_)
  refine zc (h1) ?_
  repeat (first|refine z2 ?_|refine z1 ?_|refine z3 ?_|refine z4 ?_|refine z5 ?_)
  refine awp_cond rfl (fun h => ?_) (fun h => ?_)
  · obtain ⟨k1, k2⟩ := of_decide_eq_true h
    rw [if_pos ⟨k1, k2⟩, if_pos ⟨k1, k2⟩]
    have hs : (a : Int) + (b : Int) = ((a + b : Nat) : Int) := by omega
    repeat (first|refine z2 ?_|refine z1 ?_|refine z3 ?_|refine z4 ?_|refine z5 ?_)
    rw [hs]
    refine zc (of_ok (a + b) (by omega)) ?_
    repeat (first|refine z2 ?_|refine z1 ?_|refine z3 ?_|refine z4 ?_|refine z5 ?_)
    (exact awp_ret ⟨.inl rfl, ret_one rfl (.refl (by first | trivial | exact nrl_u64s _))⟩)
  · repeat (first|refine z2 ?_|refine z1 ?_|refine z3 ?_|refine z4 ?_|refine z5 ?_)
    refine al_callw (fun _ _ => none) [(0, [⟨1, u64s (dp a)⟩])] 1 (.ref 0 0 1 0 (dp a).length) c1 rfl rfl rfl rfl rfl (.cons (.refl trivial) .nil) (hand_ren trivial rfl (fun g' _ _ _ h => absurd h (Nat.not_lt_zero _))) rfl rfl rfl (back_ren ⟨⟨.inl ⟨0, 0, _, rfl, rfl, Nat.zero_lt_one, rfl, RnL.refl (hfl_u64s _)⟩, trivial⟩, trivial⟩) (.ref rfl Nat.zero_lt_one) ?_
    repeat (first|refine z2 ?_|refine z1 ?_|refine z3 ?_|refine z4 ?_|refine z5 ?_)
    refine al_callw (fun _ _ => none) [(0, [⟨1, u64s (dp a)⟩]), (1, [⟨1, u64s (dp b)⟩])] 2 (.ref 1 0 1 0 (dp b).length) c2 rfl rfl rfl rfl rfl (.cons (.refl trivial) .nil) (hand_ren trivial rfl (fun g' _ _ _ h => absurd h (Nat.not_lt_zero _))) rfl rfl rfl (back_ren ⟨⟨.inr ⟨rfl, rfl⟩, trivial⟩, ⟨.inl ⟨0, 0, _, rfl, rfl, Nat.one_lt_two, rfl, RnL.refl (hfl_u64s _)⟩, trivial⟩, trivial⟩) (.ref rfl Nat.one_lt_two) ?_
    repeat (first|refine z2 ?_|refine z1 ?_|refine z3 ?_|refine z4 ?_|refine z5 ?_)
    obtain ⟨p, hp⟩ : ∃ p, p = if (dp a).length < (dp b).length then dp b else dp a := ⟨_, rfl⟩
    obtain ⟨q, hq⟩ : ∃ q, q = if (dp a).length < (dp b).length then dp a else dp b := ⟨_, rfl⟩
    have fact : q.length ≤ p.length ∧ pcs p ∧ pcs q ∧ vp p + vp q = a + b ∧ p.length ≤ 390000000000 := by
      rw [hp, hq]
      by_cases hlt : (dp a).length < (dp b).length
      · rw [if_pos hlt, if_pos hlt]; exact ⟨by omega, pcs_dp _, pcs_dp _, by rw [vp_dp, vp_dp, Nat.add_comm], by omega⟩
      · rw [if_neg hlt, if_neg hlt]; exact ⟨by omega, pcs_dp _, pcs_dp _, by rw [vp_dp, vp_dp], by omega⟩
    refine awp_at ⟨[(8, .ref 0 0 1 0 p.length), (9, .ref 1 0 1 0 q.length)], [(0, [⟨1, u64s p⟩]), (1, [⟨1, u64s q⟩])], 2⟩ ?_ ?_
    · refine awp_cond rfl (fun hlt => ?_) (fun hlt => ?_)
      · have hlt := of_decide_eq_true hlt
        rw [if_pos (by omega)] at hp hq
        subst hp; subst hq
        repeat (first|refine z2 ?_|refine z1 ?_|refine z3 ?_|refine z4 ?_|refine z5 ?_)
        exact le_ren (fun g t => cond (Nat.beq g 0) (some (1, t)) (cond (Nat.beq g 1) (some (0, t)) none)) ⟨⟨_, rfl, .ref rfl Nat.zero_lt_two⟩, ⟨_, rfl, .ref rfl Nat.one_lt_two⟩, trivial⟩ ⟨⟨⟨Nat.zero_lt_two, .inr ⟨1, 0, _, rfl, rfl, rfl, WkL.refl (nrl_u64s _)⟩⟩, trivial⟩, ⟨⟨Nat.one_lt_two, .inr ⟨0, 0, _, rfl, rfl, rfl, WkL.refl (nrl_u64s _)⟩⟩, trivial⟩, trivial⟩ rfl (base_nil _ _)
      · have hlt := of_decide_eq_false hlt
        rw [if_neg (by omega)] at hp hq
        subst hp; subst hq
        repeat (first|refine z2 ?_|refine z1 ?_|refine z3 ?_|refine z4 ?_|refine z5 ?_)
        exact le_sub ⟨rfl, rfl, trivial⟩ rfl rfl
    clear hp hq
    obtain ⟨f1, f2, f3, f4, f5⟩ := fact
    obtain ⟨g1, g2, g3⟩ := add_back p q f2 f3 f1
    have hback := back_ok (Λ := laiOf Tryz.prog) (p ++ [0]) (q ++ List.replicate (p.length - q.length) 0) 0 (pcs_snoc f2 B_pos) (pcs_pad f3 _) (by simp; omega) (by simp; omega)
    have l1 : (q ++ List.replicate (p.length - q.length) 0).length = q.length + (p.length - q.length) := by simp
    have l2 : q.length + (p.length - q.length) = p.length := by omega
    rw [l1] at hback
    rw [l2, List.length_append, List.length_singleton] at hback
    generalize hX : (backR (p ++ [0]) (q ++ List.replicate (p.length - q.length) 0) 0 (p.length + 1)).1 = X at g1 g2 g3 hback
    have htrX : trimL X = dp (a + b) := by rw [trim_eq g2, g3, f4]
    have tr := trim_ok (Λ := laiOf Tryz.prog) X (by omega)
    rw [g1, htrX] at tr
    repeat (first|refine z2 ?_|refine z1 ?_|refine z3 ?_|refine z4 ?_|refine z5 ?_)
    refine al_litF hT rfl rfl rfl rfl rfl rfl rfl rfl rfl ?_
    refine al_append hT rfl rfl rfl rfl rfl rfl rfl rfl rfl rfl rfl rfl rfl (by show (u64s _).length = _ * 1; rw [u64s_len, Nat.mul_one]) (fun g r h e => by cases e; cases h; rfl) (by intro x hx; simp only [List.append_nil, List.mem_singleton] at hx; subst hx; rfl) (by show (_ + 1) * 8 ≤ _; omega) (by omega) ?_
    repeat (first|refine z2 ?_|refine z1 ?_|refine z3 ?_|refine z4 ?_|refine z5 ?_)
    refine al_append0 hT (p.length - q.length) rfl rfl rfl rfl rfl rfl rfl (by show some (AV.v (.int .i64 (((p.length + 1 : Nat) : Int) - 1 - (q.length : Int)))) = some (AV.v (.int .i64 ((p.length - q.length : Nat) : Int))); congr 3; omega) rfl rfl rfl rfl rfl (by show (u64s _).length = _ * 1; rw [u64s_len, Nat.mul_one]) (fun g r h e => by cases e; cases h; rfl) (by intro u hu; simp only [List.mem_singleton] at hu; subst hu; rfl) (by show (_ + _) * 8 ≤ _; omega) (by omega) ?_
    repeat (first|refine z2 ?_|refine z1 ?_|refine z3 ?_|refine z4 ?_|refine z5 ?_)
    rw [show AV.sl 1 p.length = AV.sl 1 (q.length + (p.length - q.length)) by rw [l2]] at hback
    refine al_callw (fun g t => cond (Nat.beq g 0) (some (2, t)) none) [(2, [⟨1, u64s X⟩])] 4 (.tup []) hback rfl rfl rfl rfl rfl
      (.cons (.ref rfl Nat.zero_lt_one) (.cons (.frz rfl (fun g' _ h => by cases g' <;> cases h) rfl (by show (0 + (q.length + (p.length - q.length))) * 1 ≤ (u64s q ++ zeroRep [Value.int .u64 0] (p.length - q.length)).length; rw [List.length_append, u64s_len, u64s_zero, u64s_len, List.length_replicate]; omega) (by
        show WkL _ _ _ (((u64s q ++ zeroRep [Value.int .u64 0] (p.length - q.length)).drop (0 * 1)).take ((q.length + (p.length - q.length)) * 1)) _
        rw [u64s_zero, ← u64s_app]
        exact frz_cells (by rw [u64s_len, l1]) (nrl_u64s _))) (.cons (.refl trivial) .nil)))
      (hand_ren ⟨⟨⟨Nat.zero_lt_one, .inr ⟨2, 0, _, rfl, rfl, rfl, wkl_eq (u64s_snoc p 0) (nrl_u64s _)⟩⟩, trivial⟩, trivial⟩ rfl (fun g' t' g t h e => by
        have : g' = 0 := Nat.lt_one_iff.1 h
        subst this
        cases e
        show 2 < 4
        omega)) rfl rfl rfl
      (back_ren ⟨⟨.inl ⟨0, 0, _, rfl, rfl, by omega, rfl, RnL.refl (hfl_u64s _)⟩, trivial⟩, trivial⟩) (.same trivial) ?_
    repeat (first|refine z2 ?_|refine z1 ?_|refine z3 ?_|refine z4 ?_|refine z5 ?_)
    refine al_callw (fun g t => cond (Nat.beq g 0) (some (2, t)) none) [(2, [⟨1, u64s (dp (a + b))⟩])] 4 (.ref 2 0 1 0 (dp (a + b)).length) tr rfl rfl rfl rfl rfl (.cons (.ref rfl Nat.zero_lt_one) .nil)
      (hand_ren ⟨⟨⟨Nat.zero_lt_one, .inr ⟨2, 0, _, rfl, rfl, rfl, WkL.refl (nrl_u64s _)⟩⟩, trivial⟩, trivial⟩ rfl (fun g' t' g t h e => by
        have : g' = 0 := Nat.lt_one_iff.1 h
        subst this
        cases e
        show 2 < 4
        omega)) rfl rfl rfl
      (back_ren ⟨⟨.inl ⟨0, 0, _, rfl, rfl, by omega, rfl, RnL.refl (hfl_u64s _)⟩, trivial⟩, trivial⟩) (.ref rfl (by omega)) ?_
    repeat (first|refine z2 ?_|refine z1 ?_|refine z3 ?_|refine z4 ?_|refine z5 ?_)
    refine al_call (text_ok (a + b) (by omega)) rfl rfl rfl rfl (.cons (sub_own rfl) .nil) (.inl trivial) rfl rfl ?_
    repeat (first|refine z2 ?_|refine z1 ?_|refine z3 ?_|refine z4 ?_|refine z5 ?_)
    (exact awp_ret ⟨.inl rfl, ret_one rfl (.refl (by first | trivial | exact nrl_u64s _))⟩)
set_option maxRecDepth 10000 in
theorem subN_ok (a b : Nat) (ha : okN a) (hba : b ≤ a) : OkP (laiOf Tryz.prog) Tryz.prog 157 [.v (.string (numS a)), .v (.string (numS b))] (.tup [.v (.string (numS (a - b))), .v (.int .i64 0)]) := by
  refine okp_intro hT 45 Tryz.func157 rfl rfl rfl (Nat.le_of_ble_eq_true rfl) ⟨trivial, trivial, trivial⟩ ?_
  intro w0 F0 I
  have hb : okN b := okN_mono hba ha
  have dA := okN_dp ha
  have dB := okN_dp hb
  have dAB := okN_dp (okN_mono (Nat.sub_le a b) ha)
  have h1 := both_ok a b ha hb
  have c1 := cut_ok (Λ := laiOf Tryz.prog) a ha
  have c2 := cut_ok (Λ := laiOf Tryz.prog) b hb
  have c3 := cut_okp (Λ := laiOf Tryz.prog) b hb
  have hcmp : ¬ cmpN a b < 0 := by rw [cmpN_lt]; omega
  repeat (first|refine z2 ?_|refine z1 ?_|refine z3 ?_|refine z4 ?_|refine z5 ?_)
  refine zc (cmp_ok a b ha hb) ?_
  repeat (first|refine z2 ?_|refine z1 ?_|refine z3 ?_|refine z4 ?_|refine z5 ?_)
  refine awp_cond rfl (fun h => absurd (of_decide_eq_true h) hcmp) (fun _ => ?_)
  repeat (first|refine z2 ?_|refine z1 ?_|refine z3 ?_|refine z4 ?_|refine z5 ?_)
  refine zc (h1) ?_
  repeat (first|refine z2 ?_|refine z1 ?_|refine z3 ?_|refine z4 ?_|refine z5 ?_)
  refine awp_cond rfl (fun h => ?_) (fun h => ?_)
  · obtain ⟨k1, k2⟩ := of_decide_eq_true h
    rw [if_pos ⟨k1, k2⟩, if_pos ⟨k1, k2⟩]
    have hs : (a : Int) - (b : Int) = ((a - b : Nat) : Int) := by omega
    repeat (first|refine z2 ?_|refine z1 ?_|refine z3 ?_|refine z4 ?_|refine z5 ?_)
    rw [hs]
    refine zc (of_ok (a - b) (by omega)) ?_
    repeat (first|refine z2 ?_|refine z1 ?_|refine z3 ?_|refine z4 ?_|refine z5 ?_)
    (exact awp_ret ⟨.inl rfl, ret_tup rfl (by repeat' (first | exact SubL.nil | (refine SubL.cons (.refl ?_) ?_; (focus (first | trivial | exact nrl_u64s _ | exact nr_rowS _ | exact nr_matS _ | exact nrl_i64s _ | exact nrl_rowsC _)))))⟩)
  · repeat (first|refine z2 ?_|refine z1 ?_|refine z3 ?_|refine z4 ?_|refine z5 ?_)
    refine al_callw (fun _ _ => none) [(0, [⟨1, u64s (dp a)⟩])] 1 (.ref 0 0 1 0 (dp a).length) c1 rfl rfl rfl rfl rfl (.cons (.refl trivial) .nil) (hand_ren trivial rfl (fun g' _ _ _ h => absurd h (Nat.not_lt_zero _))) rfl rfl rfl (back_ren ⟨⟨.inl ⟨0, 0, _, rfl, rfl, Nat.zero_lt_one, rfl, RnL.refl (hfl_u64s _)⟩, trivial⟩, trivial⟩) (.ref rfl Nat.zero_lt_one) ?_
    refine al_litF hT rfl rfl rfl rfl rfl rfl rfl rfl rfl ?_
    refine al_append hT rfl rfl rfl rfl rfl rfl rfl rfl rfl rfl rfl rfl rfl (by show (u64s _).length = _ * 1; rw [u64s_len, Nat.mul_one]) (fun g r h e => by cases e; cases h; rfl) (by intro x hx; simp only [List.append_nil, List.mem_singleton] at hx; subst hx; rfl) (by show (_ + 1) * 8 ≤ _; omega) (by omega) ?_
    have hlen : (dp b).length ≤ (dp a).length := (dp_len b _).2 (Nat.lt_of_le_of_lt hba ((dp_len a _).1 (Nat.le_refl _)))
    obtain ⟨g1, g2, g3⟩ := sub_take (dp a) (dp b) (pcs_dp a) (pcs_dp b) hlen (by rw [vp_dp, vp_dp]; exact hba)
    rw [vp_dp, vp_dp] at g3
    have htake := take_ok (Λ := laiOf Tryz.prog) (dp a ++ [0]) (dp b ++ List.replicate ((dp a).length - (dp b).length) 0) 1 0 (pcs_snoc (pcs_dp a) B_pos) (pcs_pad (pcs_dp b) _) (by unfold B; omega) (by simp; omega) (by simp; omega)
    obtain ⟨p, hp⟩ : ∃ p, p = dp a := ⟨_, rfl⟩
    obtain ⟨q, hq⟩ : ∃ q, q = dp b := ⟨_, rfl⟩
    rw [← hq] at c2 c3
    rw [← hp, ← hq] at g1 g2 g3 htake hlen
    rw [← hp] at dA ⊢
    rw [← hq] at dB
    have l1 : (q ++ List.replicate (p.length - q.length) 0).length = q.length + (p.length - q.length) := by simp
    have l2 : q.length + (p.length - q.length) = p.length := by omega
    rw [l1] at htake
    rw [l2, List.length_append, List.length_singleton] at htake
    generalize hX : takeR (p ++ [0]) (q ++ List.replicate (p.length - q.length) 0) 1 0 (p.length + 1) = Y at g1 g2 g3 htake
    obtain ⟨X, bo, cc⟩ := Y
    simp only at g1 g2 g3 htake
    have htrX : trimL X = dp (a - b) := by rw [trim_eq g2, g3]
    have tr := trim_ok (Λ := laiOf Tryz.prog) X (by omega)
    rw [g1, htrX] at tr
    repeat (first|refine z2 ?_|refine z1 ?_|refine z3 ?_|refine z4 ?_|refine z5 ?_)
    refine al_callw (fun _ _ => none) [(1, [⟨1, u64s p ++ ([AV.v (.int .u64 0)] ++ [])⟩]), (2, [⟨1, u64s q⟩])] 3 (.ref 2 0 1 0 q.length) c2 rfl rfl rfl rfl rfl (.cons (.refl trivial) .nil) (hand_ren trivial rfl (fun g' _ _ _ h => absurd h (Nat.not_lt_zero _))) rfl rfl rfl (back_ren ⟨⟨.inr ⟨rfl, rfl⟩, trivial⟩, ⟨.inl ⟨0, 0, _, rfl, rfl, by omega, rfl, RnL.refl (hfl_u64s _)⟩, trivial⟩, trivial⟩) (.ref rfl (by omega)) ?_
    repeat (first|refine z2 ?_|refine z1 ?_|refine z3 ?_|refine z4 ?_|refine z5 ?_)
    refine zs (c3) ?_
    repeat (first|refine z2 ?_|refine z1 ?_|refine z3 ?_|refine z4 ?_|refine z5 ?_)
    refine al_append0 hT (p.length - q.length) rfl rfl rfl rfl rfl rfl rfl (by show some (AV.v (.int .i64 (((p.length + 1 : Nat) : Int) - 1 - (q.length : Int)))) = some (AV.v (.int .i64 ((p.length - q.length : Nat) : Int))); congr 3; omega) rfl rfl rfl rfl rfl (by show (u64s _).length = _ * 1; rw [u64s_len, Nat.mul_one]) (fun g r h e => by cases e; cases h; rfl) (by intro u hu; simp only [List.mem_singleton] at hu; subst hu; rfl) (by show (_ + _) * 8 ≤ _; omega) (by omega) ?_
    repeat (first|refine z2 ?_|refine z1 ?_|refine z3 ?_|refine z4 ?_|refine z5 ?_)
    rw [show AV.sl 1 p.length = AV.sl 1 (q.length + (p.length - q.length)) by rw [l2]] at htake
    refine al_callw (fun g t => cond (Nat.beq g 0) (some (1, t)) none) [(1, [⟨1, u64s X⟩])] 4 (.v (.bool (decide (0 < bo)))) htake rfl rfl rfl rfl rfl
      (.cons (.ref rfl Nat.zero_lt_one) (.cons (.frz rfl (fun g' _ h => by cases g' <;> cases h) rfl (by show (0 + (q.length + (p.length - q.length))) * 1 ≤ (u64s q ++ zeroRep [Value.int .u64 0] (p.length - q.length)).length; rw [List.length_append, u64s_len, u64s_zero, u64s_len, List.length_replicate]; omega) (by
        show WkL _ _ _ (((u64s q ++ zeroRep [Value.int .u64 0] (p.length - q.length)).drop (0 * 1)).take ((q.length + (p.length - q.length)) * 1)) _
        rw [u64s_zero, ← u64s_app]
        exact frz_cells (by rw [u64s_len, l1]) (nrl_u64s _))) (.cons (.refl trivial) (.cons (.refl trivial) .nil))))
      (hand_ren ⟨⟨⟨Nat.zero_lt_one, .inr ⟨1, 0, _, rfl, rfl, rfl, wkl_eq (u64s_snoc p 0) (nrl_u64s _)⟩⟩, trivial⟩, trivial⟩ rfl (fun g' t' g t h e => by
        have : g' = 0 := Nat.lt_one_iff.1 h
        subst this
        cases e
        show 1 < 4
        omega)) rfl rfl rfl
      (back_ren ⟨⟨.inl ⟨0, 0, _, rfl, rfl, by omega, rfl, RnL.refl (hfl_u64s _)⟩, trivial⟩, trivial⟩) (.same trivial) ?_
    repeat (first|refine z2 ?_|refine z1 ?_|refine z3 ?_|refine z4 ?_|refine z5 ?_)
    refine al_callw (fun g t => cond (Nat.beq g 0) (some (1, t)) none) [(1, [⟨1, u64s (dp (a - b))⟩])] 4 (.ref 1 0 1 0 (dp (a - b)).length) tr rfl rfl rfl rfl rfl (.cons (.ref rfl Nat.zero_lt_one) .nil)
      (hand_ren ⟨⟨⟨Nat.zero_lt_one, .inr ⟨1, 0, _, rfl, rfl, rfl, WkL.refl (nrl_u64s _)⟩⟩, trivial⟩, trivial⟩ rfl (fun g' t' g t h e => by
        have : g' = 0 := Nat.lt_one_iff.1 h
        subst this
        cases e
        show 1 < 4
        omega)) rfl rfl rfl
      (back_ren ⟨⟨.inl ⟨0, 0, _, rfl, rfl, by omega, rfl, RnL.refl (hfl_u64s _)⟩, trivial⟩, trivial⟩) (.ref rfl (by omega)) ?_
    repeat (first|refine z2 ?_|refine z1 ?_|refine z3 ?_|refine z4 ?_|refine z5 ?_)
    refine al_call (text_ok (a - b) (by omega)) rfl rfl rfl rfl (.cons (sub_own rfl) .nil) (.inl trivial) rfl rfl ?_
    repeat (first|refine z2 ?_|refine z1 ?_|refine z3 ?_|refine z4 ?_|refine z5 ?_)
    (exact awp_ret ⟨.inl rfl, ret_tup rfl (by repeat' (first | exact SubL.nil | (refine SubL.cons (.refl ?_) ?_; (focus (first | trivial | exact nrl_u64s _ | exact nr_rowS _ | exact nr_matS _ | exact nrl_i64s _ | exact nrl_rowsC _)))))⟩)
end Go.Proofs.YtlbhgejbfhhipaaGreatDoor

/- Walks: integers of any size as texts. -/
namespace Go.Proofs.YtlbhgejbfhhipaaGreatDoor
open Go Go.Am Go.Lib Go.Sp Z1 Z2 Z3 Z4 Z5 Z6
/-- The text of an integer. -/
def zS (z : Int) : ByteArray := ⟨(itoa z).toArray⟩
def okZ (z : Int) : Prop := okN z.natAbs
theorem zS_list (z : Int) : (zS z).data.toList = itoa z := rfl
theorem zS_toList (z : Int) : (zS z).toList = itoa z := by rw [ByteArray.toList_eq]; rfl
theorem zS_nn {z : Int} (h : 0 ≤ z) : zS z = numS z.natAbs := by unfold zS numS; rw [itoa_nn h, show z.toNat = z.natAbs by omega]
theorem zS_nat (n : Nat) : zS (n : Int) = numS n := by rw [zS_nn (by omega)]; rfl
theorem zS_neg {z : Int} (h : z < 0) : (zS z).data.toList = 45 :: decDigits z.natAbs := by rw [zS_list, itoa_neg' h]
theorem zS_size (z : Int) : (zS z).size = (if z < 0 then 1 else 0) + (decDigits z.natAbs).length := by
  have h : (zS z).size = (itoa z).length := by simp [zS, ByteArray.size]
  rw [h]
  by_cases hz : z < 0
  · rw [itoa_neg' hz, if_pos hz, List.length_cons]; omega
  · rw [itoa_nn (by omega), if_neg hz, show z.toNat = z.natAbs by omega]; omega
theorem zS_pos (z : Int) : 0 < (zS z).size := by rw [zS_size]; have := dec_len_pos z.natAbs; omega
theorem zS_bt (z : Int) : bt (zS z) 0 = 45 ↔ z < 0 := by
  have e : bt (zS z) 0 = (((itoa z).getD 0 0).toNat : Int) := by
    unfold bt
    simp [zS, List.getD_eq_getElem?_getD]
  rw [e]
  by_cases hz : z < 0
  · rw [itoa_neg' hz]; simp [hz]
  · rw [itoa_nn (by omega)]
    obtain ⟨c, l, e1, h1, h2⟩ := dec_cons z.toNat
    rw [e1]
    simp only [List.getD_cons_zero, hz, iff_false]
    omega
theorem zS_cut {z : Int} (h : z < 0) : (zS z).extract 1 (zS z).size = numS z.natAbs := by
  have h1 : ((zS z).extract 1 (zS z).size).data.toList = decDigits z.natAbs := by
    rw [ext_list, zS_neg h]
    have : (zS z).size = 1 + (decDigits z.natAbs).length := by rw [zS_size, if_pos h]
    rw [this]
    simp
  unfold numS
  rw [← h1]
theorem bt_beq (z : Int) : (bt (zS z) 0 == 45) = decide (z < 0) := by
  by_cases h : z < 0
  · rw [decide_eq_true h, beq_iff_eq]; exact (zS_bt z).2 h
  · rw [decide_eq_false h, beq_eq_false_iff_ne]; exact fun e => h ((zS_bt z).1 e)
theorem itoa_inj {x y : Int} (h : itoa x = itoa y) : x = y := by
  have h1 := parseI_itoa
  by_cases hx : x < 0
  · by_cases hy : y < 0
    · rw [itoa_neg' hx, itoa_neg' hy, List.cons.injEq] at h
      have := dec_inj h.2
      omega
    · exfalso
      have e1 := (zS_bt x).2 hx
      have e2 : zS x = zS y := by unfold zS; rw [h]
      rw [e2] at e1
      exact hy ((zS_bt y).1 e1)
  · by_cases hy : y < 0
    · exfalso
      have e1 := (zS_bt y).2 hy
      have e2 : zS x = zS y := by unfold zS; rw [h]
      rw [← e2] at e1
      exact hx ((zS_bt x).1 e1)
    · rw [itoa_nn (by omega), itoa_nn (by omega)] at h
      have := dec_inj h
      omega
theorem z_beq (x y : Int) : ((zS x).toList == (zS y).toList) = decide (x = y) := by
  rw [zS_toList, zS_toList]
  by_cases h : x = y
  · subst h; simp
  · rw [decide_eq_false h, beq_eq_false_iff_ne]; exact fun e => h (itoa_inj e)
theorem zS_zero : zS 0 = ⟨#[48]⟩ := by rw [zS_nn (by omega)]; exact numS_zero
theorem zS_one : zS 1 = ⟨#[49]⟩ := by rw [zS_nn (by omega)]; exact numS_one
theorem z_beq0 (x : Int) : ((zS x).toList == (⟨#[48]⟩ : ByteArray).toList) = decide (x = 0) := by rw [← zS_zero, z_beq]
theorem z_beq1 (x : Int) : ((zS x).toList == (⟨#[49]⟩ : ByteArray).toList) = decide (x = 1) := by rw [← zS_one, z_beq]
theorem okZ_size {z : Int} (h : okZ z) : (zS z).size ≤ 3500000000001 := by
  unfold okZ okN at h
  rw [numS_size] at h
  rw [zS_size]
  split <;> omega
theorem zof_ok (n : Int) (h0 : -9223372036854775808 ≤ n) (h1 : n ≤ 9223372036854775807) : OkP (laiOf Tryz.prog) Tryz.prog 107 [.v (.int .i64 n)] (.v (.string (zS n))) := by
  refine okp_intro hT 5 Tryz.func107 rfl rfl rfl (Nat.le_of_ble_eq_true rfl) trivial ?_
  intro w0 F0 I
  repeat (first|refine z2 ?_|refine z1 ?_|refine z3 ?_|refine z4 ?_|refine z5 ?_)
  refine zc (itoa_ok n h0 h1) ?_
  repeat (first|refine z2 ?_|refine z1 ?_|refine z3 ?_|refine z4 ?_|refine z5 ?_)
  (exact awp_ret ⟨.inl rfl, ret_one rfl (.refl (by first | trivial | exact nrl_u64s _))⟩)
theorem split_ok {Λ : Lai} (z : Int) (h : okZ z) : OkP Λ Tryz.prog 125 [.v (.string (zS z))] (.tup [.v (.bool (decide (z < 0))), .v (.string (numS z.natAbs))]) := by
  refine okp_intro hT 15 Tryz.func125 rfl rfl rfl (Nat.le_of_ble_eq_true rfl) ⟨trivial, trivial, trivial⟩ ?_
  intro w0 F0 I
  have hp := zS_pos z
  have hz := okZ_size h
  have hdA : decide (((zS z).size : Int) > 0) = true := decide_eq_true (by omega)
  repeat (first|refine z2 ?_|refine z1 ?_|refine z3 ?_|refine z4 ?_|refine z5 ?_|refine z8 ?_|refine z9 ?_)
  refine awp_cond rfl (fun h => ?_) (fun h => ?_)
  · have h : cond (decide (((zS z).size : Int) > 0)) (bt (zS z) 0 == 45) false = true := h
    rw [hdA, bt_beq, cond_true] at h
    have hlt := of_decide_eq_true h
    repeat (first|refine z2 ?_|refine z1 ?_|refine z3 ?_|refine z4 ?_|refine z5 ?_)
    refine awp_region_draw [] hmix (by kernel_rfl) ?_
    repeat (first|refine z2 ?_|refine z1 ?_|refine z3 ?_|refine z4 ?_|refine z5 ?_)
    rw [h]
    refine awp_ret ⟨.inl rfl, ret_tup rfl (.cons (.refl trivial) (.cons ?_ .nil))⟩
    rw [← zS_cut hlt]
    exact .refl trivial
  · have h : cond (decide (((zS z).size : Int) > 0)) (bt (zS z) 0 == 45) false = false := h
    rw [hdA, bt_beq, cond_true] at h
    have hlt := of_decide_eq_false h
    repeat (first|refine z2 ?_|refine z1 ?_|refine z3 ?_|refine z4 ?_|refine z5 ?_)
    rw [h, ← zS_nn (by omega)]
    (exact awp_ret ⟨.inl rfl, ret_tup rfl (by repeat' (first | exact SubL.nil | (refine SubL.cons (.refl ?_) ?_; (focus (first | trivial | exact nrl_u64s _ | exact nr_rowS _ | exact nr_matS _ | exact nrl_i64s _ | exact nrl_rowsC _)))))⟩)
theorem join_ok {Λ : Lai} (neg : Bool) (n : Nat) (h : okN n) : OkP Λ Tryz.prog 154 [.v (.bool neg), .v (.string (numS n))] (.v (.string (zS (if neg then -(n : Int) else n)))) := by
  refine okp_intro hT 13 Tryz.func154 rfl rfl rfl (Nat.le_of_ble_eq_true rfl) trivial ?_
  intro w0 F0 I
  unfold okN at h
  cases neg with
  | true =>
    have hdA : (true : Bool) = true := rfl
    repeat (first|refine z2 ?_|refine z1 ?_|refine z3 ?_|refine z4 ?_|refine z5 ?_|refine z6 ?_|refine z7 ?_)
    refine awp_cond rfl (fun h1 => ?_) (fun h1 => ?_)
    · have h1 : (!((numS n).toList == (⟨#[48]⟩ : ByteArray).toList)) = true := h1
      rw [num_beq0] at h1
      have hn : n ≠ 0 := by simpa using h1
      have hsz : (⟨#[45]⟩ : ByteArray).size = 1 := rfl
      repeat (first|refine z2 ?_|refine z1 ?_|refine z3 ?_|refine z4 ?_|refine z5 ?_)
      refine awp_ret ⟨.inl rfl, ret_one rfl ?_⟩
      have e : zS (if true then -(n : Int) else n) = ⟨#[45]⟩ ++ numS n := by
        simp only [if_true]
        unfold zS numS
        rw [itoa_neg' (by omega), show (-(n : Int)).natAbs = n by omega]
        apply ByteArray.ext
        simp
      rw [e]
      exact .refl trivial
    · have h1 : (!((numS n).toList == (⟨#[48]⟩ : ByteArray).toList)) = false := h1
      rw [num_beq0] at h1
      have hn : n = 0 := by simpa using h1
      subst hn
      repeat (first|refine z2 ?_|refine z1 ?_|refine z3 ?_|refine z4 ?_|refine z5 ?_)
      (exact awp_ret ⟨.inl rfl, ret_one rfl (.refl (by first | trivial | exact nrl_u64s _))⟩)
  | false =>
    repeat (first|refine z2 ?_|refine z1 ?_|refine z3 ?_|refine z4 ?_|refine z5 ?_|refine z6 ?_|refine z7 ?_)
    refine al_pick rfl rfl rfl (v := false) (r := .v (.bool false)) rfl rfl rfl ?_
    repeat (first|refine z2 ?_|refine z1 ?_|refine z3 ?_|refine z4 ?_|refine z5 ?_)
    refine awp_cond rfl (fun h1 => by cases h1) (fun _ => ?_)
    repeat (first|refine z2 ?_|refine z1 ?_|refine z3 ?_|refine z4 ?_|refine z5 ?_)
    simp only [Bool.false_eq_true, if_false]
    rw [zS_nat]
    (exact awp_ret ⟨.inl rfl, ret_one rfl (.refl (by first | trivial | exact nrl_u64s _))⟩)
end Go.Proofs.YtlbhgejbfhhipaaGreatDoor

/- Walks: arithmetic of integers of any size. -/
namespace Go.Proofs.YtlbhgejbfhhipaaGreatDoor
open Go Go.Am Go.Lib Go.Sp Z1 Z2 Z3 Z4 Z5 Z6
theorem zS_small {z : Int} (h : (zS z).size ≤ 18) : -999999999999999999 ≤ z ∧ z ≤ 999999999999999999 := by
  rw [zS_size] at h
  have h1 := (dec_len_le (n := z.natAbs) (k := 18) (by omega)).1 (by split at h <;> omega)
  omega
theorem zS_small9 {z : Int} (h : (zS z).size ≤ 9) : -999999999 ≤ z ∧ z ≤ 999999999 := by
  rw [zS_size] at h
  have h1 := (dec_len_le (n := z.natAbs) (k := 9) (by omega)).1 (by split at h <;> omega)
  omega
theorem atoi_itoa (z : Int) : atoiAll (itoa z) = if -9223372036854775808 ≤ z ∧ z ≤ 9223372036854775807 then .ok z else .range := by
  rw [← parseIntB_64, parseI_itoa]
theorem little_ok (z : Int) (m : Nat) (hm : m ≤ 18) (h : okZ z) : OkP (laiOf Tryz.prog) Tryz.prog 128 [.v (.string (zS z)), .v (.int .i64 m)] (.tup [.v (.int .i64 (if (zS z).size ≤ m then z else 0)), .v (.bool (decide ((zS z).size ≤ m)))]) := by
  refine okp_intro hT 20 Tryz.func128 rfl rfl rfl (Nat.le_of_ble_eq_true rfl) ⟨trivial, trivial, trivial⟩ ?_
  intro w0 F0 I
  have hz := okZ_size h
  repeat (first|refine z2 ?_|refine z1 ?_|refine z3 ?_|refine z4 ?_|refine z5 ?_)
  refine awp_cond rfl (fun h1 => ?_) (fun h1 => ?_)
  · have h1 : ¬ (zS z).size ≤ m := by have := of_decide_eq_true h1; omega
    rw [if_neg h1, decide_eq_false h1]
    repeat (first|refine z2 ?_|refine z1 ?_|refine z3 ?_|refine z4 ?_|refine z5 ?_)
    (exact awp_ret ⟨.inl rfl, ret_tup rfl (by repeat' (first | exact SubL.nil | (refine SubL.cons (.refl ?_) ?_; (focus (first | trivial | exact nrl_u64s _ | exact nr_rowS _ | exact nr_matS _ | exact nrl_i64s _ | exact nrl_rowsC _)))))⟩)
  · have h1 : (zS z).size ≤ m := by have := of_decide_eq_false h1; omega
    have hs := zS_small (z := z) (by omega)
    rw [if_pos h1, decide_eq_true h1]
    repeat (first|refine z2 ?_|refine z1 ?_|refine z3 ?_|refine z4 ?_|refine z5 ?_)
    refine zc (atoi_ok (zS z) (by omega) z (by rw [zS_list, atoi_itoa, if_pos (by omega)])) ?_
    repeat (first|refine z2 ?_|refine z1 ?_|refine z3 ?_|refine z4 ?_|refine z5 ?_)
    refine awp_region_draw [] hmix (by kernel_rfl) ?_
    repeat (first|refine z2 ?_|refine z1 ?_|refine z3 ?_|refine z4 ?_|refine z5 ?_)
    (exact awp_ret ⟨.inl rfl, ret_tup rfl (by repeat' (first | exact SubL.nil | (refine SubL.cons (.refl ?_) ?_; (focus (first | trivial | exact nrl_u64s _ | exact nr_rowS _ | exact nr_matS _ | exact nrl_i64s _ | exact nrl_rowsC _)))))⟩)
theorem sign_ok {Λ : Lai} (z : Int) (h : okZ z) : OkP Λ Tryz.prog 71 [.v (.string (zS z))] (.v (.int .i64 z.sign)) := by
  refine okp_intro hT 10 Tryz.func71 rfl rfl rfl (Nat.le_of_ble_eq_true rfl) trivial ?_
  intro w0 F0 I
  have hp := zS_pos z
  have hz := okZ_size h
  repeat (first|refine z2 ?_|refine z1 ?_|refine z3 ?_|refine z4 ?_|refine z5 ?_)
  refine awp_cond rfl (fun h1 => ?_) (fun h1 => ?_)
  · rw [z_beq0] at h1
    have h1 := of_decide_eq_true h1
    subst h1
    repeat (first|refine z2 ?_|refine z1 ?_|refine z3 ?_|refine z4 ?_|refine z5 ?_)
    (exact awp_ret ⟨.inl rfl, ret_one rfl (.refl (by first | trivial | exact nrl_u64s _))⟩)
  · rw [z_beq0] at h1
    have h1 := of_decide_eq_false h1
    repeat (first|refine z2 ?_|refine z1 ?_|refine z3 ?_|refine z4 ?_|refine z5 ?_)
    refine awp_cond rfl (fun h2 => ?_) (fun h2 => ?_)
    · have h2 : (bt (zS z) 0 == 45) = true := h2
      rw [bt_beq] at h2
      have h2 := of_decide_eq_true h2
      rw [Int.sign_eq_neg_one_of_neg h2]
      repeat (first|refine z2 ?_|refine z1 ?_|refine z3 ?_|refine z4 ?_|refine z5 ?_)
      (exact awp_ret ⟨.inl rfl, ret_one rfl (.refl (by first | trivial | exact nrl_u64s _))⟩)
    · have h2 : (bt (zS z) 0 == 45) = false := h2
      rw [bt_beq] at h2
      have h2 := of_decide_eq_false h2
      rw [Int.sign_eq_one_of_pos (by omega)]
      repeat (first|refine z2 ?_|refine z1 ?_|refine z3 ?_|refine z4 ?_|refine z5 ?_)
      (exact awp_ret ⟨.inl rfl, ret_one rfl (.refl (by first | trivial | exact nrl_u64s _))⟩)
theorem abs_ok {Λ : Lai} (z : Int) (h : okZ z) : OkP Λ Tryz.prog 127 [.v (.string (zS z))] (.v (.string (numS z.natAbs))) := by
  refine okp_intro hT 11 Tryz.func127 rfl rfl rfl (Nat.le_of_ble_eq_true rfl) trivial ?_
  intro w0 F0 I
  repeat (first|refine z2 ?_|refine z1 ?_|refine z3 ?_|refine z4 ?_|refine z5 ?_)
  refine zc (split_ok z h) ?_
  repeat (first|refine z2 ?_|refine z1 ?_|refine z3 ?_|refine z4 ?_|refine z5 ?_)
  (exact awp_ret ⟨.inl rfl, ret_one rfl (.refl (by first | trivial | exact nrl_u64s _))⟩)
theorem neg_ok {Λ : Lai} (z : Int) (h : okZ z) : OkP Λ Tryz.prog 133 [.v (.string (zS z))] (.v (.string (zS (-z)))) := by
  refine okp_intro hT 14 Tryz.func133 rfl rfl rfl (Nat.le_of_ble_eq_true rfl) trivial ?_
  intro w0 F0 I
  repeat (first|refine z2 ?_|refine z1 ?_|refine z3 ?_|refine z4 ?_|refine z5 ?_)
  refine zc (split_ok z h) ?_
  repeat (first|refine z2 ?_|refine z1 ?_|refine z3 ?_|refine z4 ?_|refine z5 ?_)
  refine zc (join_ok (!(decide (z < 0))) z.natAbs h) ?_
  have e : (if (!(decide (z < 0))) = true then -((z.natAbs : Nat) : Int) else (z.natAbs : Nat)) = -z := by
    by_cases hz : z < 0
    · simp [hz]; omega
    · simp [hz]; omega
  rw [e]
  repeat (first|refine z2 ?_|refine z1 ?_|refine z3 ?_|refine z4 ?_|refine z5 ?_)
  (exact awp_ret ⟨.inl rfl, ret_one rfl (.refl (by first | trivial | exact nrl_u64s _))⟩)
/-- -1, 0, 1. -/
def cmpZ (a b : Int) : Int := if a < b then -1 else if b < a then 1 else 0
theorem zcmp_ok {Λ : Lai} (a b : Int) (ha : okZ a) (hb : okZ b) : OkP Λ Tryz.prog 225 [.v (.string (zS a)), .v (.string (zS b))] (.v (.int .i64 (cmpZ a b))) := by
  refine okp_intro hT 37 Tryz.func225 rfl rfl rfl (Nat.le_of_ble_eq_true rfl) trivial ?_
  intro w0 F0 I
  repeat (first|refine z2 ?_|refine z1 ?_|refine z3 ?_|refine z4 ?_|refine z5 ?_)
  refine zc (sign_ok a ha) ?_
  repeat (first|refine z2 ?_|refine z1 ?_|refine z3 ?_|refine z4 ?_|refine z5 ?_)
  refine zc (sign_ok b hb) ?_
  repeat (first|refine z2 ?_|refine z1 ?_|refine z3 ?_|refine z4 ?_|refine z5 ?_)
  refine awp_cond rfl (fun h => ?_) (fun h => ?_)
  · have hne : a.sign ≠ b.sign := by simpa using h
    repeat (first|refine z2 ?_|refine z1 ?_|refine z3 ?_|refine z4 ?_|refine z5 ?_)
    refine awp_cond rfl (fun h2 => ?_) (fun h2 => ?_)
    · have h2 := of_decide_eq_true h2
      have e : cmpZ a b = -1 := by
        unfold cmpZ
        rw [if_pos]
        rcases Int.lt_trichotomy a 0 with ha | ha | ha <;> rcases Int.lt_trichotomy b 0 with hb | hb | hb <;> simp_all [Int.sign_eq_neg_one_of_neg, Int.sign_eq_one_of_pos] <;> omega
      rw [e]
      repeat (first|refine z2 ?_|refine z1 ?_|refine z3 ?_|refine z4 ?_|refine z5 ?_)
      (exact awp_ret ⟨.inl rfl, ret_one rfl (.refl (by first | trivial | exact nrl_u64s _))⟩)
    · have h2 := of_decide_eq_false h2
      have e : cmpZ a b = 1 := by
        unfold cmpZ
        have h3 : b < a := by
          rcases Int.lt_trichotomy a 0 with ha | ha | ha <;> rcases Int.lt_trichotomy b 0 with hb | hb | hb <;> simp_all [Int.sign_eq_neg_one_of_neg, Int.sign_eq_one_of_pos] <;> omega
        rw [if_neg (by omega), if_pos h3]
      rw [e]
      repeat (first|refine z2 ?_|refine z1 ?_|refine z3 ?_|refine z4 ?_|refine z5 ?_)
      (exact awp_ret ⟨.inl rfl, ret_one rfl (.refl (by first | trivial | exact nrl_u64s _))⟩)
  · have heq : a.sign = b.sign := by simpa using h
    have hsg : (a < 0 ↔ b < 0) := by rw [← Int.sign_eq_neg_one_iff_neg, ← Int.sign_eq_neg_one_iff_neg, heq]
    repeat (first|refine z2 ?_|refine z1 ?_|refine z3 ?_|refine z4 ?_|refine z5 ?_)
    refine zc (split_ok a ha) ?_
    repeat (first|refine z2 ?_|refine z1 ?_|refine z3 ?_|refine z4 ?_|refine z5 ?_)
    refine zc (split_ok b hb) ?_
    repeat (first|refine z2 ?_|refine z1 ?_|refine z3 ?_|refine z4 ?_|refine z5 ?_)
    refine awp_cond rfl (fun h2 => ?_) (fun h2 => ?_)
    · have h2 := of_decide_eq_true h2
      have h3 := hsg.1 h2
      repeat (first|refine z2 ?_|refine z1 ?_|refine z3 ?_|refine z4 ?_|refine z5 ?_)
      refine zc (cmp_ok b.natAbs a.natAbs hb ha) ?_
      have e : cmpN b.natAbs a.natAbs = cmpZ a b := by unfold cmpN cmpZ; split <;> split <;> (try split) <;> (try split) <;> omega
      rw [e]
      repeat (first|refine z2 ?_|refine z1 ?_|refine z3 ?_|refine z4 ?_|refine z5 ?_)
      (exact awp_ret ⟨.inl rfl, ret_one rfl (.refl (by first | trivial | exact nrl_u64s _))⟩)
    · have h2 := of_decide_eq_false h2
      have h3 : ¬ b < 0 := fun h => h2 (hsg.2 h)
      repeat (first|refine z2 ?_|refine z1 ?_|refine z3 ?_|refine z4 ?_|refine z5 ?_)
      refine zc (cmp_ok a.natAbs b.natAbs ha hb) ?_
      have e : cmpN a.natAbs b.natAbs = cmpZ a b := by unfold cmpN cmpZ; split <;> split <;> (try split) <;> (try split) <;> omega
      rw [e]
      repeat (first|refine z2 ?_|refine z1 ?_|refine z3 ?_|refine z4 ?_|refine z5 ?_)
      (exact awp_ret ⟨.inl rfl, ret_one rfl (.refl (by first | trivial | exact nrl_u64s _))⟩)
end Go.Proofs.YtlbhgejbfhhipaaGreatDoor

/- Walks: sums, differences and products of integers of any size. -/
namespace Go.Proofs.YtlbhgejbfhhipaaGreatDoor
open Go Go.Am Go.Lib Go.Sp Z1 Z2 Z3 Z4 Z5 Z6
set_option maxRecDepth 10000 in
theorem zadd_ok (a b : Int) (hab : okN (a.natAbs + b.natAbs)) : OkP (laiOf Tryz.prog) Tryz.prog 105 [.v (.string (zS a)), .v (.string (zS b))] (.v (.string (zS (a + b)))) := by
  have ha : okZ a := okN_mono (by omega) hab
  have hb : okZ b := okN_mono (by omega) hab
  refine okp_intro hT 65 Tryz.func105 rfl rfl rfl (Nat.le_of_ble_eq_true rfl) trivial ?_
  intro w0 F0 I
  have l1 := little_ok a 18 (by omega) ha
  have l2 := little_ok b 18 (by omega) hb
  repeat (first|refine z2 ?_|refine z1 ?_|refine z3 ?_|refine z4 ?_|refine z5 ?_)
  refine zc (l1) ?_
  repeat (first|refine z2 ?_|refine z1 ?_|refine z3 ?_|refine z4 ?_|refine z5 ?_)
  refine awp_at ⟨[(0, .v (.string (zS a))), (1, .v (.string (zS b)))], [], 0⟩ ?_ ?_
  · refine awp_cond rfl (fun h => ?_) (fun h => ?_)
    · have h := of_decide_eq_true h
      rw [if_pos h]
      repeat (first|refine z2 ?_|refine z1 ?_|refine z3 ?_|refine z4 ?_|refine z5 ?_)
      refine zc (l2) ?_
      repeat (first|refine z2 ?_|refine z1 ?_|refine z3 ?_|refine z4 ?_|refine z5 ?_)
      refine awp_cond rfl (fun h2 => ?_) (fun h2 => ?_)
      · have h2 := of_decide_eq_true h2
        rw [if_pos h2]
        have s1 := zS_small h
        have s2 := zS_small h2
        repeat (first|refine z2 ?_|refine z1 ?_|refine z3 ?_|refine z4 ?_|refine z5 ?_)
        refine zc (zof_ok (a + b) (by omega) (by omega)) ?_
        repeat (first|refine z2 ?_|refine z1 ?_|refine z3 ?_|refine z4 ?_|refine z5 ?_)
        (exact awp_ret ⟨.inl rfl, ret_one rfl (.refl (by first | trivial | exact nrl_u64s _))⟩)
      · repeat (first|refine z2 ?_|refine z1 ?_|refine z3 ?_|refine z4 ?_|refine z5 ?_)
        exact le_sub ⟨rfl, rfl, trivial⟩ rfl rfl
    · repeat (first|refine z2 ?_|refine z1 ?_|refine z3 ?_|refine z4 ?_|refine z5 ?_)
      exact le_sub ⟨rfl, rfl, trivial⟩ rfl rfl
  · repeat (first|refine z2 ?_|refine z1 ?_|refine z3 ?_|refine z4 ?_|refine z5 ?_)
    refine zc (split_ok a ha) ?_
    repeat (first|refine z2 ?_|refine z1 ?_|refine z3 ?_|refine z4 ?_|refine z5 ?_)
    refine zc (split_ok b hb) ?_
    repeat (first|refine z2 ?_|refine z1 ?_|refine z3 ?_|refine z4 ?_|refine z5 ?_)
    refine awp_cond rfl (fun h => ?_) (fun h => ?_)
    · have h : decide (a < 0) = decide (b < 0) := by simpa using h
      repeat (first|refine z2 ?_|refine z1 ?_|refine z3 ?_|refine z4 ?_|refine z5 ?_)
      refine zc (addN_ok a.natAbs b.natAbs ha hb hab) ?_
      refine zc (join_ok (decide (a < 0)) (a.natAbs + b.natAbs) hab) ?_
      have e : (if decide (a < 0) = true then -((a.natAbs + b.natAbs : Nat) : Int) else (a.natAbs + b.natAbs : Nat)) = a + b := by
        by_cases h1 : a < 0
        · have h2 : b < 0 := by rw [decide_eq_true h1] at h; exact of_decide_eq_true h.symm
          simp [h1]; omega
        · have h2 : ¬ b < 0 := by rw [decide_eq_false h1] at h; exact of_decide_eq_false h.symm
          simp [h1]; omega
      rw [e]
      repeat (first|refine z2 ?_|refine z1 ?_|refine z3 ?_|refine z4 ?_|refine z5 ?_)
      (exact awp_ret ⟨.inl rfl, ret_one rfl (.refl (by first | trivial | exact nrl_u64s _))⟩)
    · have h : decide (a < 0) ≠ decide (b < 0) := by simpa using h
      have hs : (a < 0 ∧ 0 ≤ b) ∨ (0 ≤ a ∧ b < 0) := by
        by_cases h1 : a < 0 <;> by_cases h2 : b < 0 <;> simp [h1, h2] at h <;> omega
      repeat (first|refine z2 ?_|refine z1 ?_|refine z3 ?_|refine z4 ?_|refine z5 ?_)
      refine zc (cmp_ok a.natAbs b.natAbs ha hb) ?_
      repeat (first|refine z2 ?_|refine z1 ?_|refine z3 ?_|refine z4 ?_|refine z5 ?_)
      obtain ⟨n, hn⟩ : ∃ n : Bool, n = if a.natAbs < b.natAbs then decide (b < 0) else decide (a < 0) := ⟨_, rfl⟩
      obtain ⟨x, hx⟩ : ∃ x, x = if a.natAbs < b.natAbs then b.natAbs else a.natAbs := ⟨_, rfl⟩
      obtain ⟨y, hy⟩ : ∃ y, y = if a.natAbs < b.natAbs then a.natAbs else b.natAbs := ⟨_, rfl⟩
      refine awp_at ⟨[(9, .v (.bool n)), (10, .v (.string (numS x))), (12, .v (.string (numS y)))], [], 0⟩ ?_ ?_
      · refine awp_cond rfl (fun h2 => ?_) (fun h2 => ?_)
        · have h2 := cmpN_lt.1 (of_decide_eq_true h2)
          rw [if_pos h2] at hn hx hy
          subst hn; subst hx; subst hy
          repeat (first|refine z2 ?_|refine z1 ?_|refine z3 ?_|refine z4 ?_|refine z5 ?_)
          exact le_sub ⟨rfl, rfl, rfl, trivial⟩ rfl rfl
        · have h2 : ¬ a.natAbs < b.natAbs := fun h3 => (of_decide_eq_false h2) (cmpN_lt.2 h3)
          rw [if_neg h2] at hn hx hy
          subst hn; subst hx; subst hy
          repeat (first|refine z2 ?_|refine z1 ?_|refine z3 ?_|refine z4 ?_|refine z5 ?_)
          exact le_sub ⟨rfl, rfl, rfl, trivial⟩ rfl rfl
      · have fact : okN x ∧ y ≤ x ∧ (if n then -((x - y : Nat) : Int) else (x - y : Nat)) = a + b := by
          rw [hn, hx, hy]
          by_cases h1 : a.natAbs < b.natAbs
          · simp only [if_pos h1]
            refine ⟨hb, by omega, ?_⟩
            by_cases h2 : b < 0
            · simp only [h2, decide_true, if_true]; omega
            · simp only [h2, decide_false, Bool.false_eq_true, if_false]; omega
          · simp only [if_neg h1]
            refine ⟨ha, by omega, ?_⟩
            by_cases h2 : a < 0
            · simp only [h2, decide_true, if_true]; omega
            · simp only [h2, decide_false, Bool.false_eq_true, if_false]; omega
        obtain ⟨f1, f2, f3⟩ := fact
        repeat (first|refine z2 ?_|refine z1 ?_|refine z3 ?_|refine z4 ?_|refine z5 ?_)
        refine zc (subN_ok x y f1 f2) ?_
        repeat (first|refine z2 ?_|refine z1 ?_|refine z3 ?_|refine z4 ?_|refine z5 ?_)
        refine zc (join_ok n (x - y) (okN_mono (Nat.sub_le _ _) f1)) ?_
        rw [f3]
        repeat (first|refine z2 ?_|refine z1 ?_|refine z3 ?_|refine z4 ?_|refine z5 ?_)
        (exact awp_ret ⟨.inl rfl, ret_one rfl (.refl (by first | trivial | exact nrl_u64s _))⟩)
theorem zsub_ok (a b : Int) (hab : okN (a.natAbs + b.natAbs)) : OkP (laiOf Tryz.prog) Tryz.prog 261 [.v (.string (zS a)), .v (.string (zS b))] (.v (.string (zS (a - b)))) := by
  have hb : okZ b := okN_mono (by omega) hab
  refine okp_intro hT 9 Tryz.func261 rfl rfl rfl (Nat.le_of_ble_eq_true rfl) trivial ?_
  intro w0 F0 I
  repeat (first|refine z2 ?_|refine z1 ?_|refine z3 ?_|refine z4 ?_|refine z5 ?_)
  refine zc (neg_ok b hb) ?_
  repeat (first|refine z2 ?_|refine z1 ?_|refine z3 ?_|refine z4 ?_|refine z5 ?_)
  refine zc (zadd_ok a (-b) (by rw [Int.natAbs_neg]; exact hab)) ?_
  rw [← Int.sub_eq_add_neg]
  repeat (first|refine z2 ?_|refine z1 ?_|refine z3 ?_|refine z4 ?_|refine z5 ?_)
  (exact awp_ret ⟨.inl rfl, ret_one rfl (.refl (by first | trivial | exact nrl_u64s _))⟩)
set_option maxRecDepth 10000 in
theorem zmul_ok (a b : Int) (ha : okZ a) (hb : okZ b) (hab : okN (a.natAbs * b.natAbs)) : OkP (laiOf Tryz.prog) Tryz.prog 106 [.v (.string (zS a)), .v (.string (zS b))] (.v (.string (zS (a * b)))) := by
  refine okp_intro hT 46 Tryz.func106 rfl rfl rfl (Nat.le_of_ble_eq_true rfl) trivial ?_
  intro w0 F0 I
  have l1 := little_ok a 9 (by omega) ha
  have l2 := little_ok b 9 (by omega) hb
  repeat (first|refine z2 ?_|refine z1 ?_|refine z3 ?_|refine z4 ?_|refine z5 ?_)
  refine zc (l1) ?_
  repeat (first|refine z2 ?_|refine z1 ?_|refine z3 ?_|refine z4 ?_|refine z5 ?_)
  refine awp_at ⟨[(0, .v (.string (zS a))), (1, .v (.string (zS b)))], [], 0⟩ ?_ ?_
  · refine awp_cond rfl (fun h => ?_) (fun h => ?_)
    · have h := of_decide_eq_true h
      rw [if_pos h]
      repeat (first|refine z2 ?_|refine z1 ?_|refine z3 ?_|refine z4 ?_|refine z5 ?_)
      refine zc (l2) ?_
      repeat (first|refine z2 ?_|refine z1 ?_|refine z3 ?_|refine z4 ?_|refine z5 ?_)
      refine awp_cond rfl (fun h2 => ?_) (fun h2 => ?_)
      · have h2 := of_decide_eq_true h2
        rw [if_pos h2]
        have s1 := zS_small9 h
        have s2 := zS_small9 h2
        have s3 : (a * b).natAbs ≤ 999999999 * 999999999 := by rw [Int.natAbs_mul]; exact Nat.mul_le_mul (by omega) (by omega)
        have s4 : -999999998000000001 ≤ a * b ∧ a * b ≤ 999999998000000001 := by omega
        repeat (first|refine z2 ?_|refine z1 ?_|refine z3 ?_|refine z4 ?_|refine z5 ?_)
        refine zc (zof_ok (a * b) (by omega) (by omega)) ?_
        repeat (first|refine z2 ?_|refine z1 ?_|refine z3 ?_|refine z4 ?_|refine z5 ?_)
        (exact awp_ret ⟨.inl rfl, ret_one rfl (.refl (by first | trivial | exact nrl_u64s _))⟩)
      · repeat (first|refine z2 ?_|refine z1 ?_|refine z3 ?_|refine z4 ?_|refine z5 ?_)
        exact le_sub ⟨rfl, rfl, trivial⟩ rfl rfl
    · repeat (first|refine z2 ?_|refine z1 ?_|refine z3 ?_|refine z4 ?_|refine z5 ?_)
      exact le_sub ⟨rfl, rfl, trivial⟩ rfl rfl
  · repeat (first|refine z2 ?_|refine z1 ?_|refine z3 ?_|refine z4 ?_|refine z5 ?_)
    refine zc (split_ok a ha) ?_
    repeat (first|refine z2 ?_|refine z1 ?_|refine z3 ?_|refine z4 ?_|refine z5 ?_)
    refine zc (split_ok b hb) ?_
    repeat (first|refine z2 ?_|refine z1 ?_|refine z3 ?_|refine z4 ?_|refine z5 ?_)
    refine zc (mul_ok a.natAbs b.natAbs ha hb hab) ?_
    refine zc (join_ok (!(decide (a < 0) == decide (b < 0))) (a.natAbs * b.natAbs) hab) ?_
    have e : (if (!(decide (a < 0) == decide (b < 0))) = true then -((a.natAbs * b.natAbs : Nat) : Int) else (a.natAbs * b.natAbs : Nat)) = a * b := by
      rw [← Int.natAbs_mul]
      by_cases h1 : a < 0 <;> by_cases h2 : b < 0
      · have := Int.mul_pos_of_neg_of_neg h1 h2
        simp [h1, h2] <;> omega
      · have h3 : b * a ≤ 0 := Int.mul_nonpos_of_nonneg_of_nonpos (show 0 ≤ b by omega) (show a ≤ 0 by omega)
        rw [Int.mul_comm] at h3
        simp [h1, h2] <;> omega
      · have h3 : a * b ≤ 0 := Int.mul_nonpos_of_nonneg_of_nonpos (show 0 ≤ a by omega) (show b ≤ 0 by omega)
        simp [h1, h2] <;> omega
      · have h3 : 0 ≤ a * b := Int.mul_nonneg (by omega) (by omega)
        simp [h1, h2] <;> omega
    rw [e]
    repeat (first|refine z2 ?_|refine z1 ?_|refine z3 ?_|refine z4 ?_|refine z5 ?_)
    (exact awp_ret ⟨.inl rfl, ret_one rfl (.refl (by first | trivial | exact nrl_u64s _))⟩)
end Go.Proofs.YtlbhgejbfhhipaaGreatDoor

/- Walks: division of integers of any size, and small ones. -/
namespace Go.Proofs.YtlbhgejbfhhipaaGreatDoor
open Go Go.Am Go.Lib Go.Sp Z1 Z2 Z3 Z4 Z5 Z6
theorem fdiv_uniq {a b q r : Int} (hb : b ≠ 0) (h : a = q * b + r) (hr : (0 ≤ r ∧ r < b) ∨ (b < r ∧ r ≤ 0)) : Int.fdiv a b = q ∧ Int.fmod a b = r := by
  have h1 := fmod_abs a hb
  have h2 := fmod_fdiv a b
  have h3 : (0 < b → 0 ≤ Int.fmod a b) ∧ (b < 0 → Int.fmod a b ≤ 0) := by
    refine ⟨fun h => Int.fmod_nonneg_of_pos _ h, fun h => ?_⟩
    rw [Int.fmod_eq_emod]
    have h5 := Int.emod_nonneg a hb
    have h6 := Int.emod_lt a hb
    split
    · rename_i h'
      rcases h' with h' | h'
      · omega
      · rw [Int.emod_eq_zero_of_dvd h']; omega
    · omega
  have h4 : (Int.fdiv a b - q) * b = r - Int.fmod a b := by rw [Int.sub_mul]; omega
  have h5 : (r - Int.fmod a b).natAbs < b.natAbs := by
    rcases hr with hr | hr
    · have := h3.1 (by omega); omega
    · have := h3.2 (by omega); omega
  rw [← h4, Int.natAbs_mul] at h5
  have h6 : (Int.fdiv a b - q).natAbs = 0 := by
    rcases Nat.eq_zero_or_pos (Int.fdiv a b - q).natAbs with h | h
    · exact h
    · have := Nat.mul_le_mul_right b.natAbs h
      omega
  have h7 : Int.fdiv a b = q := by omega
  refine ⟨h7, ?_⟩
  rw [← h2, h7]; omega
theorem tdiv_fix (a b : Int) (hb : b ≠ 0) : Int.fdiv a b = (if a.tmod b ≠ 0 ∧ (decide (a.tmod b < 0) ≠ decide (b < 0)) then a.tdiv b - 1 else a.tdiv b) ∧ Int.fmod a b = (if a.tmod b ≠ 0 ∧ (decide (a.tmod b < 0) ≠ decide (b < 0)) then a.tmod b + b else a.tmod b) := by
  have h1 := Int.mul_tdiv_add_tmod a b
  have h2 : (a.tmod b).natAbs < b.natAbs := by
    rw [Int.natAbs_tmod]
    exact Nat.mod_lt _ (by omega)
  by_cases hc : a.tmod b ≠ 0 ∧ (decide (a.tmod b < 0) ≠ decide (b < 0))
  · rw [if_pos hc, if_pos hc]
    refine fdiv_uniq hb ?_ ?_
    · rw [Int.sub_mul, Int.mul_comm]; omega
    · by_cases h3 : a.tmod b < 0
      · by_cases h4 : b < 0
        · simp [h3, h4] at hc
        · omega
      · by_cases h4 : b < 0
        · omega
        · simp [h3, h4] at hc
  · rw [if_neg hc, if_neg hc]
    refine fdiv_uniq hb ?_ ?_
    · rw [Int.mul_comm]; omega
    · by_cases h0 : a.tmod b = 0
      · omega
      · by_cases h3 : a.tmod b < 0
        · by_cases h4 : b < 0
          · omega
          · exact absurd ⟨h0, by simp [h3, h4]⟩ hc
        · by_cases h4 : b < 0
          · exact absurd ⟨h0, by simp [h3, h4]⟩ hc
          · omega
/-- The quotient and the rest of magnitudes, with signs. -/
theorem mag_fix (a b : Int) (hb : b ≠ 0) : Int.fdiv a b = (if decide (a < 0) ≠ decide (b < 0) then -((a.natAbs / b.natAbs + (if a.natAbs % b.natAbs ≠ 0 then 1 else 0) : Nat) : Int) else (a.natAbs / b.natAbs : Nat)) ∧
    Int.fmod a b = (if b < 0 then -((if decide (a < 0) ≠ decide (b < 0) ∧ a.natAbs % b.natAbs ≠ 0 then b.natAbs - a.natAbs % b.natAbs else a.natAbs % b.natAbs : Nat) : Int) else ((if decide (a < 0) ≠ decide (b < 0) ∧ a.natAbs % b.natAbs ≠ 0 then b.natAbs - a.natAbs % b.natAbs else a.natAbs % b.natAbs : Nat) : Int)) := by
  have h1 := Nat.div_add_mod a.natAbs b.natAbs
  have h2 : a.natAbs % b.natAbs < b.natAbs := Nat.mod_lt _ (by omega)
  generalize a.natAbs / b.natAbs = Q at *
  generalize a.natAbs % b.natAbs = R at *
  have h3 : ((b.natAbs : Nat) : Int) * (Q : Int) + (R : Int) = (a.natAbs : Nat) := by rw [← h1]; simp
  by_cases ha : a < 0 <;> by_cases hb' : b < 0
  · have e : ((b.natAbs : Nat) : Int) = -b := by omega
    rw [e, Int.neg_mul, Int.mul_comm b] at h3
    simp only [ha, hb', decide_true, ne_eq, not_true_eq_false, if_false, if_true, false_and]
    exact fdiv_uniq hb (by omega) (by omega)
  · have e : ((b.natAbs : Nat) : Int) = b := by omega
    rw [e, Int.mul_comm b] at h3
    simp only [ha, hb', decide_true, decide_false, ne_eq, if_false, not_false_eq_true, if_true, true_and, Bool.true_eq_false]
    by_cases hR : R = 0
    · subst hR
      simp only [not_true_eq_false, if_false, Nat.add_zero]
      refine fdiv_uniq hb ?_ (by omega)
      rw [Int.neg_mul]; omega
    · simp only [hR, not_false_eq_true, if_true]
      refine fdiv_uniq hb ?_ (by omega)
      rw [Int.neg_mul, Int.natCast_add, Int.add_mul]; omega
  · have e : ((b.natAbs : Nat) : Int) = -b := by omega
    rw [e, Int.neg_mul, Int.mul_comm b] at h3
    simp only [ha, hb', decide_true, decide_false, ne_eq, not_false_eq_true, if_true, true_and, Bool.false_eq_true]
    by_cases hR : R = 0
    · subst hR
      simp only [not_true_eq_false, if_false, Nat.add_zero]
      refine fdiv_uniq hb ?_ (by omega)
      rw [Int.neg_mul]; omega
    · simp only [hR, not_false_eq_true, if_true]
      refine fdiv_uniq hb ?_ (by omega)
      rw [Int.neg_mul, Int.natCast_add, Int.add_mul]; omega
  · have e : ((b.natAbs : Nat) : Int) = b := by omega
    rw [e, Int.mul_comm b] at h3
    simp only [ha, hb', decide_false, ne_eq, not_true_eq_false, if_false, false_and]
    exact fdiv_uniq hb (by omega) (by omega)
theorem small_ab {z : Int} (h : (zS z).size ≤ 18) : z.natAbs ≤ 999999999999999999 := by have := zS_small h; omega
set_option maxRecDepth 10000 in
theorem zdivmod_ok (a b : Int) (ha : okZ a) (hb : okZ b) (h0 : b ≠ 0) : OkP (laiOf Tryz.prog) Tryz.prog 145 [.v (.string (zS a)), .v (.string (zS b))] (.tup [.v (.string (zS (Int.fdiv a b))), .v (.string (zS (Int.fmod a b))), .v (.int .i64 0)]) := by
  refine okp_intro hT 100 Tryz.func145 rfl rfl rfl (Nat.le_of_ble_eq_true rfl) ⟨trivial, trivial, trivial, trivial⟩ ?_
  intro w0 F0 I
  have l1 := little_ok a 18 (by omega) ha
  have l2 := little_ok b 18 (by omega) hb
  repeat (first|refine z2 ?_|refine z1 ?_|refine z3 ?_|refine z4 ?_|refine z5 ?_)
  refine awp_cond rfl (fun h => ?_) (fun _ => ?_)
  · rw [z_beq0] at h; exact absurd (of_decide_eq_true h) h0
  repeat (first|refine z2 ?_|refine z1 ?_|refine z3 ?_|refine z4 ?_|refine z5 ?_)
  refine zc (l1) ?_
  repeat (first|refine z2 ?_|refine z1 ?_|refine z3 ?_|refine z4 ?_|refine z5 ?_)
  refine awp_at ⟨[(0, .v (.string (zS a))), (1, .v (.string (zS b)))], [], 0⟩ ?_ ?_
  · refine awp_cond rfl (fun h => ?_) (fun h => ?_)
    · have h := of_decide_eq_true h
      rw [if_pos h]
      repeat (first|refine z2 ?_|refine z1 ?_|refine z3 ?_|refine z4 ?_|refine z5 ?_)
      refine zc (l2) ?_
      repeat (first|refine z2 ?_|refine z1 ?_|refine z3 ?_|refine z4 ?_|refine z5 ?_)
      refine awp_cond rfl (fun h2 => ?_) (fun h2 => ?_)
      · have h2 := of_decide_eq_true h2
        rw [if_pos h2]
        have s1 := small_ab h
        have s2 := small_ab h2
        obtain ⟨f1, f2⟩ := tdiv_fix a b h0
        have t1 : (a.tmod b).natAbs < b.natAbs := by rw [Int.natAbs_tmod]; exact Nat.mod_lt _ (by omega)
        have t2 : (a.tdiv b).natAbs ≤ a.natAbs := by rw [Int.natAbs_tdiv]; exact Nat.div_le_self _ _
        have f3 : (Int.fmod a b).natAbs < b.natAbs := fmod_abs a h0
        have f4 := fdiv_le a b
        generalize hq : a.tdiv b = q at f1 f2 t1 t2
        generalize hr : a.tmod b = r at f1 f2 t1 t2
        have q3 : -9223372036854775808 ≤ a.tdiv b ∧ a.tdiv b ≤ 9223372036854775807 := by rw [hq]; omega
        have r3 : -9223372036854775808 ≤ a.tmod b ∧ a.tmod b ≤ 9223372036854775807 := by rw [hr]; omega
        repeat (first|refine z2 ?_|refine z1 ?_|refine z3 ?_|refine z4 ?_|refine z5 ?_)
        refine awp_region_draw [] hmix (by kernel_rfl) ?_
        repeat (refine z2 ?_)
        refine al_nil ?_
        rw [hq, hr]
        repeat (first | refine awp_seq ?_ | refine awp_block ?_)
        refine awp_at ⟨[(11, .v (.int .i64 q)), (12, .v (.int .i64 r)), (9, .v (.int .i64 b)), (47, .v (.bool (decide (r ≠ 0 ∧ (decide (r < 0) ≠ decide (b < 0))))))], [], 0⟩ ?_ ?_
        · refine awp_region ?_
          by_cases hr0 : r = 0
          · have hdA : (r != 0) = false := by simp [hr0]
            repeat (first|refine z2 ?_|refine z1 ?_|refine z3 ?_|refine z4 ?_|refine z5 ?_|refine z8 ?_|refine z9 ?_)
            refine al_pick rfl rfl rfl (v := (r != 0)) (r := .v (.bool false)) (by rw [hdA]; rfl) rfl rfl ?_
            repeat (first|refine z2 ?_|refine z1 ?_|refine z3 ?_|refine z4 ?_|refine z5 ?_)
            refine le_sub ⟨rfl, rfl, rfl, ?_, trivial⟩ rfl rfl
            rw [decide_eq_false (show ¬ (r ≠ 0 ∧ (decide (r < 0) ≠ decide (b < 0))) from fun h => h.1 hr0)]; rfl
          · have hdA : (r != 0) = true := by simp [hr0]
            repeat (first|refine z2 ?_|refine z1 ?_|refine z3 ?_|refine z4 ?_|refine z5 ?_|refine z8 ?_|refine z9 ?_)
            refine le_sub ⟨rfl, rfl, rfl, ?_, trivial⟩ rfl rfl
            refine pick_tt _ _ _ hdA ?_
            by_cases h1 : r < 0 <;> by_cases h2 : b < 0 <;> simp [h1, h2, hr0]
        · refine awp_at ⟨[(11, .v (.int .i64 (Int.fdiv a b))), (12, .v (.int .i64 (Int.fmod a b)))], [], 0⟩ ?_ ?_
          · refine awp_cond rfl (fun hc => ?_) (fun hc => ?_)
            · have hc := of_decide_eq_true hc
              rw [if_pos hc] at f1 f2
              repeat (first|refine z2 ?_|refine z1 ?_|refine z3 ?_|refine z4 ?_|refine z5 ?_)
              refine le_sub ⟨?_, ?_, trivial⟩ rfl rfl
              · rw [f1]; rfl
              · rw [f2]; rfl
            · have hc := of_decide_eq_false hc
              rw [if_neg hc] at f1 f2
              repeat (first|refine z2 ?_|refine z1 ?_|refine z3 ?_|refine z4 ?_|refine z5 ?_)
              refine le_sub ⟨?_, ?_, trivial⟩ rfl rfl
              · rw [f1]; rfl
              · rw [f2]; rfl
          · repeat (first|refine z2 ?_|refine z1 ?_|refine z3 ?_|refine z4 ?_|refine z5 ?_)
            refine zc (zof_ok (Int.fdiv a b) (by omega) (by omega)) ?_
            repeat (first|refine z2 ?_|refine z1 ?_|refine z3 ?_|refine z4 ?_|refine z5 ?_)
            refine zc (zof_ok (Int.fmod a b) (by omega) (by omega)) ?_
            repeat (first|refine z2 ?_|refine z1 ?_|refine z3 ?_|refine z4 ?_|refine z5 ?_)
            (exact awp_ret ⟨.inl rfl, ret_tup rfl (by repeat' (first | exact SubL.nil | (refine SubL.cons (.refl ?_) ?_; (focus (first | trivial | exact nrl_u64s _ | exact nr_rowS _ | exact nr_matS _ | exact nrl_i64s _ | exact nrl_rowsC _)))))⟩)
      · repeat (first|refine z2 ?_|refine z1 ?_|refine z3 ?_|refine z4 ?_|refine z5 ?_)
        exact le_sub ⟨rfl, rfl, trivial⟩ rfl rfl
    · repeat (first|refine z2 ?_|refine z1 ?_|refine z3 ?_|refine z4 ?_|refine z5 ?_)
      exact le_sub ⟨rfl, rfl, trivial⟩ rfl rfl
  · have hlt : a.natAbs % b.natAbs < b.natAbs := Nat.mod_lt _ (by omega)
    have hle : a.natAbs / b.natAbs ≤ a.natAbs := Nat.div_le_self _ _
    have hdm := Nat.div_add_mod a.natAbs b.natAbs
    obtain ⟨f1, f2⟩ := mag_fix a b h0
    have hdv := divmod_ok a.natAbs b.natAbs ha hb (by omega)
    have hq1 : a.natAbs % b.natAbs ≠ 0 → a.natAbs / b.natAbs + 1 ≤ a.natAbs := fun h => by
      rcases Nat.eq_zero_or_pos (a.natAbs / b.natAbs) with h1 | h1
      · rw [h1, Nat.mul_zero] at hdm; omega
      · have h3 := Nat.mul_le_mul_right (a.natAbs / b.natAbs) (show 1 ≤ b.natAbs by omega)
        omega
    generalize a.natAbs / b.natAbs = Q at *
    generalize a.natAbs % b.natAbs = R at *
    repeat (first|refine z2 ?_|refine z1 ?_|refine z3 ?_|refine z4 ?_|refine z5 ?_)
    refine zc (split_ok a ha) ?_
    repeat (first|refine z2 ?_|refine z1 ?_|refine z3 ?_|refine z4 ?_|refine z5 ?_)
    refine zc (split_ok b hb) ?_
    repeat (first|refine z2 ?_|refine z1 ?_|refine z3 ?_|refine z4 ?_|refine z5 ?_)
    refine zc (hdv) ?_
    repeat (first|refine z2 ?_|refine z1 ?_|refine z3 ?_|refine z4 ?_|refine z5 ?_)
    refine awp_cond rfl (fun h => by cases h) (fun _ => ?_)
    obtain ⟨Q2, hQ2⟩ : ∃ x, x = if decide (a < 0) ≠ decide (b < 0) ∧ R ≠ 0 then Q + 1 else Q := ⟨_, rfl⟩
    obtain ⟨R2, hR2⟩ : ∃ x, x = if decide (a < 0) ≠ decide (b < 0) ∧ R ≠ 0 then b.natAbs - R else R := ⟨_, rfl⟩
    have okQ : okN Q2 := by
      rw [hQ2]
      split
      · rename_i h; exact okN_mono (hq1 h.2) ha
      · exact okN_mono hle ha
    have okR : okN R2 := by
      rw [hR2]
      split
      · exact okN_mono (Nat.sub_le _ _) hb
      · exact okN_mono (Nat.le_of_lt hlt) hb
    refine awp_skip ?_
    repeat (first | refine awp_seq ?_ | refine awp_block ?_)
    refine awp_at ⟨[(13, .v (.bool (decide (a < 0)))), (15, .v (.bool (decide (b < 0)))), (16, .v (.string (numS b.natAbs))), (17, .v (.string (numS Q))), (18, .v (.string (numS R))), (83, .v (.bool (decide (decide (a < 0) ≠ decide (b < 0) ∧ R ≠ 0))))], [], 0⟩ ?_ ?_
    · refine awp_region ?_
      by_cases hs : decide (a < 0) = decide (b < 0)
      · have hdA : (!(decide (a < 0) == decide (b < 0))) = false := by rw [hs]; simp
        repeat (first|refine z2 ?_|refine z1 ?_|refine z3 ?_|refine z4 ?_|refine z5 ?_|refine z8 ?_|refine z9 ?_)
        refine al_pick rfl rfl rfl (v := (!(decide (a < 0) == decide (b < 0)))) (r := .v (.bool false)) (by rw [hdA]; rfl) rfl rfl ?_
        repeat (first|refine z2 ?_|refine z1 ?_|refine z3 ?_|refine z4 ?_|refine z5 ?_)
        refine le_sub ⟨rfl, rfl, rfl, rfl, rfl, ?_, trivial⟩ rfl rfl
        rw [decide_eq_false (show ¬ (decide (a < 0) ≠ decide (b < 0) ∧ R ≠ 0) from fun h => h.1 hs)]; rfl
      · have hdA : (!(decide (a < 0) == decide (b < 0))) = true := by simpa using hs
        repeat (first|refine z2 ?_|refine z1 ?_|refine z3 ?_|refine z4 ?_|refine z5 ?_|refine z8 ?_|refine z9 ?_)
        refine le_sub ⟨rfl, rfl, rfl, rfl, rfl, ?_, trivial⟩ rfl rfl
        refine pick_tt _ _ _ hdA ?_
        rw [num_beq0]
        by_cases hR : R = 0 <;> simp [hR, hs]
    · refine awp_at ⟨[(13, .v (.bool (decide (a < 0)))), (15, .v (.bool (decide (b < 0)))), (17, .v (.string (numS Q2))), (18, .v (.string (numS R2)))], [], 0⟩ ?_ ?_
      · refine awp_cond rfl (fun hc => ?_) (fun hc => ?_)
        · have hc := of_decide_eq_true hc
          rw [if_pos hc] at hQ2 hR2
          have had := addN_ok Q 1 (okN_mono hle ha) (okN_small (by omega)) (okN_mono (hq1 hc.2) ha)
          rw [numS_one] at had
          repeat (first|refine z2 ?_|refine z1 ?_|refine z3 ?_|refine z4 ?_|refine z5 ?_)
          refine zc (had) ?_
          repeat (first|refine z2 ?_|refine z1 ?_|refine z3 ?_|refine z4 ?_|refine z5 ?_)
          refine zc (subN_ok b.natAbs R hb (Nat.le_of_lt hlt)) ?_
          repeat (first|refine z2 ?_|refine z1 ?_|refine z3 ?_|refine z4 ?_|refine z5 ?_)
          refine le_sub ⟨rfl, rfl, ?_, ?_, trivial⟩ rfl rfl
          · rw [hQ2]; rfl
          · rw [hR2]; rfl
        · have hc := of_decide_eq_false hc
          rw [if_neg hc] at hQ2 hR2
          repeat (first|refine z2 ?_|refine z1 ?_|refine z3 ?_|refine z4 ?_|refine z5 ?_)
          refine le_sub ⟨rfl, rfl, ?_, ?_, trivial⟩ rfl rfl
          · rw [hQ2]; rfl
          · rw [hR2]; rfl
      · repeat (first|refine z2 ?_|refine z1 ?_|refine z3 ?_|refine z4 ?_|refine z5 ?_)
        refine zc (join_ok (!(decide (a < 0) == decide (b < 0))) Q2 okQ) ?_
        repeat (first|refine z2 ?_|refine z1 ?_|refine z3 ?_|refine z4 ?_|refine z5 ?_)
        refine zc (join_ok (decide (b < 0)) R2 okR) ?_
        have e1 : (if (!(decide (a < 0) == decide (b < 0))) = true then -((Q2 : Nat) : Int) else (Q2 : Nat)) = Int.fdiv a b := by
          rw [f1, hQ2]
          by_cases h1 : a < 0 <;> by_cases h2 : b < 0 <;> by_cases h3 : R = 0 <;> simp [h1, h2, h3]
        have e2 : (if decide (b < 0) = true then -((R2 : Nat) : Int) else (R2 : Nat)) = Int.fmod a b := by
          rw [f2, hR2]
          simp only [decide_eq_true_eq]
        rw [e1, e2]
        repeat (first|refine z2 ?_|refine z1 ?_|refine z3 ?_|refine z4 ?_|refine z5 ?_)
        (exact awp_ret ⟨.inl rfl, ret_tup rfl (by repeat' (first | exact SubL.nil | (refine SubL.cons (.refl ?_) ?_; (focus (first | trivial | exact nrl_u64s _ | exact nr_rowS _ | exact nr_matS _ | exact nrl_i64s _ | exact nrl_rowsC _)))))⟩)
end Go.Proofs.YtlbhgejbfhhipaaGreatDoor

/- Walks: greatest common divisors of integers, small integers. -/
namespace Go.Proofs.YtlbhgejbfhhipaaGreatDoor
open Go Go.Am Go.Lib Go.Sp Z1 Z2 Z3 Z4 Z5 Z6
theorem gcdint_ok {Λ : Lai} (a b : Nat) (ha : a ≤ 999999999999999999) (hb : b ≤ 999999999999999999) : OkP Λ Tryz.prog 129 [.v (.int .i64 a), .v (.int .i64 b)] (.v (.int .i64 (Nat.gcd a b))) := by
  refine okp_intro hT 12 Tryz.func129 rfl rfl rfl (Nat.le_of_ble_eq_true rfl) trivial ?_
  intro w0 F0 I
  repeat (first|refine z2 ?_|refine z1 ?_|refine z3 ?_|refine z4 ?_|refine z5 ?_)
  refine awp_loop (fun x : { x : Nat × Nat // Nat.gcd x.1 x.2 = Nat.gcd a b ∧ x.1 ≤ 999999999999999999 ∧ x.2 ≤ 999999999999999999 } => ⟨[(0, .v (.int .i64 x.1.1)), (1, .v (.int .i64 x.1.2))], [], 0⟩) (fun x => x.1.2) ⟨(a, b), rfl, ha, hb⟩ (le_sub ⟨rfl, rfl, trivial⟩ rfl rfl) ?_
  rintro ⟨⟨x, y⟩, hg, hx, hy⟩
  simp only at hg hx hy ⊢
  repeat (first|refine z2 ?_|refine z1 ?_|refine z3 ?_|refine z4 ?_|refine z5 ?_)
  refine awp_cond rfl (fun h => ?_) (fun h => ?_)
  · have hy0 : y ≠ 0 := by
      have : ((y : Nat) : Int) ≠ 0 := by simpa using h
      omega
    have hm : (x : Int).tmod (y : Int) = ((x % y : Nat) : Int) := rfl
    have hlt : x % y < y := Nat.mod_lt x (by omega)
    repeat (first|refine z2 ?_|refine z1 ?_|refine z3 ?_|refine z4 ?_|refine z5 ?_)
    refine awp_region_draw [] hmix (by kernel_rfl) ?_
    repeat (first|refine z2 ?_|refine z1 ?_|refine z3 ?_|refine z4 ?_|refine z5 ?_)
    refine ⟨⟨(y, x % y), by show Nat.gcd y (x % y) = _; rw [← hg, Nat.gcd_comm x y, Nat.gcd_rec y x, Nat.gcd_comm], hy, by show x % y ≤ _; omega⟩, le_sub ⟨rfl, rfl, trivial⟩ rfl rfl, hlt⟩
  · have hy0 : y = 0 := by
      have : ((y : Nat) : Int) = 0 := by simpa using h
      omega
    subst hy0
    rw [Nat.gcd_zero_right] at hg
    rw [← hg]
    repeat (first|refine z2 ?_|refine z1 ?_|refine z3 ?_|refine z4 ?_|refine z5 ?_)
    (exact awp_ret ⟨.inl rfl, ret_one rfl (.refl (by first | trivial | exact nrl_u64s _))⟩)
theorem numS_z (n : Nat) : numS n = zS (n : Int) := (zS_nat n).symm
theorem zgcd_ok (a b : Int) (ha : okZ a) (hb : okZ b) : OkP (laiOf Tryz.prog) Tryz.prog 85 [.v (.string (zS a)), .v (.string (zS b))] (.v (.string (numS (Nat.gcd a.natAbs b.natAbs)))) := by
  refine okp_intro hT 34 Tryz.func85 rfl rfl rfl (Nat.le_of_ble_eq_true rfl) trivial ?_
  intro w0 F0 I
  have l1 := little_ok (a.natAbs : Int) 18 (by omega) ha
  have l2 := little_ok (b.natAbs : Int) 18 (by omega) hb
  rw [zS_nat] at l1 l2
  repeat (first|refine z2 ?_|refine z1 ?_|refine z3 ?_|refine z4 ?_|refine z5 ?_)
  refine zc (abs_ok a ha) ?_
  repeat (first|refine z2 ?_|refine z1 ?_|refine z3 ?_|refine z4 ?_|refine z5 ?_)
  refine zc (abs_ok b hb) ?_
  repeat (first|refine z2 ?_|refine z1 ?_|refine z3 ?_|refine z4 ?_|refine z5 ?_)
  refine zc (l1) ?_
  repeat (first|refine z2 ?_|refine z1 ?_|refine z3 ?_|refine z4 ?_|refine z5 ?_)
  refine awp_at ⟨[(5, .v (.string (numS a.natAbs))), (6, .v (.string (numS b.natAbs)))], [], 0⟩ ?_ ?_
  · refine awp_cond rfl (fun h => ?_) (fun h => ?_)
    · have h := of_decide_eq_true h
      rw [if_pos h]
      repeat (first|refine z2 ?_|refine z1 ?_|refine z3 ?_|refine z4 ?_|refine z5 ?_)
      refine zc (l2) ?_
      repeat (first|refine z2 ?_|refine z1 ?_|refine z3 ?_|refine z4 ?_|refine z5 ?_)
      refine awp_cond rfl (fun h2 => ?_) (fun h2 => ?_)
      · have h2 := of_decide_eq_true h2
        rw [if_pos h2]
        rw [numS_z] at h h2
        have s1 := zS_small h
        have s2 := zS_small h2
        have s3 : Nat.gcd a.natAbs b.natAbs ≤ 999999999999999999 := by
          rcases Nat.eq_zero_or_pos a.natAbs with e | e
          · rw [e, Nat.gcd_zero_left]; omega
          · exact Nat.le_trans (Nat.gcd_le_left _ e) (by omega)
        have hz := zof_ok (Nat.gcd a.natAbs b.natAbs : Nat) (by omega) (by omega)
        rw [zS_nat] at hz
        repeat (first|refine z2 ?_|refine z1 ?_|refine z3 ?_|refine z4 ?_|refine z5 ?_)
        refine zc (gcdint_ok a.natAbs b.natAbs (by omega) (by omega)) ?_
        refine zc (hz) ?_
        repeat (first|refine z2 ?_|refine z1 ?_|refine z3 ?_|refine z4 ?_|refine z5 ?_)
        (exact awp_ret ⟨.inl rfl, ret_one rfl (.refl (by first | trivial | exact nrl_u64s _))⟩)
      · repeat (first|refine z2 ?_|refine z1 ?_|refine z3 ?_|refine z4 ?_|refine z5 ?_)
        exact le_sub ⟨rfl, rfl, trivial⟩ rfl rfl
    · repeat (first|refine z2 ?_|refine z1 ?_|refine z3 ?_|refine z4 ?_|refine z5 ?_)
      exact le_sub ⟨rfl, rfl, trivial⟩ rfl rfl
  · repeat (first|refine z2 ?_|refine z1 ?_|refine z3 ?_|refine z4 ?_|refine z5 ?_)
    refine zc (gcd_ok a.natAbs b.natAbs ha hb) ?_
    repeat (first|refine z2 ?_|refine z1 ?_|refine z3 ?_|refine z4 ?_|refine z5 ?_)
    (exact awp_ret ⟨.inl rfl, ret_one rfl (.refl (by first | trivial | exact nrl_u64s _))⟩)
theorem zsmall_ok (z : Int) (h : okZ z) : OkP (laiOf Tryz.prog) Tryz.prog 67 [.v (.string (zS z))] (.tup [.v (.int .i64 (if -9223372036854775808 ≤ z ∧ z ≤ 9223372036854775807 then z else 0)), .v (.bool (decide (-9223372036854775808 ≤ z ∧ z ≤ 9223372036854775807)))]) := by
  refine okp_intro hT 14 Tryz.func67 rfl rfl rfl (Nat.le_of_ble_eq_true rfl) ⟨trivial, trivial, trivial⟩ ?_
  intro w0 F0 I
  have hz := okZ_size h
  have hp := parseI_itoa z
  rw [← zS_list] at hp
  by_cases hn : -9223372036854775808 ≤ z ∧ z ≤ 9223372036854775807
  · rw [if_pos hn] at hp
    repeat (first|refine z2 ?_|refine z1 ?_|refine z3 ?_|refine z4 ?_|refine z5 ?_)
    refine zc (parseInt_ok (zS z) (by omega) z hp) ?_
    repeat (first|refine z2 ?_|refine z1 ?_|refine z3 ?_|refine z4 ?_|refine z5 ?_)
    refine awp_cond rfl (fun h => by cases h) (fun _ => ?_)
    repeat (first|refine z2 ?_|refine z1 ?_|refine z3 ?_|refine z4 ?_|refine z5 ?_)
    rw [if_pos hn, decide_eq_true hn]
    (exact awp_ret ⟨.inl rfl, ret_tup rfl (by repeat' (first | exact SubL.nil | (refine SubL.cons (.refl ?_) ?_; (focus (first | trivial | exact nrl_u64s _ | exact nr_rowS _ | exact nr_matS _ | exact nrl_i64s _ | exact nrl_rowsC _)))))⟩)
  · rw [if_neg hn] at hp
    repeat (first|refine z2 ?_|refine z1 ?_|refine z3 ?_|refine z4 ?_|refine z5 ?_)
    refine zc (parseInt_range (zS z) (by omega) hp) ?_
    repeat (first|refine z2 ?_|refine z1 ?_|refine z3 ?_|refine z4 ?_|refine z5 ?_)
    refine awp_cond rfl (fun _ => ?_) (fun h => by cases h)
    repeat (first|refine z2 ?_|refine z1 ?_|refine z3 ?_|refine z4 ?_|refine z5 ?_)
    rw [if_neg hn, decide_eq_false hn]
    (exact awp_ret ⟨.inl rfl, ret_tup rfl (by repeat' (first | exact SubL.nil | (refine SubL.cons (.refl ?_) ?_; (focus (first | trivial | exact nrl_u64s _ | exact nr_rowS _ | exact nr_matS _ | exact nrl_i64s _ | exact nrl_rowsC _)))))⟩)
end Go.Proofs.YtlbhgejbfhhipaaGreatDoor
