/- The types of the program, as the tables of them. Written by tygen.py. -/
import Derived.Test.YtphlhadgcfndhaaGreatAbs20
import Derived.Test.YtphlhadgcfndhaaGreatProg
import Derived.KernelRfl
namespace Go.Proofs.YtphlhadgcfndhaaGreat.Abs
open Go Go.RowKit
@[simp] def ti2 : TI := ⟨(Go.TypeDesc.int Go.IntKind.i64), (Go.Value.int Go.IntKind.i64 0), 1, 8, false⟩
theorem ty2 : TyOk Tryz.prog 2 ti2 := ⟨Tryz.underlying2, by kernel_rfl, by kernel_rfl, by kernel_rfl, fun h => by cases h⟩
@[simp] def ti3 : TI := ⟨(Go.TypeDesc.int Go.IntKind.i64), (Go.Value.int Go.IntKind.i64 0), 1, 8, false⟩
theorem ty3 : TyOk Tryz.prog 3 ti3 := ⟨Tryz.underlying3, by kernel_rfl, by kernel_rfl, by kernel_rfl, fun h => by cases h⟩
@[simp] def ti4 : TI := ⟨Go.TypeDesc.bool, (Go.Value.bool Bool.false), 1, 1, false⟩
theorem ty4 : TyOk Tryz.prog 4 ti4 := ⟨Tryz.underlying4, by kernel_rfl, by kernel_rfl, by kernel_rfl, fun h => by cases h⟩
@[simp] def ti5 : TI := ⟨(Go.TypeDesc.int Go.IntKind.u8), (Go.Value.int Go.IntKind.u8 0), 1, 1, false⟩
theorem ty5 : TyOk Tryz.prog 5 ti5 := ⟨Tryz.underlying5, by kernel_rfl, by kernel_rfl, by kernel_rfl, fun h => by cases h⟩
@[simp] def ti6 : TI := ⟨(Go.TypeDesc.int Go.IntKind.u8), (Go.Value.int Go.IntKind.u8 0), 1, 1, false⟩
theorem ty6 : TyOk Tryz.prog 6 ti6 := ⟨Tryz.underlying6, by kernel_rfl, by kernel_rfl, by kernel_rfl, fun h => by cases h⟩
@[simp] def ti7 : TI := ⟨(Go.TypeDesc.struct #[{ name := "x", type := 2, offset := 0, embedded := Bool.false, tag := "", pkgPath := "runtime", byteOffset := 0 }, { name := "y", type := 3, offset := 1, embedded := Bool.false, tag := "", pkgPath := "runtime", byteOffset := 8 }, { name := "signed", type := 4, offset := 2, embedded := Bool.false, tag := "", pkgPath := "runtime", byteOffset := 16 }, { name := "code", type := 6, offset := 3, embedded := Bool.false, tag := "", pkgPath := "runtime", byteOffset := 17 }]), (Go.Value.agg #[Go.Value.int Go.IntKind.i64 0, Go.Value.int Go.IntKind.i64 0, Go.Value.bool Bool.false, Go.Value.int Go.IntKind.u8 0]), 4, 24, false⟩
theorem ty7 : TyOk Tryz.prog 7 ti7 := ⟨Tryz.underlying7, by kernel_rfl, by kernel_rfl, by kernel_rfl, fun h => by cases h⟩
@[simp] def ti8 : TI := ⟨(Go.TypeDesc.struct #[{ name := "x", type := 2, offset := 0, embedded := Bool.false, tag := "", pkgPath := "runtime", byteOffset := 0 }, { name := "y", type := 3, offset := 1, embedded := Bool.false, tag := "", pkgPath := "runtime", byteOffset := 8 }, { name := "signed", type := 4, offset := 2, embedded := Bool.false, tag := "", pkgPath := "runtime", byteOffset := 16 }, { name := "code", type := 6, offset := 3, embedded := Bool.false, tag := "", pkgPath := "runtime", byteOffset := 17 }]), (Go.Value.agg #[Go.Value.int Go.IntKind.i64 0, Go.Value.int Go.IntKind.i64 0, Go.Value.bool Bool.false, Go.Value.int Go.IntKind.u8 0]), 4, 24, false⟩
theorem ty8 : TyOk Tryz.prog 8 ti8 := ⟨Tryz.underlying8, by kernel_rfl, by kernel_rfl, by kernel_rfl, fun h => by cases h⟩
@[simp] def ti9 : TI := ⟨Go.TypeDesc.string, (Go.Value.string { data := #[] }), 1, 16, false⟩
theorem ty9 : TyOk Tryz.prog 9 ti9 := ⟨Tryz.underlying9, by kernel_rfl, by kernel_rfl, by kernel_rfl, fun h => by cases h⟩
@[simp] def ti10 : TI := ⟨Go.TypeDesc.string, (Go.Value.string { data := #[] }), 1, 16, false⟩
theorem ty10 : TyOk Tryz.prog 10 ti10 := ⟨Tryz.underlying10, by kernel_rfl, by kernel_rfl, by kernel_rfl, fun h => by cases h⟩
@[simp] def ti11 : TI := ⟨Go.TypeDesc.string, (Go.Value.string { data := #[] }), 1, 16, false⟩
theorem ty11 : TyOk Tryz.prog 11 ti11 := ⟨Tryz.underlying11, by kernel_rfl, by kernel_rfl, by kernel_rfl, fun h => by cases h⟩
@[simp] def ti12 : TI := ⟨(Go.TypeDesc.int Go.IntKind.u64), (Go.Value.int Go.IntKind.u64 0), 1, 8, false⟩
theorem ty12 : TyOk Tryz.prog 12 ti12 := ⟨Tryz.underlying12, by kernel_rfl, by kernel_rfl, by kernel_rfl, fun h => by cases h⟩
@[simp] def ti13 : TI := ⟨(Go.TypeDesc.struct #[{ name := "msg", type := 9, offset := 0, embedded := Bool.false, tag := "", pkgPath := "runtime", byteOffset := 0 }, { name := "addr", type := 12, offset := 1, embedded := Bool.false, tag := "", pkgPath := "runtime", byteOffset := 16 }]), (Go.Value.agg #[Go.Value.string { data := #[] }, Go.Value.int Go.IntKind.u64 0]), 2, 24, false⟩
theorem ty13 : TyOk Tryz.prog 13 ti13 := ⟨Tryz.underlying13, by kernel_rfl, by kernel_rfl, by kernel_rfl, fun h => by cases h⟩
@[simp] def ti14 : TI := ⟨(Go.TypeDesc.struct #[{ name := "msg", type := 9, offset := 0, embedded := Bool.false, tag := "", pkgPath := "runtime", byteOffset := 0 }, { name := "addr", type := 12, offset := 1, embedded := Bool.false, tag := "", pkgPath := "runtime", byteOffset := 16 }]), (Go.Value.agg #[Go.Value.string { data := #[] }, Go.Value.int Go.IntKind.u64 0]), 2, 24, false⟩
theorem ty14 : TyOk Tryz.prog 14 ti14 := ⟨Tryz.underlying14, by kernel_rfl, by kernel_rfl, by kernel_rfl, fun h => by cases h⟩
@[simp] def ti15 : TI := ⟨(Go.TypeDesc.pointer 190), (Go.Value.pointer Option.none), 1, 8, false⟩
theorem ty15 : TyOk Tryz.prog 15 ti15 := ⟨Tryz.underlying15, by kernel_rfl, by kernel_rfl, by kernel_rfl, fun h => by cases h⟩
@[simp] def ti16 : TI := ⟨(Go.TypeDesc.pointer 193), (Go.Value.pointer Option.none), 1, 8, false⟩
theorem ty16 : TyOk Tryz.prog 16 ti16 := ⟨Tryz.underlying16, by kernel_rfl, by kernel_rfl, by kernel_rfl, fun h => by cases h⟩
@[simp] def ti17 : TI := ⟨(Go.TypeDesc.pointer 203), (Go.Value.pointer Option.none), 1, 8, false⟩
theorem ty17 : TyOk Tryz.prog 17 ti17 := ⟨Tryz.underlying17, by kernel_rfl, by kernel_rfl, by kernel_rfl, fun h => by cases h⟩
@[simp] def ti18 : TI := ⟨(Go.TypeDesc.struct #[{ name := "typ", type := 17, offset := 0, embedded := Bool.false, tag := "", pkgPath := "internal/runtime/maps", byteOffset := 0 }]), (Go.Value.agg #[Go.Value.pointer Option.none]), 1, 8, false⟩
theorem ty18 : TyOk Tryz.prog 18 ti18 := ⟨Tryz.underlying18, by kernel_rfl, by kernel_rfl, by kernel_rfl, fun h => by cases h⟩
@[simp] def ti19 : TI := ⟨(Go.TypeDesc.struct #[{ name := "typ", type := 17, offset := 0, embedded := Bool.false, tag := "", pkgPath := "internal/runtime/maps", byteOffset := 0 }]), (Go.Value.agg #[Go.Value.pointer Option.none]), 1, 8, false⟩
theorem ty19 : TyOk Tryz.prog 19 ti19 := ⟨Tryz.underlying19, by kernel_rfl, by kernel_rfl, by kernel_rfl, fun h => by cases h⟩
@[simp] def ti20 : TI := ⟨(Go.TypeDesc.interface #[]), Go.Value.nilIface, 1, 16, false⟩
theorem ty20 : TyOk Tryz.prog 20 ti20 := ⟨Tryz.underlying20, by kernel_rfl, by kernel_rfl, by kernel_rfl, fun h => by cases h⟩
@[simp] def ti21 : TI := ⟨(Go.TypeDesc.int Go.IntKind.i32), (Go.Value.int Go.IntKind.i32 0), 1, 4, false⟩
theorem ty21 : TyOk Tryz.prog 21 ti21 := ⟨Tryz.underlying21, by kernel_rfl, by kernel_rfl, by kernel_rfl, fun h => by cases h⟩
@[simp] def ti22 : TI := ⟨(Go.TypeDesc.slice 3), (Go.Value.slice Option.none 0 0), 1, 24, false⟩
theorem ty22 : TyOk Tryz.prog 22 ti22 := ⟨Tryz.underlying22, by kernel_rfl, by kernel_rfl, by kernel_rfl, fun h => by cases h⟩
@[simp] def ti24 : TI := ⟨(Go.TypeDesc.slice 39), (Go.Value.slice Option.none 0 0), 1, 24, false⟩
theorem ty24 : TyOk Tryz.prog 24 ti24 := ⟨Tryz.underlying24, by kernel_rfl, by kernel_rfl, by kernel_rfl, fun h => by cases h⟩
@[simp] def ti25 : TI := ⟨(Go.TypeDesc.struct #[{ name := "Operations", type := 24, offset := 0, embedded := Bool.false, tag := "", pkgPath := "", byteOffset := 0 }]), (Go.Value.agg #[Go.Value.slice Option.none 0 0]), 1, 24, false⟩
theorem ty25 : TyOk Tryz.prog 25 ti25 := ⟨Tryz.underlying25, by kernel_rfl, by kernel_rfl, by kernel_rfl, fun h => by cases h⟩
@[simp] def ti26 : TI := ⟨(Go.TypeDesc.struct #[{ name := "Operations", type := 24, offset := 0, embedded := Bool.false, tag := "", pkgPath := "", byteOffset := 0 }]), (Go.Value.agg #[Go.Value.slice Option.none 0 0]), 1, 24, false⟩
theorem ty26 : TyOk Tryz.prog 26 ti26 := ⟨Tryz.underlying26, by kernel_rfl, by kernel_rfl, by kernel_rfl, fun h => by cases h⟩
@[simp] def ti30 : TI := ⟨(Go.TypeDesc.int Go.IntKind.i64), (Go.Value.int Go.IntKind.i64 0), 1, 8, false⟩
theorem ty30 : TyOk Tryz.prog 30 ti30 := ⟨Tryz.underlying30, by kernel_rfl, by kernel_rfl, by kernel_rfl, fun h => by cases h⟩
@[simp] def ti35 : TI := ⟨(Go.TypeDesc.pointer 39), (Go.Value.pointer Option.none), 1, 8, false⟩
theorem ty35 : TyOk Tryz.prog 35 ti35 := ⟨Tryz.underlying35, by kernel_rfl, by kernel_rfl, by kernel_rfl, fun h => by cases h⟩
@[simp] def ti36 : TI := ⟨(Go.TypeDesc.slice 81), (Go.Value.slice Option.none 0 0), 1, 24, false⟩
theorem ty36 : TyOk Tryz.prog 36 ti36 := ⟨Tryz.underlying36, by kernel_rfl, by kernel_rfl, by kernel_rfl, fun h => by cases h⟩
@[simp] def ti37 : TI := ⟨(Go.TypeDesc.slice 53), (Go.Value.slice Option.none 0 0), 1, 24, false⟩
theorem ty37 : TyOk Tryz.prog 37 ti37 := ⟨Tryz.underlying37, by kernel_rfl, by kernel_rfl, by kernel_rfl, fun h => by cases h⟩
@[simp] def ti38 : TI := ⟨(Go.TypeDesc.struct #[{ name := "Process", type := 3, offset := 0, embedded := Bool.false, tag := "", pkgPath := "", byteOffset := 0 }, { name := "Kind", type := 3, offset := 1, embedded := Bool.false, tag := "", pkgPath := "", byteOffset := 8 }, { name := "Effects", type := 36, offset := 2, embedded := Bool.false, tag := "", pkgPath := "", byteOffset := 16 }, { name := "Result", type := 37, offset := 3, embedded := Bool.false, tag := "", pkgPath := "", byteOffset := 40 }, { name := "Call", type := 3, offset := 4, embedded := Bool.false, tag := "", pkgPath := "", byteOffset := 64 }, { name := "Return", type := 3, offset := 5, embedded := Bool.false, tag := "", pkgPath := "", byteOffset := 72 }]), (Go.Value.agg #[Go.Value.int Go.IntKind.i64 0, Go.Value.int Go.IntKind.i64 0, Go.Value.slice Option.none 0 0, Go.Value.slice Option.none 0 0, Go.Value.int Go.IntKind.i64 0, Go.Value.int Go.IntKind.i64 0]), 6, 80, false⟩
theorem ty38 : TyOk Tryz.prog 38 ti38 := ⟨Tryz.underlying38, by kernel_rfl, by kernel_rfl, by kernel_rfl, fun h => by cases h⟩
@[simp] def ti39 : TI := ⟨(Go.TypeDesc.struct #[{ name := "Process", type := 3, offset := 0, embedded := Bool.false, tag := "", pkgPath := "", byteOffset := 0 }, { name := "Kind", type := 3, offset := 1, embedded := Bool.false, tag := "", pkgPath := "", byteOffset := 8 }, { name := "Effects", type := 36, offset := 2, embedded := Bool.false, tag := "", pkgPath := "", byteOffset := 16 }, { name := "Result", type := 37, offset := 3, embedded := Bool.false, tag := "", pkgPath := "", byteOffset := 40 }, { name := "Call", type := 3, offset := 4, embedded := Bool.false, tag := "", pkgPath := "", byteOffset := 64 }, { name := "Return", type := 3, offset := 5, embedded := Bool.false, tag := "", pkgPath := "", byteOffset := 72 }]), (Go.Value.agg #[Go.Value.int Go.IntKind.i64 0, Go.Value.int Go.IntKind.i64 0, Go.Value.slice Option.none 0 0, Go.Value.slice Option.none 0 0, Go.Value.int Go.IntKind.i64 0, Go.Value.int Go.IntKind.i64 0]), 6, 80, false⟩
theorem ty39 : TyOk Tryz.prog 39 ti39 := ⟨Tryz.underlying39, by kernel_rfl, by kernel_rfl, by kernel_rfl, fun h => by cases h⟩
@[simp] def ti44 : TI := ⟨(Go.TypeDesc.slice 60), (Go.Value.slice Option.none 0 0), 1, 24, false⟩
theorem ty44 : TyOk Tryz.prog 44 ti44 := ⟨Tryz.underlying44, by kernel_rfl, by kernel_rfl, by kernel_rfl, fun h => by cases h⟩
@[simp] def ti51 : TI := ⟨(Go.TypeDesc.slice 9), (Go.Value.slice Option.none 0 0), 1, 24, false⟩
theorem ty51 : TyOk Tryz.prog 51 ti51 := ⟨Tryz.underlying51, by kernel_rfl, by kernel_rfl, by kernel_rfl, fun h => by cases h⟩
@[simp] def ti52 : TI := ⟨(Go.TypeDesc.struct #[{ name := "Object", type := 9, offset := 0, embedded := Bool.false, tag := "", pkgPath := "", byteOffset := 0 }, { name := "Field", type := 9, offset := 1, embedded := Bool.false, tag := "", pkgPath := "", byteOffset := 16 }, { name := "Set", type := 4, offset := 2, embedded := Bool.false, tag := "", pkgPath := "", byteOffset := 32 }, { name := "N", type := 2, offset := 3, embedded := Bool.false, tag := "", pkgPath := "", byteOffset := 40 }, { name := "S", type := 9, offset := 4, embedded := Bool.false, tag := "", pkgPath := "", byteOffset := 48 }, { name := "HasMax", type := 4, offset := 5, embedded := Bool.false, tag := "", pkgPath := "", byteOffset := 64 }, { name := "Max", type := 2, offset := 6, embedded := Bool.false, tag := "", pkgPath := "", byteOffset := 72 }, { name := "Sum", type := 2, offset := 7, embedded := Bool.false, tag := "", pkgPath := "", byteOffset := 80 }, { name := "Elems", type := 51, offset := 8, embedded := Bool.false, tag := "", pkgPath := "", byteOffset := 88 }, { name := "Flag", type := 4, offset := 9, embedded := Bool.false, tag := "", pkgPath := "", byteOffset := 112 }]), (Go.Value.agg #[Go.Value.string { data := #[] }, Go.Value.string { data := #[] }, Go.Value.bool Bool.false, Go.Value.int Go.IntKind.i64 0, Go.Value.string { data := #[] }, Go.Value.bool Bool.false, Go.Value.int Go.IntKind.i64 0, Go.Value.int Go.IntKind.i64 0, Go.Value.slice Option.none 0 0, Go.Value.bool Bool.false]), 10, 120, false⟩
theorem ty52 : TyOk Tryz.prog 52 ti52 := ⟨Tryz.underlying52, by kernel_rfl, by kernel_rfl, by kernel_rfl, fun h => by cases h⟩
@[simp] def ti53 : TI := ⟨(Go.TypeDesc.struct #[{ name := "Object", type := 9, offset := 0, embedded := Bool.false, tag := "", pkgPath := "", byteOffset := 0 }, { name := "Field", type := 9, offset := 1, embedded := Bool.false, tag := "", pkgPath := "", byteOffset := 16 }, { name := "Set", type := 4, offset := 2, embedded := Bool.false, tag := "", pkgPath := "", byteOffset := 32 }, { name := "N", type := 2, offset := 3, embedded := Bool.false, tag := "", pkgPath := "", byteOffset := 40 }, { name := "S", type := 9, offset := 4, embedded := Bool.false, tag := "", pkgPath := "", byteOffset := 48 }, { name := "HasMax", type := 4, offset := 5, embedded := Bool.false, tag := "", pkgPath := "", byteOffset := 64 }, { name := "Max", type := 2, offset := 6, embedded := Bool.false, tag := "", pkgPath := "", byteOffset := 72 }, { name := "Sum", type := 2, offset := 7, embedded := Bool.false, tag := "", pkgPath := "", byteOffset := 80 }, { name := "Elems", type := 51, offset := 8, embedded := Bool.false, tag := "", pkgPath := "", byteOffset := 88 }, { name := "Flag", type := 4, offset := 9, embedded := Bool.false, tag := "", pkgPath := "", byteOffset := 112 }]), (Go.Value.agg #[Go.Value.string { data := #[] }, Go.Value.string { data := #[] }, Go.Value.bool Bool.false, Go.Value.int Go.IntKind.i64 0, Go.Value.string { data := #[] }, Go.Value.bool Bool.false, Go.Value.int Go.IntKind.i64 0, Go.Value.int Go.IntKind.i64 0, Go.Value.slice Option.none 0 0, Go.Value.bool Bool.false]), 10, 120, false⟩
theorem ty53 : TyOk Tryz.prog 53 ti53 := ⟨Tryz.underlying53, by kernel_rfl, by kernel_rfl, by kernel_rfl, fun h => by cases h⟩
@[simp] def ti55 : TI := ⟨(Go.TypeDesc.struct #[{ name := "Client", type := 3, offset := 0, embedded := Bool.false, tag := "", pkgPath := "", byteOffset := 0 }, { name := "Seq", type := 3, offset := 1, embedded := Bool.false, tag := "", pkgPath := "", byteOffset := 8 }, { name := "Tag", type := 3, offset := 2, embedded := Bool.false, tag := "", pkgPath := "", byteOffset := 16 }, { name := "Effects", type := 36, offset := 3, embedded := Bool.false, tag := "", pkgPath := "", byteOffset := 24 }]), (Go.Value.agg #[Go.Value.int Go.IntKind.i64 0, Go.Value.int Go.IntKind.i64 0, Go.Value.int Go.IntKind.i64 0, Go.Value.slice Option.none 0 0]), 4, 48, false⟩
theorem ty55 : TyOk Tryz.prog 55 ti55 := ⟨Tryz.underlying55, by kernel_rfl, by kernel_rfl, by kernel_rfl, fun h => by cases h⟩
@[simp] def ti56 : TI := ⟨(Go.TypeDesc.struct #[{ name := "Client", type := 3, offset := 0, embedded := Bool.false, tag := "", pkgPath := "", byteOffset := 0 }, { name := "Seq", type := 3, offset := 1, embedded := Bool.false, tag := "", pkgPath := "", byteOffset := 8 }, { name := "Tag", type := 3, offset := 2, embedded := Bool.false, tag := "", pkgPath := "", byteOffset := 16 }, { name := "Effects", type := 36, offset := 3, embedded := Bool.false, tag := "", pkgPath := "", byteOffset := 24 }]), (Go.Value.agg #[Go.Value.int Go.IntKind.i64 0, Go.Value.int Go.IntKind.i64 0, Go.Value.int Go.IntKind.i64 0, Go.Value.slice Option.none 0 0]), 4, 48, false⟩
theorem ty56 : TyOk Tryz.prog 56 ti56 := ⟨Tryz.underlying56, by kernel_rfl, by kernel_rfl, by kernel_rfl, fun h => by cases h⟩
@[simp] def ti57 : TI := ⟨(Go.TypeDesc.slice 56), (Go.Value.slice Option.none 0 0), 1, 24, false⟩
theorem ty57 : TyOk Tryz.prog 57 ti57 := ⟨Tryz.underlying57, by kernel_rfl, by kernel_rfl, by kernel_rfl, fun h => by cases h⟩
@[simp] def ti58 : TI := ⟨(Go.TypeDesc.slice 56), (Go.Value.slice Option.none 0 0), 1, 24, false⟩
theorem ty58 : TyOk Tryz.prog 58 ti58 := ⟨Tryz.underlying58, by kernel_rfl, by kernel_rfl, by kernel_rfl, fun h => by cases h⟩
@[simp] def ti59 : TI := ⟨(Go.TypeDesc.struct #[{ name := "HasUpdate", type := 4, offset := 0, embedded := Bool.false, tag := "", pkgPath := "", byteOffset := 0 }, { name := "Update", type := 56, offset := 1, embedded := Bool.false, tag := "", pkgPath := "", byteOffset := 8 }, { name := "Agreed", type := 4, offset := 5, embedded := Bool.false, tag := "", pkgPath := "", byteOffset := 56 }, { name := "Learned", type := 58, offset := 6, embedded := Bool.false, tag := "", pkgPath := "", byteOffset := 64 }, { name := "Call", type := 3, offset := 7, embedded := Bool.false, tag := "", pkgPath := "", byteOffset := 88 }, { name := "Return", type := 3, offset := 8, embedded := Bool.false, tag := "", pkgPath := "", byteOffset := 96 }]), (Go.Value.agg #[Go.Value.bool Bool.false, Go.Value.int Go.IntKind.i64 0, Go.Value.int Go.IntKind.i64 0, Go.Value.int Go.IntKind.i64 0, Go.Value.slice Option.none 0 0, Go.Value.bool Bool.false, Go.Value.slice Option.none 0 0, Go.Value.int Go.IntKind.i64 0, Go.Value.int Go.IntKind.i64 0]), 9, 104, false⟩
theorem ty59 : TyOk Tryz.prog 59 ti59 := ⟨Tryz.underlying59, by kernel_rfl, by kernel_rfl, by kernel_rfl, fun h => by cases h⟩
@[simp] def ti60 : TI := ⟨(Go.TypeDesc.struct #[{ name := "HasUpdate", type := 4, offset := 0, embedded := Bool.false, tag := "", pkgPath := "", byteOffset := 0 }, { name := "Update", type := 56, offset := 1, embedded := Bool.false, tag := "", pkgPath := "", byteOffset := 8 }, { name := "Agreed", type := 4, offset := 5, embedded := Bool.false, tag := "", pkgPath := "", byteOffset := 56 }, { name := "Learned", type := 58, offset := 6, embedded := Bool.false, tag := "", pkgPath := "", byteOffset := 64 }, { name := "Call", type := 3, offset := 7, embedded := Bool.false, tag := "", pkgPath := "", byteOffset := 88 }, { name := "Return", type := 3, offset := 8, embedded := Bool.false, tag := "", pkgPath := "", byteOffset := 96 }]), (Go.Value.agg #[Go.Value.bool Bool.false, Go.Value.int Go.IntKind.i64 0, Go.Value.int Go.IntKind.i64 0, Go.Value.int Go.IntKind.i64 0, Go.Value.slice Option.none 0 0, Go.Value.bool Bool.false, Go.Value.slice Option.none 0 0, Go.Value.int Go.IntKind.i64 0, Go.Value.int Go.IntKind.i64 0]), 9, 104, false⟩
theorem ty60 : TyOk Tryz.prog 60 ti60 := ⟨Tryz.underlying60, by kernel_rfl, by kernel_rfl, by kernel_rfl, fun h => by cases h⟩
@[simp] def ti64 : TI := ⟨(Go.TypeDesc.slice 4), (Go.Value.slice Option.none 0 0), 1, 24, false⟩
theorem ty64 : TyOk Tryz.prog 64 ti64 := ⟨Tryz.underlying64, by kernel_rfl, by kernel_rfl, by kernel_rfl, fun h => by cases h⟩
@[simp] def ti69 : TI := ⟨(Go.TypeDesc.pointer 72), (Go.Value.pointer Option.none), 1, 8, false⟩
theorem ty69 : TyOk Tryz.prog 69 ti69 := ⟨Tryz.underlying69, by kernel_rfl, by kernel_rfl, by kernel_rfl, fun h => by cases h⟩
@[simp] def ti71 : TI := ⟨(Go.TypeDesc.struct #[{ name := "h", type := 26, offset := 0, embedded := Bool.false, tag := "", pkgPath := "elasticstore/linear", byteOffset := 0 }, { name := "spare", type := 3, offset := 1, embedded := Bool.false, tag := "", pkgPath := "elasticstore/linear", byteOffset := 24 }, { name := "order", type := 22, offset := 2, embedded := Bool.false, tag := "", pkgPath := "elasticstore/linear", byteOffset := 32 }, { name := "failed", type := 70, offset := 3, embedded := Bool.false, tag := "", pkgPath := "elasticstore/linear", byteOffset := 56 }]), (Go.Value.agg #[Go.Value.slice Option.none 0 0, Go.Value.int Go.IntKind.i64 0, Go.Value.slice Option.none 0 0, Go.Value.map Option.none]), 4, 64, false⟩
theorem ty71 : TyOk Tryz.prog 71 ti71 := ⟨Tryz.underlying71, by kernel_rfl, by kernel_rfl, by kernel_rfl, fun h => by cases h⟩
@[simp] def ti72 : TI := ⟨(Go.TypeDesc.struct #[{ name := "h", type := 26, offset := 0, embedded := Bool.false, tag := "", pkgPath := "elasticstore/linear", byteOffset := 0 }, { name := "spare", type := 3, offset := 1, embedded := Bool.false, tag := "", pkgPath := "elasticstore/linear", byteOffset := 24 }, { name := "order", type := 22, offset := 2, embedded := Bool.false, tag := "", pkgPath := "elasticstore/linear", byteOffset := 32 }, { name := "failed", type := 70, offset := 3, embedded := Bool.false, tag := "", pkgPath := "elasticstore/linear", byteOffset := 56 }]), (Go.Value.agg #[Go.Value.slice Option.none 0 0, Go.Value.int Go.IntKind.i64 0, Go.Value.slice Option.none 0 0, Go.Value.map Option.none]), 4, 64, false⟩
theorem ty72 : TyOk Tryz.prog 72 ti72 := ⟨Tryz.underlying72, by kernel_rfl, by kernel_rfl, by kernel_rfl, fun h => by cases h⟩
@[simp] def ti74 : TI := ⟨(Go.TypeDesc.array 10 5), (Go.Value.agg #[Go.Value.int Go.IntKind.u8 0, Go.Value.int Go.IntKind.u8 0, Go.Value.int Go.IntKind.u8 0, Go.Value.int Go.IntKind.u8 0, Go.Value.int Go.IntKind.u8 0, Go.Value.int Go.IntKind.u8 0, Go.Value.int Go.IntKind.u8 0, Go.Value.int Go.IntKind.u8 0, Go.Value.int Go.IntKind.u8 0, Go.Value.int Go.IntKind.u8 0]), 10, 10, false⟩
theorem ty74 : TyOk Tryz.prog 74 ti74 := ⟨Tryz.underlying74, by kernel_rfl, by kernel_rfl, by kernel_rfl, fun h => by cases h⟩
@[simp] def ti75 : TI := ⟨(Go.TypeDesc.array 10 5), (Go.Value.agg #[Go.Value.int Go.IntKind.u8 0, Go.Value.int Go.IntKind.u8 0, Go.Value.int Go.IntKind.u8 0, Go.Value.int Go.IntKind.u8 0, Go.Value.int Go.IntKind.u8 0, Go.Value.int Go.IntKind.u8 0, Go.Value.int Go.IntKind.u8 0, Go.Value.int Go.IntKind.u8 0, Go.Value.int Go.IntKind.u8 0, Go.Value.int Go.IntKind.u8 0]), 10, 10, false⟩
theorem ty75 : TyOk Tryz.prog 75 ti75 := ⟨Tryz.underlying75, by kernel_rfl, by kernel_rfl, by kernel_rfl, fun h => by cases h⟩
@[simp] def ti78 : TI := ⟨(Go.TypeDesc.array 6 3), (Go.Value.agg #[Go.Value.int Go.IntKind.i64 0, Go.Value.int Go.IntKind.i64 0, Go.Value.int Go.IntKind.i64 0, Go.Value.int Go.IntKind.i64 0, Go.Value.int Go.IntKind.i64 0, Go.Value.int Go.IntKind.i64 0]), 6, 48, false⟩
theorem ty78 : TyOk Tryz.prog 78 ti78 := ⟨Tryz.underlying78, by kernel_rfl, by kernel_rfl, by kernel_rfl, fun h => by cases h⟩
@[simp] def ti79 : TI := ⟨(Go.TypeDesc.pointer 60), (Go.Value.pointer Option.none), 1, 8, false⟩
theorem ty79 : TyOk Tryz.prog 79 ti79 := ⟨Tryz.underlying79, by kernel_rfl, by kernel_rfl, by kernel_rfl, fun h => by cases h⟩
@[simp] def ti80 : TI := ⟨(Go.TypeDesc.struct #[{ name := "Kind", type := 3, offset := 0, embedded := Bool.false, tag := "", pkgPath := "", byteOffset := 0 }, { name := "Object", type := 9, offset := 1, embedded := Bool.false, tag := "", pkgPath := "", byteOffset := 8 }, { name := "Field", type := 9, offset := 2, embedded := Bool.false, tag := "", pkgPath := "", byteOffset := 24 }, { name := "N", type := 2, offset := 3, embedded := Bool.false, tag := "", pkgPath := "", byteOffset := 40 }, { name := "S", type := 9, offset := 4, embedded := Bool.false, tag := "", pkgPath := "", byteOffset := 48 }]), (Go.Value.agg #[Go.Value.int Go.IntKind.i64 0, Go.Value.string { data := #[] }, Go.Value.string { data := #[] }, Go.Value.int Go.IntKind.i64 0, Go.Value.string { data := #[] }]), 5, 64, true⟩
theorem ty80 : TyOk Tryz.prog 80 ti80 := ⟨Tryz.underlying80, by kernel_rfl, by kernel_rfl, by kernel_rfl, fun _ => ⟨by kernel_rfl, by kernel_rfl⟩⟩
@[simp] def ti81 : TI := ⟨(Go.TypeDesc.struct #[{ name := "Kind", type := 3, offset := 0, embedded := Bool.false, tag := "", pkgPath := "", byteOffset := 0 }, { name := "Object", type := 9, offset := 1, embedded := Bool.false, tag := "", pkgPath := "", byteOffset := 8 }, { name := "Field", type := 9, offset := 2, embedded := Bool.false, tag := "", pkgPath := "", byteOffset := 24 }, { name := "N", type := 2, offset := 3, embedded := Bool.false, tag := "", pkgPath := "", byteOffset := 40 }, { name := "S", type := 9, offset := 4, embedded := Bool.false, tag := "", pkgPath := "", byteOffset := 48 }]), (Go.Value.agg #[Go.Value.int Go.IntKind.i64 0, Go.Value.string { data := #[] }, Go.Value.string { data := #[] }, Go.Value.int Go.IntKind.i64 0, Go.Value.string { data := #[] }]), 5, 64, true⟩
theorem ty81 : TyOk Tryz.prog 81 ti81 := ⟨Tryz.underlying81, by kernel_rfl, by kernel_rfl, by kernel_rfl, fun _ => ⟨by kernel_rfl, by kernel_rfl⟩⟩
@[simp] def ti85 : TI := ⟨(Go.TypeDesc.slice 121), (Go.Value.slice Option.none 0 0), 1, 24, false⟩
theorem ty85 : TyOk Tryz.prog 85 ti85 := ⟨Tryz.underlying85, by kernel_rfl, by kernel_rfl, by kernel_rfl, fun h => by cases h⟩
@[simp] def ti86 : TI := ⟨(Go.TypeDesc.struct #[{ name := "Objects", type := 85, offset := 0, embedded := Bool.false, tag := "", pkgPath := "", byteOffset := 0 }]), (Go.Value.agg #[Go.Value.slice Option.none 0 0]), 1, 24, false⟩
theorem ty86 : TyOk Tryz.prog 86 ti86 := ⟨Tryz.underlying86, by kernel_rfl, by kernel_rfl, by kernel_rfl, fun h => by cases h⟩
@[simp] def ti87 : TI := ⟨(Go.TypeDesc.struct #[{ name := "Objects", type := 85, offset := 0, embedded := Bool.false, tag := "", pkgPath := "", byteOffset := 0 }]), (Go.Value.agg #[Go.Value.slice Option.none 0 0]), 1, 24, false⟩
theorem ty87 : TyOk Tryz.prog 87 ti87 := ⟨Tryz.underlying87, by kernel_rfl, by kernel_rfl, by kernel_rfl, fun h => by cases h⟩
@[simp] def ti89 : TI := ⟨(Go.TypeDesc.slice 58), (Go.Value.slice Option.none 0 0), 1, 24, false⟩
theorem ty89 : TyOk Tryz.prog 89 ti89 := ⟨Tryz.underlying89, by kernel_rfl, by kernel_rfl, by kernel_rfl, fun h => by cases h⟩
@[simp] def ti92 : TI := ⟨(Go.TypeDesc.slice 22), (Go.Value.slice Option.none 0 0), 1, 24, false⟩
theorem ty92 : TyOk Tryz.prog 92 ti92 := ⟨Tryz.underlying92, by kernel_rfl, by kernel_rfl, by kernel_rfl, fun h => by cases h⟩
@[simp] def ti94 : TI := ⟨(Go.TypeDesc.pointer 96), (Go.Value.pointer Option.none), 1, 8, false⟩
theorem ty94 : TyOk Tryz.prog 94 ti94 := ⟨Tryz.underlying94, by kernel_rfl, by kernel_rfl, by kernel_rfl, fun h => by cases h⟩
@[simp] def ti95 : TI := ⟨(Go.TypeDesc.struct #[{ name := "e", type := 44, offset := 0, embedded := Bool.false, tag := "", pkgPath := "elasticstore/linear", byteOffset := 0 }, { name := "order", type := 22, offset := 1, embedded := Bool.false, tag := "", pkgPath := "elasticstore/linear", byteOffset := 24 }]), (Go.Value.agg #[Go.Value.slice Option.none 0 0, Go.Value.slice Option.none 0 0]), 2, 48, false⟩
theorem ty95 : TyOk Tryz.prog 95 ti95 := ⟨Tryz.underlying95, by kernel_rfl, by kernel_rfl, by kernel_rfl, fun h => by cases h⟩
@[simp] def ti96 : TI := ⟨(Go.TypeDesc.struct #[{ name := "e", type := 44, offset := 0, embedded := Bool.false, tag := "", pkgPath := "elasticstore/linear", byteOffset := 0 }, { name := "order", type := 22, offset := 1, embedded := Bool.false, tag := "", pkgPath := "elasticstore/linear", byteOffset := 24 }]), (Go.Value.agg #[Go.Value.slice Option.none 0 0, Go.Value.slice Option.none 0 0]), 2, 48, false⟩
theorem ty96 : TyOk Tryz.prog 96 ti96 := ⟨Tryz.underlying96, by kernel_rfl, by kernel_rfl, by kernel_rfl, fun h => by cases h⟩
@[simp] def ti115 : TI := ⟨(Go.TypeDesc.slice 159), (Go.Value.slice Option.none 0 0), 1, 24, false⟩
theorem ty115 : TyOk Tryz.prog 115 ti115 := ⟨Tryz.underlying115, by kernel_rfl, by kernel_rfl, by kernel_rfl, fun h => by cases h⟩
@[simp] def ti116 : TI := ⟨(Go.TypeDesc.slice 159), (Go.Value.slice Option.none 0 0), 1, 24, false⟩
theorem ty116 : TyOk Tryz.prog 116 ti116 := ⟨Tryz.underlying116, by kernel_rfl, by kernel_rfl, by kernel_rfl, fun h => by cases h⟩
@[simp] def ti119 : TI := ⟨(Go.TypeDesc.slice 125), (Go.Value.slice Option.none 0 0), 1, 24, false⟩
theorem ty119 : TyOk Tryz.prog 119 ti119 := ⟨Tryz.underlying119, by kernel_rfl, by kernel_rfl, by kernel_rfl, fun h => by cases h⟩
@[simp] def ti120 : TI := ⟨(Go.TypeDesc.struct #[{ name := "Name", type := 9, offset := 0, embedded := Bool.false, tag := "", pkgPath := "", byteOffset := 0 }, { name := "Fields", type := 119, offset := 1, embedded := Bool.false, tag := "", pkgPath := "", byteOffset := 16 }]), (Go.Value.agg #[Go.Value.string { data := #[] }, Go.Value.slice Option.none 0 0]), 2, 40, false⟩
theorem ty120 : TyOk Tryz.prog 120 ti120 := ⟨Tryz.underlying120, by kernel_rfl, by kernel_rfl, by kernel_rfl, fun h => by cases h⟩
@[simp] def ti121 : TI := ⟨(Go.TypeDesc.struct #[{ name := "Name", type := 9, offset := 0, embedded := Bool.false, tag := "", pkgPath := "", byteOffset := 0 }, { name := "Fields", type := 119, offset := 1, embedded := Bool.false, tag := "", pkgPath := "", byteOffset := 16 }]), (Go.Value.agg #[Go.Value.string { data := #[] }, Go.Value.slice Option.none 0 0]), 2, 40, false⟩
theorem ty121 : TyOk Tryz.prog 121 ti121 := ⟨Tryz.underlying121, by kernel_rfl, by kernel_rfl, by kernel_rfl, fun h => by cases h⟩
@[simp] def ti122 : TI := ⟨(Go.TypeDesc.struct #[{ name := "Set", type := 4, offset := 0, embedded := Bool.false, tag := "", pkgPath := "", byteOffset := 0 }, { name := "Tag", type := 3, offset := 1, embedded := Bool.false, tag := "", pkgPath := "", byteOffset := 8 }, { name := "Client", type := 3, offset := 2, embedded := Bool.false, tag := "", pkgPath := "", byteOffset := 16 }, { name := "Seq", type := 3, offset := 3, embedded := Bool.false, tag := "", pkgPath := "", byteOffset := 24 }, { name := "N", type := 2, offset := 4, embedded := Bool.false, tag := "", pkgPath := "", byteOffset := 32 }, { name := "S", type := 9, offset := 5, embedded := Bool.false, tag := "", pkgPath := "", byteOffset := 40 }]), (Go.Value.agg #[Go.Value.bool Bool.false, Go.Value.int Go.IntKind.i64 0, Go.Value.int Go.IntKind.i64 0, Go.Value.int Go.IntKind.i64 0, Go.Value.int Go.IntKind.i64 0, Go.Value.string { data := #[] }]), 6, 56, true⟩
theorem ty122 : TyOk Tryz.prog 122 ti122 := ⟨Tryz.underlying122, by kernel_rfl, by kernel_rfl, by kernel_rfl, fun _ => ⟨by kernel_rfl, by kernel_rfl⟩⟩
@[simp] def ti123 : TI := ⟨(Go.TypeDesc.struct #[{ name := "Set", type := 4, offset := 0, embedded := Bool.false, tag := "", pkgPath := "", byteOffset := 0 }, { name := "Tag", type := 3, offset := 1, embedded := Bool.false, tag := "", pkgPath := "", byteOffset := 8 }, { name := "Client", type := 3, offset := 2, embedded := Bool.false, tag := "", pkgPath := "", byteOffset := 16 }, { name := "Seq", type := 3, offset := 3, embedded := Bool.false, tag := "", pkgPath := "", byteOffset := 24 }, { name := "N", type := 2, offset := 4, embedded := Bool.false, tag := "", pkgPath := "", byteOffset := 32 }, { name := "S", type := 9, offset := 5, embedded := Bool.false, tag := "", pkgPath := "", byteOffset := 40 }]), (Go.Value.agg #[Go.Value.bool Bool.false, Go.Value.int Go.IntKind.i64 0, Go.Value.int Go.IntKind.i64 0, Go.Value.int Go.IntKind.i64 0, Go.Value.int Go.IntKind.i64 0, Go.Value.string { data := #[] }]), 6, 56, true⟩
theorem ty123 : TyOk Tryz.prog 123 ti123 := ⟨Tryz.underlying123, by kernel_rfl, by kernel_rfl, by kernel_rfl, fun _ => ⟨by kernel_rfl, by kernel_rfl⟩⟩
@[simp] def ti124 : TI := ⟨(Go.TypeDesc.struct #[{ name := "Name", type := 9, offset := 0, embedded := Bool.false, tag := "", pkgPath := "", byteOffset := 0 }, { name := "Register", type := 123, offset := 1, embedded := Bool.false, tag := "", pkgPath := "", byteOffset := 16 }, { name := "HasMax", type := 4, offset := 7, embedded := Bool.false, tag := "", pkgPath := "", byteOffset := 72 }, { name := "Max", type := 2, offset := 8, embedded := Bool.false, tag := "", pkgPath := "", byteOffset := 80 }, { name := "Sum", type := 2, offset := 9, embedded := Bool.false, tag := "", pkgPath := "", byteOffset := 88 }, { name := "Elems", type := 51, offset := 10, embedded := Bool.false, tag := "", pkgPath := "", byteOffset := 96 }, { name := "Flag", type := 4, offset := 11, embedded := Bool.false, tag := "", pkgPath := "", byteOffset := 120 }]), (Go.Value.agg #[Go.Value.string { data := #[] }, Go.Value.bool Bool.false, Go.Value.int Go.IntKind.i64 0, Go.Value.int Go.IntKind.i64 0, Go.Value.int Go.IntKind.i64 0, Go.Value.int Go.IntKind.i64 0, Go.Value.string { data := #[] }, Go.Value.bool Bool.false, Go.Value.int Go.IntKind.i64 0, Go.Value.int Go.IntKind.i64 0, Go.Value.slice Option.none 0 0, Go.Value.bool Bool.false]), 12, 128, false⟩
theorem ty124 : TyOk Tryz.prog 124 ti124 := ⟨Tryz.underlying124, by kernel_rfl, by kernel_rfl, by kernel_rfl, fun h => by cases h⟩
@[simp] def ti125 : TI := ⟨(Go.TypeDesc.struct #[{ name := "Name", type := 9, offset := 0, embedded := Bool.false, tag := "", pkgPath := "", byteOffset := 0 }, { name := "Register", type := 123, offset := 1, embedded := Bool.false, tag := "", pkgPath := "", byteOffset := 16 }, { name := "HasMax", type := 4, offset := 7, embedded := Bool.false, tag := "", pkgPath := "", byteOffset := 72 }, { name := "Max", type := 2, offset := 8, embedded := Bool.false, tag := "", pkgPath := "", byteOffset := 80 }, { name := "Sum", type := 2, offset := 9, embedded := Bool.false, tag := "", pkgPath := "", byteOffset := 88 }, { name := "Elems", type := 51, offset := 10, embedded := Bool.false, tag := "", pkgPath := "", byteOffset := 96 }, { name := "Flag", type := 4, offset := 11, embedded := Bool.false, tag := "", pkgPath := "", byteOffset := 120 }]), (Go.Value.agg #[Go.Value.string { data := #[] }, Go.Value.bool Bool.false, Go.Value.int Go.IntKind.i64 0, Go.Value.int Go.IntKind.i64 0, Go.Value.int Go.IntKind.i64 0, Go.Value.int Go.IntKind.i64 0, Go.Value.string { data := #[] }, Go.Value.bool Bool.false, Go.Value.int Go.IntKind.i64 0, Go.Value.int Go.IntKind.i64 0, Go.Value.slice Option.none 0 0, Go.Value.bool Bool.false]), 12, 128, false⟩
theorem ty125 : TyOk Tryz.prog 125 ti125 := ⟨Tryz.underlying125, by kernel_rfl, by kernel_rfl, by kernel_rfl, fun h => by cases h⟩
@[simp] def ti149 : TI := ⟨(Go.TypeDesc.pointer 53), (Go.Value.pointer Option.none), 1, 8, false⟩
theorem ty149 : TyOk Tryz.prog 149 ti149 := ⟨Tryz.underlying149, by kernel_rfl, by kernel_rfl, by kernel_rfl, fun h => by cases h⟩
@[simp] def ti158 : TI := ⟨(Go.TypeDesc.struct #[{ name := "Author", type := 3, offset := 0, embedded := Bool.false, tag := "", pkgPath := "", byteOffset := 0 }, { name := "Count", type := 3, offset := 1, embedded := Bool.false, tag := "", pkgPath := "", byteOffset := 8 }]), (Go.Value.agg #[Go.Value.int Go.IntKind.i64 0, Go.Value.int Go.IntKind.i64 0]), 2, 16, true⟩
theorem ty158 : TyOk Tryz.prog 158 ti158 := ⟨Tryz.underlying158, by kernel_rfl, by kernel_rfl, by kernel_rfl, fun _ => ⟨by kernel_rfl, by kernel_rfl⟩⟩
@[simp] def ti159 : TI := ⟨(Go.TypeDesc.struct #[{ name := "Author", type := 3, offset := 0, embedded := Bool.false, tag := "", pkgPath := "", byteOffset := 0 }, { name := "Count", type := 3, offset := 1, embedded := Bool.false, tag := "", pkgPath := "", byteOffset := 8 }]), (Go.Value.agg #[Go.Value.int Go.IntKind.i64 0, Go.Value.int Go.IntKind.i64 0]), 2, 16, true⟩
theorem ty159 : TyOk Tryz.prog 159 ti159 := ⟨Tryz.underlying159, by kernel_rfl, by kernel_rfl, by kernel_rfl, fun _ => ⟨by kernel_rfl, by kernel_rfl⟩⟩
@[simp] def ti162 : TI := ⟨(Go.TypeDesc.pointer 125), (Go.Value.pointer Option.none), 1, 8, false⟩
theorem ty162 : TyOk Tryz.prog 162 ti162 := ⟨Tryz.underlying162, by kernel_rfl, by kernel_rfl, by kernel_rfl, fun h => by cases h⟩
@[simp] def ti164 : TI := ⟨(Go.TypeDesc.pointer 87), (Go.Value.pointer Option.none), 1, 8, false⟩
theorem ty164 : TyOk Tryz.prog 164 ti164 := ⟨Tryz.underlying164, by kernel_rfl, by kernel_rfl, by kernel_rfl, fun h => by cases h⟩
@[simp] def ti173 : TI := ⟨(Go.TypeDesc.int Go.IntKind.u64), (Go.Value.int Go.IntKind.u64 0), 1, 8, false⟩
theorem ty173 : TyOk Tryz.prog 173 ti173 := ⟨Tryz.underlying173, by kernel_rfl, by kernel_rfl, by kernel_rfl, fun h => by cases h⟩
@[simp] def ti179 : TI := ⟨(Go.TypeDesc.pointer 121), (Go.Value.pointer Option.none), 1, 8, false⟩
theorem ty179 : TyOk Tryz.prog 179 ti179 := ⟨Tryz.underlying179, by kernel_rfl, by kernel_rfl, by kernel_rfl, fun h => by cases h⟩
@[simp] def ti189 : TI := ⟨(Go.TypeDesc.struct #[{ name := "_interface", type := 17, offset := 0, embedded := Bool.false, tag := "", pkgPath := "runtime", byteOffset := 0 }, { name := "concrete", type := 17, offset := 1, embedded := Bool.false, tag := "", pkgPath := "runtime", byteOffset := 8 }, { name := "asserted", type := 17, offset := 2, embedded := Bool.false, tag := "", pkgPath := "runtime", byteOffset := 16 }, { name := "missingMethod", type := 9, offset := 3, embedded := Bool.false, tag := "", pkgPath := "runtime", byteOffset := 24 }]), (Go.Value.agg #[Go.Value.pointer Option.none, Go.Value.pointer Option.none, Go.Value.pointer Option.none, Go.Value.string { data := #[] }]), 4, 40, false⟩
theorem ty189 : TyOk Tryz.prog 189 ti189 := ⟨Tryz.underlying189, by kernel_rfl, by kernel_rfl, by kernel_rfl, fun h => by cases h⟩
@[simp] def ti190 : TI := ⟨(Go.TypeDesc.struct #[{ name := "_interface", type := 17, offset := 0, embedded := Bool.false, tag := "", pkgPath := "runtime", byteOffset := 0 }, { name := "concrete", type := 17, offset := 1, embedded := Bool.false, tag := "", pkgPath := "runtime", byteOffset := 8 }, { name := "asserted", type := 17, offset := 2, embedded := Bool.false, tag := "", pkgPath := "runtime", byteOffset := 16 }, { name := "missingMethod", type := 9, offset := 3, embedded := Bool.false, tag := "", pkgPath := "runtime", byteOffset := 24 }]), (Go.Value.agg #[Go.Value.pointer Option.none, Go.Value.pointer Option.none, Go.Value.pointer Option.none, Go.Value.string { data := #[] }]), 4, 40, false⟩
theorem ty190 : TyOk Tryz.prog 190 ti190 := ⟨Tryz.underlying190, by kernel_rfl, by kernel_rfl, by kernel_rfl, fun h => by cases h⟩
@[simp] def ti191 : TI := ⟨(Go.TypeDesc.array 0 16), (Go.Value.agg #[]), 0, 0, false⟩
theorem ty191 : TyOk Tryz.prog 191 ti191 := ⟨Tryz.underlying191, by kernel_rfl, by kernel_rfl, by kernel_rfl, fun h => by cases h⟩
@[simp] def ti192 : TI := ⟨(Go.TypeDesc.struct #[{ name := "_", type := 191, offset := 0, embedded := Bool.false, tag := "", pkgPath := "runtime", byteOffset := 0 }]), (Go.Value.agg #[]), 0, 0, false⟩
theorem ty192 : TyOk Tryz.prog 192 ti192 := ⟨Tryz.underlying192, by kernel_rfl, by kernel_rfl, by kernel_rfl, fun h => by cases h⟩
@[simp] def ti193 : TI := ⟨(Go.TypeDesc.struct #[{ name := "_", type := 191, offset := 0, embedded := Bool.false, tag := "", pkgPath := "runtime", byteOffset := 0 }]), (Go.Value.agg #[]), 0, 0, false⟩
theorem ty193 : TyOk Tryz.prog 193 ti193 := ⟨Tryz.underlying193, by kernel_rfl, by kernel_rfl, by kernel_rfl, fun h => by cases h⟩
@[simp] def ti195 : TI := ⟨(Go.TypeDesc.int Go.IntKind.u32), (Go.Value.int Go.IntKind.u32 0), 1, 4, false⟩
theorem ty195 : TyOk Tryz.prog 195 ti195 := ⟨Tryz.underlying195, by kernel_rfl, by kernel_rfl, by kernel_rfl, fun h => by cases h⟩
@[simp] def ti196 : TI := ⟨(Go.TypeDesc.int Go.IntKind.u8), (Go.Value.int Go.IntKind.u8 0), 1, 1, false⟩
theorem ty196 : TyOk Tryz.prog 196 ti196 := ⟨Tryz.underlying196, by kernel_rfl, by kernel_rfl, by kernel_rfl, fun h => by cases h⟩
@[simp] def ti197 : TI := ⟨(Go.TypeDesc.int Go.IntKind.u8), (Go.Value.int Go.IntKind.u8 0), 1, 1, false⟩
theorem ty197 : TyOk Tryz.prog 197 ti197 := ⟨Tryz.underlying197, by kernel_rfl, by kernel_rfl, by kernel_rfl, fun h => by cases h⟩
@[simp] def ti199 : TI := ⟨(Go.TypeDesc.pointer 5), (Go.Value.pointer Option.none), 1, 8, false⟩
theorem ty199 : TyOk Tryz.prog 199 ti199 := ⟨Tryz.underlying199, by kernel_rfl, by kernel_rfl, by kernel_rfl, fun h => by cases h⟩
@[simp] def ti200 : TI := ⟨(Go.TypeDesc.int Go.IntKind.i32), (Go.Value.int Go.IntKind.i32 0), 1, 4, false⟩
theorem ty200 : TyOk Tryz.prog 200 ti200 := ⟨Tryz.underlying200, by kernel_rfl, by kernel_rfl, by kernel_rfl, fun h => by cases h⟩
@[simp] def ti201 : TI := ⟨(Go.TypeDesc.int Go.IntKind.i32), (Go.Value.int Go.IntKind.i32 0), 1, 4, false⟩
theorem ty201 : TyOk Tryz.prog 201 ti201 := ⟨Tryz.underlying201, by kernel_rfl, by kernel_rfl, by kernel_rfl, fun h => by cases h⟩
@[simp] def ti202 : TI := ⟨(Go.TypeDesc.struct #[{ name := "Size_", type := 12, offset := 0, embedded := Bool.false, tag := "", pkgPath := "", byteOffset := 0 }, { name := "PtrBytes", type := 12, offset := 1, embedded := Bool.false, tag := "", pkgPath := "", byteOffset := 8 }, { name := "Hash", type := 195, offset := 2, embedded := Bool.false, tag := "", pkgPath := "", byteOffset := 16 }, { name := "TFlag", type := 196, offset := 3, embedded := Bool.false, tag := "", pkgPath := "", byteOffset := 20 }, { name := "Align_", type := 5, offset := 4, embedded := Bool.false, tag := "", pkgPath := "", byteOffset := 21 }, { name := "FieldAlign_", type := 5, offset := 5, embedded := Bool.false, tag := "", pkgPath := "", byteOffset := 22 }, { name := "Kind_", type := 197, offset := 6, embedded := Bool.false, tag := "", pkgPath := "", byteOffset := 23 }, { name := "Equal", type := 198, offset := 7, embedded := Bool.false, tag := "", pkgPath := "", byteOffset := 24 }, { name := "GCData", type := 199, offset := 8, embedded := Bool.false, tag := "", pkgPath := "", byteOffset := 32 }, { name := "Str", type := 200, offset := 9, embedded := Bool.false, tag := "", pkgPath := "", byteOffset := 40 }, { name := "PtrToThis", type := 201, offset := 10, embedded := Bool.false, tag := "", pkgPath := "", byteOffset := 44 }]), (Go.Value.agg #[Go.Value.int Go.IntKind.u64 0, Go.Value.int Go.IntKind.u64 0, Go.Value.int Go.IntKind.u32 0, Go.Value.int Go.IntKind.u8 0, Go.Value.int Go.IntKind.u8 0, Go.Value.int Go.IntKind.u8 0, Go.Value.int Go.IntKind.u8 0, Go.Value.nilFunc, Go.Value.pointer Option.none, Go.Value.int Go.IntKind.i32 0, Go.Value.int Go.IntKind.i32 0]), 11, 48, false⟩
theorem ty202 : TyOk Tryz.prog 202 ti202 := ⟨Tryz.underlying202, by kernel_rfl, by kernel_rfl, by kernel_rfl, fun h => by cases h⟩
@[simp] def ti203 : TI := ⟨(Go.TypeDesc.struct #[{ name := "Size_", type := 12, offset := 0, embedded := Bool.false, tag := "", pkgPath := "", byteOffset := 0 }, { name := "PtrBytes", type := 12, offset := 1, embedded := Bool.false, tag := "", pkgPath := "", byteOffset := 8 }, { name := "Hash", type := 195, offset := 2, embedded := Bool.false, tag := "", pkgPath := "", byteOffset := 16 }, { name := "TFlag", type := 196, offset := 3, embedded := Bool.false, tag := "", pkgPath := "", byteOffset := 20 }, { name := "Align_", type := 5, offset := 4, embedded := Bool.false, tag := "", pkgPath := "", byteOffset := 21 }, { name := "FieldAlign_", type := 5, offset := 5, embedded := Bool.false, tag := "", pkgPath := "", byteOffset := 22 }, { name := "Kind_", type := 197, offset := 6, embedded := Bool.false, tag := "", pkgPath := "", byteOffset := 23 }, { name := "Equal", type := 198, offset := 7, embedded := Bool.false, tag := "", pkgPath := "", byteOffset := 24 }, { name := "GCData", type := 199, offset := 8, embedded := Bool.false, tag := "", pkgPath := "", byteOffset := 32 }, { name := "Str", type := 200, offset := 9, embedded := Bool.false, tag := "", pkgPath := "", byteOffset := 40 }, { name := "PtrToThis", type := 201, offset := 10, embedded := Bool.false, tag := "", pkgPath := "", byteOffset := 44 }]), (Go.Value.agg #[Go.Value.int Go.IntKind.u64 0, Go.Value.int Go.IntKind.u64 0, Go.Value.int Go.IntKind.u32 0, Go.Value.int Go.IntKind.u8 0, Go.Value.int Go.IntKind.u8 0, Go.Value.int Go.IntKind.u8 0, Go.Value.int Go.IntKind.u8 0, Go.Value.nilFunc, Go.Value.pointer Option.none, Go.Value.int Go.IntKind.i32 0, Go.Value.int Go.IntKind.i32 0]), 11, 48, false⟩
theorem ty203 : TyOk Tryz.prog 203 ti203 := ⟨Tryz.underlying203, by kernel_rfl, by kernel_rfl, by kernel_rfl, fun h => by cases h⟩
def TE : TyEnv := [(2, ti2), (3, ti3), (4, ti4), (5, ti5), (6, ti6), (7, ti7), (8, ti8), (9, ti9), (10, ti10), (11, ti11), (12, ti12), (13, ti13), (14, ti14), (15, ti15), (16, ti16), (17, ti17), (18, ti18), (19, ti19), (20, ti20), (21, ti21), (22, ti22), (24, ti24), (25, ti25), (26, ti26), (30, ti30), (35, ti35), (36, ti36), (37, ti37), (38, ti38), (39, ti39), (44, ti44), (51, ti51), (52, ti52), (53, ti53), (55, ti55), (56, ti56), (57, ti57), (58, ti58), (59, ti59), (60, ti60), (64, ti64), (69, ti69), (71, ti71), (72, ti72), (74, ti74), (75, ti75), (78, ti78), (79, ti79), (80, ti80), (81, ti81), (85, ti85), (86, ti86), (87, ti87), (89, ti89), (92, ti92), (94, ti94), (95, ti95), (96, ti96), (115, ti115), (116, ti116), (119, ti119), (120, ti120), (121, ti121), (122, ti122), (123, ti123), (124, ti124), (125, ti125), (149, ti149), (158, ti158), (159, ti159), (162, ti162), (164, ti164), (173, ti173), (179, ti179), (189, ti189), (190, ti190), (191, ti191), (192, ti192), (193, ti193), (195, ti195), (196, ti196), (197, ti197), (199, ti199), (200, ti200), (201, ti201), (202, ti202), (203, ti203)]
theorem teOk : TOk Tryz.prog TE := .cons ty2 (.cons ty3 (.cons ty4 (.cons ty5 (.cons ty6 (.cons ty7 (.cons ty8 (.cons ty9 (.cons ty10 (.cons ty11 (.cons ty12 (.cons ty13 (.cons ty14 (.cons ty15 (.cons ty16 (.cons ty17 (.cons ty18 (.cons ty19 (.cons ty20 (.cons ty21 (.cons ty22 (.cons ty24 (.cons ty25 (.cons ty26 (.cons ty30 (.cons ty35 (.cons ty36 (.cons ty37 (.cons ty38 (.cons ty39 (.cons ty44 (.cons ty51 (.cons ty52 (.cons ty53 (.cons ty55 (.cons ty56 (.cons ty57 (.cons ty58 (.cons ty59 (.cons ty60 (.cons ty64 (.cons ty69 (.cons ty71 (.cons ty72 (.cons ty74 (.cons ty75 (.cons ty78 (.cons ty79 (.cons ty80 (.cons ty81 (.cons ty85 (.cons ty86 (.cons ty87 (.cons ty89 (.cons ty92 (.cons ty94 (.cons ty95 (.cons ty96 (.cons ty115 (.cons ty116 (.cons ty119 (.cons ty120 (.cons ty121 (.cons ty122 (.cons ty123 (.cons ty124 (.cons ty125 (.cons ty149 (.cons ty158 (.cons ty159 (.cons ty162 (.cons ty164 (.cons ty173 (.cons ty179 (.cons ty189 (.cons ty190 (.cons ty191 (.cons ty192 (.cons ty193 (.cons ty195 (.cons ty196 (.cons ty197 (.cons ty199 (.cons ty200 (.cons ty201 (.cons ty202 (.cons ty203 (.nil _)))))))))))))))))))))))))))))))))))))))))))))))))))))))))))))))))))))))))))))))))))))))
@[simp] theorem lk2 : look 2 TE = some ti2 := rfl
@[simp] theorem lk3 : look 3 TE = some ti3 := rfl
@[simp] theorem lk4 : look 4 TE = some ti4 := rfl
@[simp] theorem lk5 : look 5 TE = some ti5 := rfl
@[simp] theorem lk6 : look 6 TE = some ti6 := rfl
@[simp] theorem lk7 : look 7 TE = some ti7 := rfl
@[simp] theorem lk8 : look 8 TE = some ti8 := rfl
@[simp] theorem lk9 : look 9 TE = some ti9 := rfl
@[simp] theorem lk10 : look 10 TE = some ti10 := rfl
@[simp] theorem lk11 : look 11 TE = some ti11 := rfl
@[simp] theorem lk12 : look 12 TE = some ti12 := rfl
@[simp] theorem lk13 : look 13 TE = some ti13 := rfl
@[simp] theorem lk14 : look 14 TE = some ti14 := rfl
@[simp] theorem lk15 : look 15 TE = some ti15 := rfl
@[simp] theorem lk16 : look 16 TE = some ti16 := rfl
@[simp] theorem lk17 : look 17 TE = some ti17 := rfl
@[simp] theorem lk18 : look 18 TE = some ti18 := rfl
@[simp] theorem lk19 : look 19 TE = some ti19 := rfl
@[simp] theorem lk20 : look 20 TE = some ti20 := rfl
@[simp] theorem lk21 : look 21 TE = some ti21 := rfl
@[simp] theorem lk22 : look 22 TE = some ti22 := rfl
@[simp] theorem lk24 : look 24 TE = some ti24 := rfl
@[simp] theorem lk25 : look 25 TE = some ti25 := rfl
@[simp] theorem lk26 : look 26 TE = some ti26 := rfl
@[simp] theorem lk30 : look 30 TE = some ti30 := rfl
@[simp] theorem lk35 : look 35 TE = some ti35 := rfl
@[simp] theorem lk36 : look 36 TE = some ti36 := rfl
@[simp] theorem lk37 : look 37 TE = some ti37 := rfl
@[simp] theorem lk38 : look 38 TE = some ti38 := rfl
@[simp] theorem lk39 : look 39 TE = some ti39 := rfl
@[simp] theorem lk44 : look 44 TE = some ti44 := rfl
@[simp] theorem lk51 : look 51 TE = some ti51 := rfl
@[simp] theorem lk52 : look 52 TE = some ti52 := rfl
@[simp] theorem lk53 : look 53 TE = some ti53 := rfl
@[simp] theorem lk55 : look 55 TE = some ti55 := rfl
@[simp] theorem lk56 : look 56 TE = some ti56 := rfl
@[simp] theorem lk57 : look 57 TE = some ti57 := rfl
@[simp] theorem lk58 : look 58 TE = some ti58 := rfl
@[simp] theorem lk59 : look 59 TE = some ti59 := rfl
@[simp] theorem lk60 : look 60 TE = some ti60 := rfl
@[simp] theorem lk64 : look 64 TE = some ti64 := rfl
@[simp] theorem lk69 : look 69 TE = some ti69 := rfl
@[simp] theorem lk71 : look 71 TE = some ti71 := rfl
@[simp] theorem lk72 : look 72 TE = some ti72 := rfl
@[simp] theorem lk74 : look 74 TE = some ti74 := rfl
@[simp] theorem lk75 : look 75 TE = some ti75 := rfl
@[simp] theorem lk78 : look 78 TE = some ti78 := rfl
@[simp] theorem lk79 : look 79 TE = some ti79 := rfl
@[simp] theorem lk80 : look 80 TE = some ti80 := rfl
@[simp] theorem lk81 : look 81 TE = some ti81 := rfl
@[simp] theorem lk85 : look 85 TE = some ti85 := rfl
@[simp] theorem lk86 : look 86 TE = some ti86 := rfl
@[simp] theorem lk87 : look 87 TE = some ti87 := rfl
@[simp] theorem lk89 : look 89 TE = some ti89 := rfl
@[simp] theorem lk92 : look 92 TE = some ti92 := rfl
@[simp] theorem lk94 : look 94 TE = some ti94 := rfl
@[simp] theorem lk95 : look 95 TE = some ti95 := rfl
@[simp] theorem lk96 : look 96 TE = some ti96 := rfl
@[simp] theorem lk115 : look 115 TE = some ti115 := rfl
@[simp] theorem lk116 : look 116 TE = some ti116 := rfl
@[simp] theorem lk119 : look 119 TE = some ti119 := rfl
@[simp] theorem lk120 : look 120 TE = some ti120 := rfl
@[simp] theorem lk121 : look 121 TE = some ti121 := rfl
@[simp] theorem lk122 : look 122 TE = some ti122 := rfl
@[simp] theorem lk123 : look 123 TE = some ti123 := rfl
@[simp] theorem lk124 : look 124 TE = some ti124 := rfl
@[simp] theorem lk125 : look 125 TE = some ti125 := rfl
@[simp] theorem lk149 : look 149 TE = some ti149 := rfl
@[simp] theorem lk158 : look 158 TE = some ti158 := rfl
@[simp] theorem lk159 : look 159 TE = some ti159 := rfl
@[simp] theorem lk162 : look 162 TE = some ti162 := rfl
@[simp] theorem lk164 : look 164 TE = some ti164 := rfl
@[simp] theorem lk173 : look 173 TE = some ti173 := rfl
@[simp] theorem lk179 : look 179 TE = some ti179 := rfl
@[simp] theorem lk189 : look 189 TE = some ti189 := rfl
@[simp] theorem lk190 : look 190 TE = some ti190 := rfl
@[simp] theorem lk191 : look 191 TE = some ti191 := rfl
@[simp] theorem lk192 : look 192 TE = some ti192 := rfl
@[simp] theorem lk193 : look 193 TE = some ti193 := rfl
@[simp] theorem lk195 : look 195 TE = some ti195 := rfl
@[simp] theorem lk196 : look 196 TE = some ti196 := rfl
@[simp] theorem lk197 : look 197 TE = some ti197 := rfl
@[simp] theorem lk199 : look 199 TE = some ti199 := rfl
@[simp] theorem lk200 : look 200 TE = some ti200 := rfl
@[simp] theorem lk201 : look 201 TE = some ti201 := rfl
@[simp] theorem lk202 : look 202 TE = some ti202 := rfl
@[simp] theorem lk203 : look 203 TE = some ti203 := rfl
end Go.Proofs.YtphlhadgcfndhaaGreat.Abs
