/- The types of the program, as the tables of them. Written by tygen.py. -/
import Derived.Test.YtopcklnnkpjanaaAbs20
import Derived.Test.YtopcklnnkpjanaaProg
import Derived.KernelRfl
namespace Go.Proofs.Ytopcklnnkpjanaa.Abs
open Go Go.RowKit
@[simp] def ti2 : TI := ⟨(Go.TypeDesc.int Go.IntKind.i64), (Go.Value.int Go.IntKind.i64 0), 1, 8, false⟩
theorem ty2 : TyOk Try.prog 2 ti2 := ⟨Try.underlying2, by kernel_rfl, by kernel_rfl, by kernel_rfl, fun h => by cases h⟩
@[simp] def ti3 : TI := ⟨(Go.TypeDesc.int Go.IntKind.i64), (Go.Value.int Go.IntKind.i64 0), 1, 8, false⟩
theorem ty3 : TyOk Try.prog 3 ti3 := ⟨Try.underlying3, by kernel_rfl, by kernel_rfl, by kernel_rfl, fun h => by cases h⟩
@[simp] def ti4 : TI := ⟨Go.TypeDesc.bool, (Go.Value.bool Bool.false), 1, 1, false⟩
theorem ty4 : TyOk Try.prog 4 ti4 := ⟨Try.underlying4, by kernel_rfl, by kernel_rfl, by kernel_rfl, fun h => by cases h⟩
@[simp] def ti5 : TI := ⟨(Go.TypeDesc.int Go.IntKind.u8), (Go.Value.int Go.IntKind.u8 0), 1, 1, false⟩
theorem ty5 : TyOk Try.prog 5 ti5 := ⟨Try.underlying5, by kernel_rfl, by kernel_rfl, by kernel_rfl, fun h => by cases h⟩
@[simp] def ti6 : TI := ⟨(Go.TypeDesc.int Go.IntKind.u8), (Go.Value.int Go.IntKind.u8 0), 1, 1, false⟩
theorem ty6 : TyOk Try.prog 6 ti6 := ⟨Try.underlying6, by kernel_rfl, by kernel_rfl, by kernel_rfl, fun h => by cases h⟩
@[simp] def ti7 : TI := ⟨(Go.TypeDesc.struct #[{ name := "x", type := 2, offset := 0, embedded := Bool.false, tag := "", pkgPath := "runtime", byteOffset := 0 }, { name := "y", type := 3, offset := 1, embedded := Bool.false, tag := "", pkgPath := "runtime", byteOffset := 8 }, { name := "signed", type := 4, offset := 2, embedded := Bool.false, tag := "", pkgPath := "runtime", byteOffset := 16 }, { name := "code", type := 6, offset := 3, embedded := Bool.false, tag := "", pkgPath := "runtime", byteOffset := 17 }]), (Go.Value.agg #[Go.Value.int Go.IntKind.i64 0, Go.Value.int Go.IntKind.i64 0, Go.Value.bool Bool.false, Go.Value.int Go.IntKind.u8 0]), 4, 24, false⟩
theorem ty7 : TyOk Try.prog 7 ti7 := ⟨Try.underlying7, by kernel_rfl, by kernel_rfl, by kernel_rfl, fun h => by cases h⟩
@[simp] def ti8 : TI := ⟨(Go.TypeDesc.struct #[{ name := "x", type := 2, offset := 0, embedded := Bool.false, tag := "", pkgPath := "runtime", byteOffset := 0 }, { name := "y", type := 3, offset := 1, embedded := Bool.false, tag := "", pkgPath := "runtime", byteOffset := 8 }, { name := "signed", type := 4, offset := 2, embedded := Bool.false, tag := "", pkgPath := "runtime", byteOffset := 16 }, { name := "code", type := 6, offset := 3, embedded := Bool.false, tag := "", pkgPath := "runtime", byteOffset := 17 }]), (Go.Value.agg #[Go.Value.int Go.IntKind.i64 0, Go.Value.int Go.IntKind.i64 0, Go.Value.bool Bool.false, Go.Value.int Go.IntKind.u8 0]), 4, 24, false⟩
theorem ty8 : TyOk Try.prog 8 ti8 := ⟨Try.underlying8, by kernel_rfl, by kernel_rfl, by kernel_rfl, fun h => by cases h⟩
@[simp] def ti9 : TI := ⟨Go.TypeDesc.string, (Go.Value.string { data := #[] }), 1, 16, false⟩
theorem ty9 : TyOk Try.prog 9 ti9 := ⟨Try.underlying9, by kernel_rfl, by kernel_rfl, by kernel_rfl, fun h => by cases h⟩
@[simp] def ti10 : TI := ⟨Go.TypeDesc.string, (Go.Value.string { data := #[] }), 1, 16, false⟩
theorem ty10 : TyOk Try.prog 10 ti10 := ⟨Try.underlying10, by kernel_rfl, by kernel_rfl, by kernel_rfl, fun h => by cases h⟩
@[simp] def ti11 : TI := ⟨Go.TypeDesc.string, (Go.Value.string { data := #[] }), 1, 16, false⟩
theorem ty11 : TyOk Try.prog 11 ti11 := ⟨Try.underlying11, by kernel_rfl, by kernel_rfl, by kernel_rfl, fun h => by cases h⟩
@[simp] def ti12 : TI := ⟨(Go.TypeDesc.int Go.IntKind.u64), (Go.Value.int Go.IntKind.u64 0), 1, 8, false⟩
theorem ty12 : TyOk Try.prog 12 ti12 := ⟨Try.underlying12, by kernel_rfl, by kernel_rfl, by kernel_rfl, fun h => by cases h⟩
@[simp] def ti13 : TI := ⟨(Go.TypeDesc.struct #[{ name := "msg", type := 9, offset := 0, embedded := Bool.false, tag := "", pkgPath := "runtime", byteOffset := 0 }, { name := "addr", type := 12, offset := 1, embedded := Bool.false, tag := "", pkgPath := "runtime", byteOffset := 16 }]), (Go.Value.agg #[Go.Value.string { data := #[] }, Go.Value.int Go.IntKind.u64 0]), 2, 24, false⟩
theorem ty13 : TyOk Try.prog 13 ti13 := ⟨Try.underlying13, by kernel_rfl, by kernel_rfl, by kernel_rfl, fun h => by cases h⟩
@[simp] def ti14 : TI := ⟨(Go.TypeDesc.struct #[{ name := "msg", type := 9, offset := 0, embedded := Bool.false, tag := "", pkgPath := "runtime", byteOffset := 0 }, { name := "addr", type := 12, offset := 1, embedded := Bool.false, tag := "", pkgPath := "runtime", byteOffset := 16 }]), (Go.Value.agg #[Go.Value.string { data := #[] }, Go.Value.int Go.IntKind.u64 0]), 2, 24, false⟩
theorem ty14 : TyOk Try.prog 14 ti14 := ⟨Try.underlying14, by kernel_rfl, by kernel_rfl, by kernel_rfl, fun h => by cases h⟩
@[simp] def ti15 : TI := ⟨(Go.TypeDesc.pointer 154), (Go.Value.pointer Option.none), 1, 8, false⟩
theorem ty15 : TyOk Try.prog 15 ti15 := ⟨Try.underlying15, by kernel_rfl, by kernel_rfl, by kernel_rfl, fun h => by cases h⟩
@[simp] def ti16 : TI := ⟨(Go.TypeDesc.pointer 157), (Go.Value.pointer Option.none), 1, 8, false⟩
theorem ty16 : TyOk Try.prog 16 ti16 := ⟨Try.underlying16, by kernel_rfl, by kernel_rfl, by kernel_rfl, fun h => by cases h⟩
@[simp] def ti17 : TI := ⟨(Go.TypeDesc.pointer 166), (Go.Value.pointer Option.none), 1, 8, false⟩
theorem ty17 : TyOk Try.prog 17 ti17 := ⟨Try.underlying17, by kernel_rfl, by kernel_rfl, by kernel_rfl, fun h => by cases h⟩
@[simp] def ti18 : TI := ⟨(Go.TypeDesc.struct #[{ name := "typ", type := 17, offset := 0, embedded := Bool.false, tag := "", pkgPath := "internal/runtime/maps", byteOffset := 0 }]), (Go.Value.agg #[Go.Value.pointer Option.none]), 1, 8, false⟩
theorem ty18 : TyOk Try.prog 18 ti18 := ⟨Try.underlying18, by kernel_rfl, by kernel_rfl, by kernel_rfl, fun h => by cases h⟩
@[simp] def ti19 : TI := ⟨(Go.TypeDesc.struct #[{ name := "typ", type := 17, offset := 0, embedded := Bool.false, tag := "", pkgPath := "internal/runtime/maps", byteOffset := 0 }]), (Go.Value.agg #[Go.Value.pointer Option.none]), 1, 8, false⟩
theorem ty19 : TyOk Try.prog 19 ti19 := ⟨Try.underlying19, by kernel_rfl, by kernel_rfl, by kernel_rfl, fun h => by cases h⟩
@[simp] def ti20 : TI := ⟨(Go.TypeDesc.interface #[]), Go.Value.nilIface, 1, 16, false⟩
theorem ty20 : TyOk Try.prog 20 ti20 := ⟨Try.underlying20, by kernel_rfl, by kernel_rfl, by kernel_rfl, fun h => by cases h⟩
@[simp] def ti21 : TI := ⟨(Go.TypeDesc.int Go.IntKind.i32), (Go.Value.int Go.IntKind.i32 0), 1, 4, false⟩
theorem ty21 : TyOk Try.prog 21 ti21 := ⟨Try.underlying21, by kernel_rfl, by kernel_rfl, by kernel_rfl, fun h => by cases h⟩
@[simp] def ti22 : TI := ⟨(Go.TypeDesc.slice 26), (Go.Value.slice Option.none 0 0), 1, 24, false⟩
theorem ty22 : TyOk Try.prog 22 ti22 := ⟨Try.underlying22, by kernel_rfl, by kernel_rfl, by kernel_rfl, fun h => by cases h⟩
@[simp] def ti25 : TI := ⟨(Go.TypeDesc.slice 109), (Go.Value.slice Option.none 0 0), 1, 24, false⟩
theorem ty25 : TyOk Try.prog 25 ti25 := ⟨Try.underlying25, by kernel_rfl, by kernel_rfl, by kernel_rfl, fun h => by cases h⟩
@[simp] def ti26 : TI := ⟨(Go.TypeDesc.slice 109), (Go.Value.slice Option.none 0 0), 1, 24, false⟩
theorem ty26 : TyOk Try.prog 26 ti26 := ⟨Try.underlying26, by kernel_rfl, by kernel_rfl, by kernel_rfl, fun h => by cases h⟩
@[simp] def ti28 : TI := ⟨(Go.TypeDesc.struct #[{ name := "Value", type := 26, offset := 0, embedded := Bool.false, tag := "", pkgPath := "", byteOffset := 0 }]), (Go.Value.agg #[Go.Value.slice Option.none 0 0]), 1, 24, false⟩
theorem ty28 : TyOk Try.prog 28 ti28 := ⟨Try.underlying28, by kernel_rfl, by kernel_rfl, by kernel_rfl, fun h => by cases h⟩
@[simp] def ti29 : TI := ⟨(Go.TypeDesc.struct #[{ name := "Value", type := 26, offset := 0, embedded := Bool.false, tag := "", pkgPath := "", byteOffset := 0 }]), (Go.Value.agg #[Go.Value.slice Option.none 0 0]), 1, 24, false⟩
theorem ty29 : TyOk Try.prog 29 ti29 := ⟨Try.underlying29, by kernel_rfl, by kernel_rfl, by kernel_rfl, fun h => by cases h⟩
@[simp] def ti30 : TI := ⟨(Go.TypeDesc.slice 4), (Go.Value.slice Option.none 0 0), 1, 24, false⟩
theorem ty30 : TyOk Try.prog 30 ti30 := ⟨Try.underlying30, by kernel_rfl, by kernel_rfl, by kernel_rfl, fun h => by cases h⟩
@[simp] def ti33 : TI := ⟨(Go.TypeDesc.slice 5), (Go.Value.slice Option.none 0 0), 1, 24, false⟩
theorem ty33 : TyOk Try.prog 33 ti33 := ⟨Try.underlying33, by kernel_rfl, by kernel_rfl, by kernel_rfl, fun h => by cases h⟩
@[simp] def ti34 : TI := ⟨(Go.TypeDesc.int Go.IntKind.i64), (Go.Value.int Go.IntKind.i64 0), 1, 8, false⟩
theorem ty34 : TyOk Try.prog 34 ti34 := ⟨Try.underlying34, by kernel_rfl, by kernel_rfl, by kernel_rfl, fun h => by cases h⟩
@[simp] def ti35 : TI := ⟨(Go.TypeDesc.struct #[{ name := "Buffer", type := 33, offset := 0, embedded := Bool.false, tag := "", pkgPath := "", byteOffset := 0 }, { name := "Failed", type := 34, offset := 1, embedded := Bool.false, tag := "", pkgPath := "", byteOffset := 24 }]), (Go.Value.agg #[Go.Value.slice Option.none 0 0, Go.Value.int Go.IntKind.i64 0]), 2, 32, false⟩
theorem ty35 : TyOk Try.prog 35 ti35 := ⟨Try.underlying35, by kernel_rfl, by kernel_rfl, by kernel_rfl, fun h => by cases h⟩
@[simp] def ti36 : TI := ⟨(Go.TypeDesc.struct #[{ name := "Buffer", type := 33, offset := 0, embedded := Bool.false, tag := "", pkgPath := "", byteOffset := 0 }, { name := "Failed", type := 34, offset := 1, embedded := Bool.false, tag := "", pkgPath := "", byteOffset := 24 }]), (Go.Value.agg #[Go.Value.slice Option.none 0 0, Go.Value.int Go.IntKind.i64 0]), 2, 32, false⟩
theorem ty36 : TyOk Try.prog 36 ti36 := ⟨Try.underlying36, by kernel_rfl, by kernel_rfl, by kernel_rfl, fun h => by cases h⟩
@[simp] def ti37 : TI := ⟨(Go.TypeDesc.slice 33), (Go.Value.slice Option.none 0 0), 1, 24, false⟩
theorem ty37 : TyOk Try.prog 37 ti37 := ⟨Try.underlying37, by kernel_rfl, by kernel_rfl, by kernel_rfl, fun h => by cases h⟩
@[simp] def ti47 : TI := ⟨(Go.TypeDesc.int Go.IntKind.u16), (Go.Value.int Go.IntKind.u16 0), 1, 2, false⟩
theorem ty47 : TyOk Try.prog 47 ti47 := ⟨Try.underlying47, by kernel_rfl, by kernel_rfl, by kernel_rfl, fun h => by cases h⟩
@[simp] def ti49 : TI := ⟨(Go.TypeDesc.slice 59), (Go.Value.slice Option.none 0 0), 1, 24, false⟩
theorem ty49 : TyOk Try.prog 49 ti49 := ⟨Try.underlying49, by kernel_rfl, by kernel_rfl, by kernel_rfl, fun h => by cases h⟩
@[simp] def ti52 : TI := ⟨(Go.TypeDesc.slice 3), (Go.Value.slice Option.none 0 0), 1, 24, false⟩
theorem ty52 : TyOk Try.prog 52 ti52 := ⟨Try.underlying52, by kernel_rfl, by kernel_rfl, by kernel_rfl, fun h => by cases h⟩
@[simp] def ti53 : TI := ⟨(Go.TypeDesc.struct #[{ name := "Acceptors", type := 3, offset := 0, embedded := Bool.false, tag := "", pkgPath := "", byteOffset := 0 }, { name := "Value", type := 26, offset := 1, embedded := Bool.false, tag := "", pkgPath := "", byteOffset := 8 }, { name := "Round", type := 3, offset := 2, embedded := Bool.false, tag := "", pkgPath := "", byteOffset := 32 }, { name := "Acks", type := 52, offset := 3, embedded := Bool.false, tag := "", pkgPath := "", byteOffset := 40 }, { name := "Decided", type := 4, offset := 4, embedded := Bool.false, tag := "", pkgPath := "", byteOffset := 64 }]), (Go.Value.agg #[Go.Value.int Go.IntKind.i64 0, Go.Value.slice Option.none 0 0, Go.Value.int Go.IntKind.i64 0, Go.Value.slice Option.none 0 0, Go.Value.bool Bool.false]), 5, 72, false⟩
theorem ty53 : TyOk Try.prog 53 ti53 := ⟨Try.underlying53, by kernel_rfl, by kernel_rfl, by kernel_rfl, fun h => by cases h⟩
@[simp] def ti54 : TI := ⟨(Go.TypeDesc.struct #[{ name := "Acceptors", type := 3, offset := 0, embedded := Bool.false, tag := "", pkgPath := "", byteOffset := 0 }, { name := "Value", type := 26, offset := 1, embedded := Bool.false, tag := "", pkgPath := "", byteOffset := 8 }, { name := "Round", type := 3, offset := 2, embedded := Bool.false, tag := "", pkgPath := "", byteOffset := 32 }, { name := "Acks", type := 52, offset := 3, embedded := Bool.false, tag := "", pkgPath := "", byteOffset := 40 }, { name := "Decided", type := 4, offset := 4, embedded := Bool.false, tag := "", pkgPath := "", byteOffset := 64 }]), (Go.Value.agg #[Go.Value.int Go.IntKind.i64 0, Go.Value.slice Option.none 0 0, Go.Value.int Go.IntKind.i64 0, Go.Value.slice Option.none 0 0, Go.Value.bool Bool.false]), 5, 72, false⟩
theorem ty54 : TyOk Try.prog 54 ti54 := ⟨Try.underlying54, by kernel_rfl, by kernel_rfl, by kernel_rfl, fun h => by cases h⟩
@[simp] def ti56 : TI := ⟨(Go.TypeDesc.struct #[{ name := "Acceptors", type := 3, offset := 0, embedded := Bool.false, tag := "", pkgPath := "", byteOffset := 0 }, { name := "Value", type := 26, offset := 1, embedded := Bool.false, tag := "", pkgPath := "", byteOffset := 8 }, { name := "Round", type := 3, offset := 2, embedded := Bool.false, tag := "", pkgPath := "", byteOffset := 32 }, { name := "Acks", type := 52, offset := 3, embedded := Bool.false, tag := "", pkgPath := "", byteOffset := 40 }, { name := "Decided", type := 4, offset := 4, embedded := Bool.false, tag := "", pkgPath := "", byteOffset := 64 }]), (Go.Value.agg #[Go.Value.int Go.IntKind.i64 0, Go.Value.slice Option.none 0 0, Go.Value.int Go.IntKind.i64 0, Go.Value.slice Option.none 0 0, Go.Value.bool Bool.false]), 5, 72, false⟩
theorem ty56 : TyOk Try.prog 56 ti56 := ⟨Try.underlying56, by kernel_rfl, by kernel_rfl, by kernel_rfl, fun h => by cases h⟩
@[simp] def ti58 : TI := ⟨(Go.TypeDesc.struct #[{ name := "Acceptor", type := 3, offset := 0, embedded := Bool.false, tag := "", pkgPath := "", byteOffset := 0 }, { name := "Behind", type := 3, offset := 1, embedded := Bool.false, tag := "", pkgPath := "", byteOffset := 8 }, { name := "Value", type := 26, offset := 2, embedded := Bool.false, tag := "", pkgPath := "", byteOffset := 16 }, { name := "Propose", type := 4, offset := 3, embedded := Bool.false, tag := "", pkgPath := "", byteOffset := 40 }]), (Go.Value.agg #[Go.Value.int Go.IntKind.i64 0, Go.Value.int Go.IntKind.i64 0, Go.Value.slice Option.none 0 0, Go.Value.bool Bool.false]), 4, 48, false⟩
theorem ty58 : TyOk Try.prog 58 ti58 := ⟨Try.underlying58, by kernel_rfl, by kernel_rfl, by kernel_rfl, fun h => by cases h⟩
@[simp] def ti59 : TI := ⟨(Go.TypeDesc.struct #[{ name := "Acceptor", type := 3, offset := 0, embedded := Bool.false, tag := "", pkgPath := "", byteOffset := 0 }, { name := "Behind", type := 3, offset := 1, embedded := Bool.false, tag := "", pkgPath := "", byteOffset := 8 }, { name := "Value", type := 26, offset := 2, embedded := Bool.false, tag := "", pkgPath := "", byteOffset := 16 }, { name := "Propose", type := 4, offset := 3, embedded := Bool.false, tag := "", pkgPath := "", byteOffset := 40 }]), (Go.Value.agg #[Go.Value.int Go.IntKind.i64 0, Go.Value.int Go.IntKind.i64 0, Go.Value.slice Option.none 0 0, Go.Value.bool Bool.false]), 4, 48, false⟩
theorem ty59 : TyOk Try.prog 59 ti59 := ⟨Try.underlying59, by kernel_rfl, by kernel_rfl, by kernel_rfl, fun h => by cases h⟩
@[simp] def ti67 : TI := ⟨(Go.TypeDesc.array 12 4), (Go.Value.agg #[Go.Value.bool Bool.false, Go.Value.bool Bool.false, Go.Value.bool Bool.false, Go.Value.bool Bool.false, Go.Value.bool Bool.false, Go.Value.bool Bool.false, Go.Value.bool Bool.false, Go.Value.bool Bool.false, Go.Value.bool Bool.false, Go.Value.bool Bool.false, Go.Value.bool Bool.false, Go.Value.bool Bool.false]), 12, 12, false⟩
theorem ty67 : TyOk Try.prog 67 ti67 := ⟨Try.underlying67, by kernel_rfl, by kernel_rfl, by kernel_rfl, fun h => by cases h⟩
@[simp] def ti73 : TI := ⟨(Go.TypeDesc.slice 22), (Go.Value.slice Option.none 0 0), 1, 24, false⟩
theorem ty73 : TyOk Try.prog 73 ti73 := ⟨Try.underlying73, by kernel_rfl, by kernel_rfl, by kernel_rfl, fun h => by cases h⟩
@[simp] def ti77 : TI := ⟨(Go.TypeDesc.slice 29), (Go.Value.slice Option.none 0 0), 1, 24, false⟩
theorem ty77 : TyOk Try.prog 77 ti77 := ⟨Try.underlying77, by kernel_rfl, by kernel_rfl, by kernel_rfl, fun h => by cases h⟩
@[simp] def ti78 : TI := ⟨(Go.TypeDesc.slice 54), (Go.Value.slice Option.none 0 0), 1, 24, false⟩
theorem ty78 : TyOk Try.prog 78 ti78 := ⟨Try.underlying78, by kernel_rfl, by kernel_rfl, by kernel_rfl, fun h => by cases h⟩
@[simp] def ti79 : TI := ⟨(Go.TypeDesc.slice 86), (Go.Value.slice Option.none 0 0), 1, 24, false⟩
theorem ty79 : TyOk Try.prog 79 ti79 := ⟨Try.underlying79, by kernel_rfl, by kernel_rfl, by kernel_rfl, fun h => by cases h⟩
@[simp] def ti80 : TI := ⟨(Go.TypeDesc.slice 103), (Go.Value.slice Option.none 0 0), 1, 24, false⟩
theorem ty80 : TyOk Try.prog 80 ti80 := ⟨Try.underlying80, by kernel_rfl, by kernel_rfl, by kernel_rfl, fun h => by cases h⟩
@[simp] def ti81 : TI := ⟨(Go.TypeDesc.struct #[{ name := "Acceptors", type := 77, offset := 0, embedded := Bool.false, tag := "", pkgPath := "", byteOffset := 0 }, { name := "Proposers", type := 78, offset := 1, embedded := Bool.false, tag := "", pkgPath := "", byteOffset := 24 }, { name := "Inputs", type := 73, offset := 2, embedded := Bool.false, tag := "", pkgPath := "", byteOffset := 48 }, { name := "Next", type := 52, offset := 3, embedded := Bool.false, tag := "", pkgPath := "", byteOffset := 72 }, { name := "Packets", type := 79, offset := 4, embedded := Bool.false, tag := "", pkgPath := "", byteOffset := 96 }, { name := "Decisions", type := 80, offset := 5, embedded := Bool.false, tag := "", pkgPath := "", byteOffset := 120 }, { name := "Steps", type := 3, offset := 6, embedded := Bool.false, tag := "", pkgPath := "", byteOffset := 144 }]), (Go.Value.agg #[Go.Value.slice Option.none 0 0, Go.Value.slice Option.none 0 0, Go.Value.slice Option.none 0 0, Go.Value.slice Option.none 0 0, Go.Value.slice Option.none 0 0, Go.Value.slice Option.none 0 0, Go.Value.int Go.IntKind.i64 0]), 7, 152, false⟩
theorem ty81 : TyOk Try.prog 81 ti81 := ⟨Try.underlying81, by kernel_rfl, by kernel_rfl, by kernel_rfl, fun h => by cases h⟩
@[simp] def ti82 : TI := ⟨(Go.TypeDesc.struct #[{ name := "Acceptors", type := 77, offset := 0, embedded := Bool.false, tag := "", pkgPath := "", byteOffset := 0 }, { name := "Proposers", type := 78, offset := 1, embedded := Bool.false, tag := "", pkgPath := "", byteOffset := 24 }, { name := "Inputs", type := 73, offset := 2, embedded := Bool.false, tag := "", pkgPath := "", byteOffset := 48 }, { name := "Next", type := 52, offset := 3, embedded := Bool.false, tag := "", pkgPath := "", byteOffset := 72 }, { name := "Packets", type := 79, offset := 4, embedded := Bool.false, tag := "", pkgPath := "", byteOffset := 96 }, { name := "Decisions", type := 80, offset := 5, embedded := Bool.false, tag := "", pkgPath := "", byteOffset := 120 }, { name := "Steps", type := 3, offset := 6, embedded := Bool.false, tag := "", pkgPath := "", byteOffset := 144 }]), (Go.Value.agg #[Go.Value.slice Option.none 0 0, Go.Value.slice Option.none 0 0, Go.Value.slice Option.none 0 0, Go.Value.slice Option.none 0 0, Go.Value.slice Option.none 0 0, Go.Value.slice Option.none 0 0, Go.Value.int Go.IntKind.i64 0]), 7, 152, false⟩
theorem ty82 : TyOk Try.prog 82 ti82 := ⟨Try.underlying82, by kernel_rfl, by kernel_rfl, by kernel_rfl, fun h => by cases h⟩
@[simp] def ti85 : TI := ⟨(Go.TypeDesc.struct #[{ name := "Reply", type := 4, offset := 0, embedded := Bool.false, tag := "", pkgPath := "", byteOffset := 0 }, { name := "Proposer", type := 3, offset := 1, embedded := Bool.false, tag := "", pkgPath := "", byteOffset := 8 }, { name := "Acceptor", type := 3, offset := 2, embedded := Bool.false, tag := "", pkgPath := "", byteOffset := 16 }, { name := "Round", type := 3, offset := 3, embedded := Bool.false, tag := "", pkgPath := "", byteOffset := 24 }, { name := "Value", type := 26, offset := 4, embedded := Bool.false, tag := "", pkgPath := "", byteOffset := 32 }]), (Go.Value.agg #[Go.Value.bool Bool.false, Go.Value.int Go.IntKind.i64 0, Go.Value.int Go.IntKind.i64 0, Go.Value.int Go.IntKind.i64 0, Go.Value.slice Option.none 0 0]), 5, 56, false⟩
theorem ty85 : TyOk Try.prog 85 ti85 := ⟨Try.underlying85, by kernel_rfl, by kernel_rfl, by kernel_rfl, fun h => by cases h⟩
@[simp] def ti86 : TI := ⟨(Go.TypeDesc.struct #[{ name := "Reply", type := 4, offset := 0, embedded := Bool.false, tag := "", pkgPath := "", byteOffset := 0 }, { name := "Proposer", type := 3, offset := 1, embedded := Bool.false, tag := "", pkgPath := "", byteOffset := 8 }, { name := "Acceptor", type := 3, offset := 2, embedded := Bool.false, tag := "", pkgPath := "", byteOffset := 16 }, { name := "Round", type := 3, offset := 3, embedded := Bool.false, tag := "", pkgPath := "", byteOffset := 24 }, { name := "Value", type := 26, offset := 4, embedded := Bool.false, tag := "", pkgPath := "", byteOffset := 32 }]), (Go.Value.agg #[Go.Value.bool Bool.false, Go.Value.int Go.IntKind.i64 0, Go.Value.int Go.IntKind.i64 0, Go.Value.int Go.IntKind.i64 0, Go.Value.slice Option.none 0 0]), 5, 56, false⟩
theorem ty86 : TyOk Try.prog 86 ti86 := ⟨Try.underlying86, by kernel_rfl, by kernel_rfl, by kernel_rfl, fun h => by cases h⟩
@[simp] def ti92 : TI := ⟨(Go.TypeDesc.slice 56), (Go.Value.slice Option.none 0 0), 1, 24, false⟩
theorem ty92 : TyOk Try.prog 92 ti92 := ⟨Try.underlying92, by kernel_rfl, by kernel_rfl, by kernel_rfl, fun h => by cases h⟩
@[simp] def ti93 : TI := ⟨(Go.TypeDesc.slice 134), (Go.Value.slice Option.none 0 0), 1, 24, false⟩
theorem ty93 : TyOk Try.prog 93 ti93 := ⟨Try.underlying93, by kernel_rfl, by kernel_rfl, by kernel_rfl, fun h => by cases h⟩
@[simp] def ti94 : TI := ⟨(Go.TypeDesc.slice 135), (Go.Value.slice Option.none 0 0), 1, 24, false⟩
theorem ty94 : TyOk Try.prog 94 ti94 := ⟨Try.underlying94, by kernel_rfl, by kernel_rfl, by kernel_rfl, fun h => by cases h⟩
@[simp] def ti95 : TI := ⟨(Go.TypeDesc.struct #[{ name := "Acceptors", type := 22, offset := 0, embedded := Bool.false, tag := "", pkgPath := "", byteOffset := 0 }, { name := "Proposers", type := 92, offset := 1, embedded := Bool.false, tag := "", pkgPath := "", byteOffset := 24 }, { name := "Inputs", type := 73, offset := 2, embedded := Bool.false, tag := "", pkgPath := "", byteOffset := 48 }, { name := "Next", type := 52, offset := 3, embedded := Bool.false, tag := "", pkgPath := "", byteOffset := 72 }, { name := "Packets", type := 93, offset := 4, embedded := Bool.false, tag := "", pkgPath := "", byteOffset := 96 }, { name := "Decisions", type := 94, offset := 5, embedded := Bool.false, tag := "", pkgPath := "", byteOffset := 120 }, { name := "Steps", type := 3, offset := 6, embedded := Bool.false, tag := "", pkgPath := "", byteOffset := 144 }]), (Go.Value.agg #[Go.Value.slice Option.none 0 0, Go.Value.slice Option.none 0 0, Go.Value.slice Option.none 0 0, Go.Value.slice Option.none 0 0, Go.Value.slice Option.none 0 0, Go.Value.slice Option.none 0 0, Go.Value.int Go.IntKind.i64 0]), 7, 152, false⟩
theorem ty95 : TyOk Try.prog 95 ti95 := ⟨Try.underlying95, by kernel_rfl, by kernel_rfl, by kernel_rfl, fun h => by cases h⟩
@[simp] def ti96 : TI := ⟨(Go.TypeDesc.struct #[{ name := "Acceptors", type := 22, offset := 0, embedded := Bool.false, tag := "", pkgPath := "", byteOffset := 0 }, { name := "Proposers", type := 92, offset := 1, embedded := Bool.false, tag := "", pkgPath := "", byteOffset := 24 }, { name := "Inputs", type := 73, offset := 2, embedded := Bool.false, tag := "", pkgPath := "", byteOffset := 48 }, { name := "Next", type := 52, offset := 3, embedded := Bool.false, tag := "", pkgPath := "", byteOffset := 72 }, { name := "Packets", type := 93, offset := 4, embedded := Bool.false, tag := "", pkgPath := "", byteOffset := 96 }, { name := "Decisions", type := 94, offset := 5, embedded := Bool.false, tag := "", pkgPath := "", byteOffset := 120 }, { name := "Steps", type := 3, offset := 6, embedded := Bool.false, tag := "", pkgPath := "", byteOffset := 144 }]), (Go.Value.agg #[Go.Value.slice Option.none 0 0, Go.Value.slice Option.none 0 0, Go.Value.slice Option.none 0 0, Go.Value.slice Option.none 0 0, Go.Value.slice Option.none 0 0, Go.Value.slice Option.none 0 0, Go.Value.int Go.IntKind.i64 0]), 7, 152, false⟩
theorem ty96 : TyOk Try.prog 96 ti96 := ⟨Try.underlying96, by kernel_rfl, by kernel_rfl, by kernel_rfl, fun h => by cases h⟩
@[simp] def ti102 : TI := ⟨(Go.TypeDesc.struct #[{ name := "Proposer", type := 3, offset := 0, embedded := Bool.false, tag := "", pkgPath := "", byteOffset := 0 }, { name := "Input", type := 3, offset := 1, embedded := Bool.false, tag := "", pkgPath := "", byteOffset := 8 }, { name := "Value", type := 26, offset := 2, embedded := Bool.false, tag := "", pkgPath := "", byteOffset := 16 }, { name := "Step", type := 3, offset := 3, embedded := Bool.false, tag := "", pkgPath := "", byteOffset := 40 }]), (Go.Value.agg #[Go.Value.int Go.IntKind.i64 0, Go.Value.int Go.IntKind.i64 0, Go.Value.slice Option.none 0 0, Go.Value.int Go.IntKind.i64 0]), 4, 48, false⟩
theorem ty102 : TyOk Try.prog 102 ti102 := ⟨Try.underlying102, by kernel_rfl, by kernel_rfl, by kernel_rfl, fun h => by cases h⟩
@[simp] def ti103 : TI := ⟨(Go.TypeDesc.struct #[{ name := "Proposer", type := 3, offset := 0, embedded := Bool.false, tag := "", pkgPath := "", byteOffset := 0 }, { name := "Input", type := 3, offset := 1, embedded := Bool.false, tag := "", pkgPath := "", byteOffset := 8 }, { name := "Value", type := 26, offset := 2, embedded := Bool.false, tag := "", pkgPath := "", byteOffset := 16 }, { name := "Step", type := 3, offset := 3, embedded := Bool.false, tag := "", pkgPath := "", byteOffset := 40 }]), (Go.Value.agg #[Go.Value.int Go.IntKind.i64 0, Go.Value.int Go.IntKind.i64 0, Go.Value.slice Option.none 0 0, Go.Value.int Go.IntKind.i64 0]), 4, 48, false⟩
theorem ty103 : TyOk Try.prog 103 ti103 := ⟨Try.underlying103, by kernel_rfl, by kernel_rfl, by kernel_rfl, fun h => by cases h⟩
@[simp] def ti108 : TI := ⟨(Go.TypeDesc.struct #[{ name := "Author", type := 3, offset := 0, embedded := Bool.false, tag := "", pkgPath := "", byteOffset := 0 }, { name := "Count", type := 3, offset := 1, embedded := Bool.false, tag := "", pkgPath := "", byteOffset := 8 }]), (Go.Value.agg #[Go.Value.int Go.IntKind.i64 0, Go.Value.int Go.IntKind.i64 0]), 2, 16, true⟩
theorem ty108 : TyOk Try.prog 108 ti108 := ⟨Try.underlying108, by kernel_rfl, by kernel_rfl, by kernel_rfl, fun _ => ⟨by kernel_rfl, by kernel_rfl⟩⟩
@[simp] def ti109 : TI := ⟨(Go.TypeDesc.struct #[{ name := "Author", type := 3, offset := 0, embedded := Bool.false, tag := "", pkgPath := "", byteOffset := 0 }, { name := "Count", type := 3, offset := 1, embedded := Bool.false, tag := "", pkgPath := "", byteOffset := 8 }]), (Go.Value.agg #[Go.Value.int Go.IntKind.i64 0, Go.Value.int Go.IntKind.i64 0]), 2, 16, true⟩
theorem ty109 : TyOk Try.prog 109 ti109 := ⟨Try.underlying109, by kernel_rfl, by kernel_rfl, by kernel_rfl, fun _ => ⟨by kernel_rfl, by kernel_rfl⟩⟩
@[simp] def ti113 : TI := ⟨(Go.TypeDesc.int Go.IntKind.u32), (Go.Value.int Go.IntKind.u32 0), 1, 4, false⟩
theorem ty113 : TyOk Try.prog 113 ti113 := ⟨Try.underlying113, by kernel_rfl, by kernel_rfl, by kernel_rfl, fun h => by cases h⟩
@[simp] def ti123 : TI := ⟨(Go.TypeDesc.int Go.IntKind.i64), (Go.Value.int Go.IntKind.i64 0), 1, 8, false⟩
theorem ty123 : TyOk Try.prog 123 ti123 := ⟨Try.underlying123, by kernel_rfl, by kernel_rfl, by kernel_rfl, fun h => by cases h⟩
@[simp] def ti129 : TI := ⟨(Go.TypeDesc.pointer 82), (Go.Value.pointer Option.none), 1, 8, false⟩
theorem ty129 : TyOk Try.prog 129 ti129 := ⟨Try.underlying129, by kernel_rfl, by kernel_rfl, by kernel_rfl, fun h => by cases h⟩
@[simp] def ti131 : TI := ⟨(Go.TypeDesc.int Go.IntKind.i64), (Go.Value.int Go.IntKind.i64 0), 1, 8, false⟩
theorem ty131 : TyOk Try.prog 131 ti131 := ⟨Try.underlying131, by kernel_rfl, by kernel_rfl, by kernel_rfl, fun h => by cases h⟩
@[simp] def ti134 : TI := ⟨(Go.TypeDesc.struct #[{ name := "Reply", type := 4, offset := 0, embedded := Bool.false, tag := "", pkgPath := "", byteOffset := 0 }, { name := "Proposer", type := 3, offset := 1, embedded := Bool.false, tag := "", pkgPath := "", byteOffset := 8 }, { name := "Acceptor", type := 3, offset := 2, embedded := Bool.false, tag := "", pkgPath := "", byteOffset := 16 }, { name := "Round", type := 3, offset := 3, embedded := Bool.false, tag := "", pkgPath := "", byteOffset := 24 }, { name := "Value", type := 26, offset := 4, embedded := Bool.false, tag := "", pkgPath := "", byteOffset := 32 }]), (Go.Value.agg #[Go.Value.bool Bool.false, Go.Value.int Go.IntKind.i64 0, Go.Value.int Go.IntKind.i64 0, Go.Value.int Go.IntKind.i64 0, Go.Value.slice Option.none 0 0]), 5, 56, false⟩
theorem ty134 : TyOk Try.prog 134 ti134 := ⟨Try.underlying134, by kernel_rfl, by kernel_rfl, by kernel_rfl, fun h => by cases h⟩
@[simp] def ti135 : TI := ⟨(Go.TypeDesc.struct #[{ name := "Proposer", type := 3, offset := 0, embedded := Bool.false, tag := "", pkgPath := "", byteOffset := 0 }, { name := "Input", type := 3, offset := 1, embedded := Bool.false, tag := "", pkgPath := "", byteOffset := 8 }, { name := "Value", type := 26, offset := 2, embedded := Bool.false, tag := "", pkgPath := "", byteOffset := 16 }, { name := "Step", type := 3, offset := 3, embedded := Bool.false, tag := "", pkgPath := "", byteOffset := 40 }]), (Go.Value.agg #[Go.Value.int Go.IntKind.i64 0, Go.Value.int Go.IntKind.i64 0, Go.Value.slice Option.none 0 0, Go.Value.int Go.IntKind.i64 0]), 4, 48, false⟩
theorem ty135 : TyOk Try.prog 135 ti135 := ⟨Try.underlying135, by kernel_rfl, by kernel_rfl, by kernel_rfl, fun h => by cases h⟩
@[simp] def ti138 : TI := ⟨(Go.TypeDesc.int Go.IntKind.u64), (Go.Value.int Go.IntKind.u64 0), 1, 8, false⟩
theorem ty138 : TyOk Try.prog 138 ti138 := ⟨Try.underlying138, by kernel_rfl, by kernel_rfl, by kernel_rfl, fun h => by cases h⟩
@[simp] def ti141 : TI := ⟨Go.TypeDesc.bool, (Go.Value.bool Bool.false), 1, 1, false⟩
theorem ty141 : TyOk Try.prog 141 ti141 := ⟨Try.underlying141, by kernel_rfl, by kernel_rfl, by kernel_rfl, fun h => by cases h⟩
@[simp] def ti153 : TI := ⟨(Go.TypeDesc.struct #[{ name := "_interface", type := 17, offset := 0, embedded := Bool.false, tag := "", pkgPath := "runtime", byteOffset := 0 }, { name := "concrete", type := 17, offset := 1, embedded := Bool.false, tag := "", pkgPath := "runtime", byteOffset := 8 }, { name := "asserted", type := 17, offset := 2, embedded := Bool.false, tag := "", pkgPath := "runtime", byteOffset := 16 }, { name := "missingMethod", type := 9, offset := 3, embedded := Bool.false, tag := "", pkgPath := "runtime", byteOffset := 24 }]), (Go.Value.agg #[Go.Value.pointer Option.none, Go.Value.pointer Option.none, Go.Value.pointer Option.none, Go.Value.string { data := #[] }]), 4, 40, false⟩
theorem ty153 : TyOk Try.prog 153 ti153 := ⟨Try.underlying153, by kernel_rfl, by kernel_rfl, by kernel_rfl, fun h => by cases h⟩
@[simp] def ti154 : TI := ⟨(Go.TypeDesc.struct #[{ name := "_interface", type := 17, offset := 0, embedded := Bool.false, tag := "", pkgPath := "runtime", byteOffset := 0 }, { name := "concrete", type := 17, offset := 1, embedded := Bool.false, tag := "", pkgPath := "runtime", byteOffset := 8 }, { name := "asserted", type := 17, offset := 2, embedded := Bool.false, tag := "", pkgPath := "runtime", byteOffset := 16 }, { name := "missingMethod", type := 9, offset := 3, embedded := Bool.false, tag := "", pkgPath := "runtime", byteOffset := 24 }]), (Go.Value.agg #[Go.Value.pointer Option.none, Go.Value.pointer Option.none, Go.Value.pointer Option.none, Go.Value.string { data := #[] }]), 4, 40, false⟩
theorem ty154 : TyOk Try.prog 154 ti154 := ⟨Try.underlying154, by kernel_rfl, by kernel_rfl, by kernel_rfl, fun h => by cases h⟩
@[simp] def ti155 : TI := ⟨(Go.TypeDesc.array 0 16), (Go.Value.agg #[]), 0, 0, false⟩
theorem ty155 : TyOk Try.prog 155 ti155 := ⟨Try.underlying155, by kernel_rfl, by kernel_rfl, by kernel_rfl, fun h => by cases h⟩
@[simp] def ti156 : TI := ⟨(Go.TypeDesc.struct #[{ name := "_", type := 155, offset := 0, embedded := Bool.false, tag := "", pkgPath := "runtime", byteOffset := 0 }]), (Go.Value.agg #[]), 0, 0, false⟩
theorem ty156 : TyOk Try.prog 156 ti156 := ⟨Try.underlying156, by kernel_rfl, by kernel_rfl, by kernel_rfl, fun h => by cases h⟩
@[simp] def ti157 : TI := ⟨(Go.TypeDesc.struct #[{ name := "_", type := 155, offset := 0, embedded := Bool.false, tag := "", pkgPath := "runtime", byteOffset := 0 }]), (Go.Value.agg #[]), 0, 0, false⟩
theorem ty157 : TyOk Try.prog 157 ti157 := ⟨Try.underlying157, by kernel_rfl, by kernel_rfl, by kernel_rfl, fun h => by cases h⟩
@[simp] def ti159 : TI := ⟨(Go.TypeDesc.int Go.IntKind.u8), (Go.Value.int Go.IntKind.u8 0), 1, 1, false⟩
theorem ty159 : TyOk Try.prog 159 ti159 := ⟨Try.underlying159, by kernel_rfl, by kernel_rfl, by kernel_rfl, fun h => by cases h⟩
@[simp] def ti160 : TI := ⟨(Go.TypeDesc.int Go.IntKind.u8), (Go.Value.int Go.IntKind.u8 0), 1, 1, false⟩
theorem ty160 : TyOk Try.prog 160 ti160 := ⟨Try.underlying160, by kernel_rfl, by kernel_rfl, by kernel_rfl, fun h => by cases h⟩
@[simp] def ti162 : TI := ⟨(Go.TypeDesc.pointer 5), (Go.Value.pointer Option.none), 1, 8, false⟩
theorem ty162 : TyOk Try.prog 162 ti162 := ⟨Try.underlying162, by kernel_rfl, by kernel_rfl, by kernel_rfl, fun h => by cases h⟩
@[simp] def ti163 : TI := ⟨(Go.TypeDesc.int Go.IntKind.i32), (Go.Value.int Go.IntKind.i32 0), 1, 4, false⟩
theorem ty163 : TyOk Try.prog 163 ti163 := ⟨Try.underlying163, by kernel_rfl, by kernel_rfl, by kernel_rfl, fun h => by cases h⟩
@[simp] def ti164 : TI := ⟨(Go.TypeDesc.int Go.IntKind.i32), (Go.Value.int Go.IntKind.i32 0), 1, 4, false⟩
theorem ty164 : TyOk Try.prog 164 ti164 := ⟨Try.underlying164, by kernel_rfl, by kernel_rfl, by kernel_rfl, fun h => by cases h⟩
@[simp] def ti165 : TI := ⟨(Go.TypeDesc.struct #[{ name := "Size_", type := 12, offset := 0, embedded := Bool.false, tag := "", pkgPath := "", byteOffset := 0 }, { name := "PtrBytes", type := 12, offset := 1, embedded := Bool.false, tag := "", pkgPath := "", byteOffset := 8 }, { name := "Hash", type := 113, offset := 2, embedded := Bool.false, tag := "", pkgPath := "", byteOffset := 16 }, { name := "TFlag", type := 159, offset := 3, embedded := Bool.false, tag := "", pkgPath := "", byteOffset := 20 }, { name := "Align_", type := 5, offset := 4, embedded := Bool.false, tag := "", pkgPath := "", byteOffset := 21 }, { name := "FieldAlign_", type := 5, offset := 5, embedded := Bool.false, tag := "", pkgPath := "", byteOffset := 22 }, { name := "Kind_", type := 160, offset := 6, embedded := Bool.false, tag := "", pkgPath := "", byteOffset := 23 }, { name := "Equal", type := 161, offset := 7, embedded := Bool.false, tag := "", pkgPath := "", byteOffset := 24 }, { name := "GCData", type := 162, offset := 8, embedded := Bool.false, tag := "", pkgPath := "", byteOffset := 32 }, { name := "Str", type := 163, offset := 9, embedded := Bool.false, tag := "", pkgPath := "", byteOffset := 40 }, { name := "PtrToThis", type := 164, offset := 10, embedded := Bool.false, tag := "", pkgPath := "", byteOffset := 44 }]), (Go.Value.agg #[Go.Value.int Go.IntKind.u64 0, Go.Value.int Go.IntKind.u64 0, Go.Value.int Go.IntKind.u32 0, Go.Value.int Go.IntKind.u8 0, Go.Value.int Go.IntKind.u8 0, Go.Value.int Go.IntKind.u8 0, Go.Value.int Go.IntKind.u8 0, Go.Value.nilFunc, Go.Value.pointer Option.none, Go.Value.int Go.IntKind.i32 0, Go.Value.int Go.IntKind.i32 0]), 11, 48, false⟩
theorem ty165 : TyOk Try.prog 165 ti165 := ⟨Try.underlying165, by kernel_rfl, by kernel_rfl, by kernel_rfl, fun h => by cases h⟩
@[simp] def ti166 : TI := ⟨(Go.TypeDesc.struct #[{ name := "Size_", type := 12, offset := 0, embedded := Bool.false, tag := "", pkgPath := "", byteOffset := 0 }, { name := "PtrBytes", type := 12, offset := 1, embedded := Bool.false, tag := "", pkgPath := "", byteOffset := 8 }, { name := "Hash", type := 113, offset := 2, embedded := Bool.false, tag := "", pkgPath := "", byteOffset := 16 }, { name := "TFlag", type := 159, offset := 3, embedded := Bool.false, tag := "", pkgPath := "", byteOffset := 20 }, { name := "Align_", type := 5, offset := 4, embedded := Bool.false, tag := "", pkgPath := "", byteOffset := 21 }, { name := "FieldAlign_", type := 5, offset := 5, embedded := Bool.false, tag := "", pkgPath := "", byteOffset := 22 }, { name := "Kind_", type := 160, offset := 6, embedded := Bool.false, tag := "", pkgPath := "", byteOffset := 23 }, { name := "Equal", type := 161, offset := 7, embedded := Bool.false, tag := "", pkgPath := "", byteOffset := 24 }, { name := "GCData", type := 162, offset := 8, embedded := Bool.false, tag := "", pkgPath := "", byteOffset := 32 }, { name := "Str", type := 163, offset := 9, embedded := Bool.false, tag := "", pkgPath := "", byteOffset := 40 }, { name := "PtrToThis", type := 164, offset := 10, embedded := Bool.false, tag := "", pkgPath := "", byteOffset := 44 }]), (Go.Value.agg #[Go.Value.int Go.IntKind.u64 0, Go.Value.int Go.IntKind.u64 0, Go.Value.int Go.IntKind.u32 0, Go.Value.int Go.IntKind.u8 0, Go.Value.int Go.IntKind.u8 0, Go.Value.int Go.IntKind.u8 0, Go.Value.int Go.IntKind.u8 0, Go.Value.nilFunc, Go.Value.pointer Option.none, Go.Value.int Go.IntKind.i32 0, Go.Value.int Go.IntKind.i32 0]), 11, 48, false⟩
theorem ty166 : TyOk Try.prog 166 ti166 := ⟨Try.underlying166, by kernel_rfl, by kernel_rfl, by kernel_rfl, fun h => by cases h⟩
def TE : TyEnv := [(2, ti2), (3, ti3), (4, ti4), (5, ti5), (6, ti6), (7, ti7), (8, ti8), (9, ti9), (10, ti10), (11, ti11), (12, ti12), (13, ti13), (14, ti14), (15, ti15), (16, ti16), (17, ti17), (18, ti18), (19, ti19), (20, ti20), (21, ti21), (22, ti22), (25, ti25), (26, ti26), (28, ti28), (29, ti29), (30, ti30), (33, ti33), (34, ti34), (35, ti35), (36, ti36), (37, ti37), (47, ti47), (49, ti49), (52, ti52), (53, ti53), (54, ti54), (56, ti56), (58, ti58), (59, ti59), (67, ti67), (73, ti73), (77, ti77), (78, ti78), (79, ti79), (80, ti80), (81, ti81), (82, ti82), (85, ti85), (86, ti86), (92, ti92), (93, ti93), (94, ti94), (95, ti95), (96, ti96), (102, ti102), (103, ti103), (108, ti108), (109, ti109), (113, ti113), (123, ti123), (129, ti129), (131, ti131), (134, ti134), (135, ti135), (138, ti138), (141, ti141), (153, ti153), (154, ti154), (155, ti155), (156, ti156), (157, ti157), (159, ti159), (160, ti160), (162, ti162), (163, ti163), (164, ti164), (165, ti165), (166, ti166)]
theorem teOk : TOk Try.prog TE := .cons ty2 (.cons ty3 (.cons ty4 (.cons ty5 (.cons ty6 (.cons ty7 (.cons ty8 (.cons ty9 (.cons ty10 (.cons ty11 (.cons ty12 (.cons ty13 (.cons ty14 (.cons ty15 (.cons ty16 (.cons ty17 (.cons ty18 (.cons ty19 (.cons ty20 (.cons ty21 (.cons ty22 (.cons ty25 (.cons ty26 (.cons ty28 (.cons ty29 (.cons ty30 (.cons ty33 (.cons ty34 (.cons ty35 (.cons ty36 (.cons ty37 (.cons ty47 (.cons ty49 (.cons ty52 (.cons ty53 (.cons ty54 (.cons ty56 (.cons ty58 (.cons ty59 (.cons ty67 (.cons ty73 (.cons ty77 (.cons ty78 (.cons ty79 (.cons ty80 (.cons ty81 (.cons ty82 (.cons ty85 (.cons ty86 (.cons ty92 (.cons ty93 (.cons ty94 (.cons ty95 (.cons ty96 (.cons ty102 (.cons ty103 (.cons ty108 (.cons ty109 (.cons ty113 (.cons ty123 (.cons ty129 (.cons ty131 (.cons ty134 (.cons ty135 (.cons ty138 (.cons ty141 (.cons ty153 (.cons ty154 (.cons ty155 (.cons ty156 (.cons ty157 (.cons ty159 (.cons ty160 (.cons ty162 (.cons ty163 (.cons ty164 (.cons ty165 (.cons ty166 (.nil _))))))))))))))))))))))))))))))))))))))))))))))))))))))))))))))))))))))))))))))
@[simp] theorem lk2 : look 2 TE = some ti2 := rfl
@[simp] theorem lk3 : look 3 TE = some ti3 := rfl
@[simp] theorem lk4 : look 4 TE = some ti4 := rfl
@[simp] theorem lk5 : look 5 TE = some ti5 := rfl
@[simp] theorem lk6 : look 6 TE = some ti6 := rfl
@[simp] theorem lk7 : look 7 TE = some ti7 := rfl
@[simp] theorem lk8 : look 8 TE = some ti8 := rfl
@[simp] theorem lk9 : look 9 TE = some ti9 := rfl
@[simp] theorem lk10 : look 10 TE = some ti10 := rfl
@[simp] theorem lk11 : look 11 TE = some ti11 := rfl
@[simp] theorem lk12 : look 12 TE = some ti12 := rfl
@[simp] theorem lk13 : look 13 TE = some ti13 := rfl
@[simp] theorem lk14 : look 14 TE = some ti14 := rfl
@[simp] theorem lk15 : look 15 TE = some ti15 := rfl
@[simp] theorem lk16 : look 16 TE = some ti16 := rfl
@[simp] theorem lk17 : look 17 TE = some ti17 := rfl
@[simp] theorem lk18 : look 18 TE = some ti18 := rfl
@[simp] theorem lk19 : look 19 TE = some ti19 := rfl
@[simp] theorem lk20 : look 20 TE = some ti20 := rfl
@[simp] theorem lk21 : look 21 TE = some ti21 := rfl
@[simp] theorem lk22 : look 22 TE = some ti22 := rfl
@[simp] theorem lk25 : look 25 TE = some ti25 := rfl
@[simp] theorem lk26 : look 26 TE = some ti26 := rfl
@[simp] theorem lk28 : look 28 TE = some ti28 := rfl
@[simp] theorem lk29 : look 29 TE = some ti29 := rfl
@[simp] theorem lk30 : look 30 TE = some ti30 := rfl
@[simp] theorem lk33 : look 33 TE = some ti33 := rfl
@[simp] theorem lk34 : look 34 TE = some ti34 := rfl
@[simp] theorem lk35 : look 35 TE = some ti35 := rfl
@[simp] theorem lk36 : look 36 TE = some ti36 := rfl
@[simp] theorem lk37 : look 37 TE = some ti37 := rfl
@[simp] theorem lk47 : look 47 TE = some ti47 := rfl
@[simp] theorem lk49 : look 49 TE = some ti49 := rfl
@[simp] theorem lk52 : look 52 TE = some ti52 := rfl
@[simp] theorem lk53 : look 53 TE = some ti53 := rfl
@[simp] theorem lk54 : look 54 TE = some ti54 := rfl
@[simp] theorem lk56 : look 56 TE = some ti56 := rfl
@[simp] theorem lk58 : look 58 TE = some ti58 := rfl
@[simp] theorem lk59 : look 59 TE = some ti59 := rfl
@[simp] theorem lk67 : look 67 TE = some ti67 := rfl
@[simp] theorem lk73 : look 73 TE = some ti73 := rfl
@[simp] theorem lk77 : look 77 TE = some ti77 := rfl
@[simp] theorem lk78 : look 78 TE = some ti78 := rfl
@[simp] theorem lk79 : look 79 TE = some ti79 := rfl
@[simp] theorem lk80 : look 80 TE = some ti80 := rfl
@[simp] theorem lk81 : look 81 TE = some ti81 := rfl
@[simp] theorem lk82 : look 82 TE = some ti82 := rfl
@[simp] theorem lk85 : look 85 TE = some ti85 := rfl
@[simp] theorem lk86 : look 86 TE = some ti86 := rfl
@[simp] theorem lk92 : look 92 TE = some ti92 := rfl
@[simp] theorem lk93 : look 93 TE = some ti93 := rfl
@[simp] theorem lk94 : look 94 TE = some ti94 := rfl
@[simp] theorem lk95 : look 95 TE = some ti95 := rfl
@[simp] theorem lk96 : look 96 TE = some ti96 := rfl
@[simp] theorem lk102 : look 102 TE = some ti102 := rfl
@[simp] theorem lk103 : look 103 TE = some ti103 := rfl
@[simp] theorem lk108 : look 108 TE = some ti108 := rfl
@[simp] theorem lk109 : look 109 TE = some ti109 := rfl
@[simp] theorem lk113 : look 113 TE = some ti113 := rfl
@[simp] theorem lk123 : look 123 TE = some ti123 := rfl
@[simp] theorem lk129 : look 129 TE = some ti129 := rfl
@[simp] theorem lk131 : look 131 TE = some ti131 := rfl
@[simp] theorem lk134 : look 134 TE = some ti134 := rfl
@[simp] theorem lk135 : look 135 TE = some ti135 := rfl
@[simp] theorem lk138 : look 138 TE = some ti138 := rfl
@[simp] theorem lk141 : look 141 TE = some ti141 := rfl
@[simp] theorem lk153 : look 153 TE = some ti153 := rfl
@[simp] theorem lk154 : look 154 TE = some ti154 := rfl
@[simp] theorem lk155 : look 155 TE = some ti155 := rfl
@[simp] theorem lk156 : look 156 TE = some ti156 := rfl
@[simp] theorem lk157 : look 157 TE = some ti157 := rfl
@[simp] theorem lk159 : look 159 TE = some ti159 := rfl
@[simp] theorem lk160 : look 160 TE = some ti160 := rfl
@[simp] theorem lk162 : look 162 TE = some ti162 := rfl
@[simp] theorem lk163 : look 163 TE = some ti163 := rfl
@[simp] theorem lk164 : look 164 TE = some ti164 := rfl
@[simp] theorem lk165 : look 165 TE = some ti165 := rfl
@[simp] theorem lk166 : look 166 TE = some ti166 := rfl
end Go.Proofs.Ytopcklnnkpjanaa.Abs
