/- The types of the program, as the tables of them. Written by tygen.py. -/
import Derived.Test.YtphlhadgcfndhaaDoorAbs20
import Derived.Test.YtphlhadgcfndhaaDoorProg
import Derived.KernelRfl
namespace Go.Proofs.YtphlhadgcfndhaaDoor.Abs
open Go Go.RowKit
@[simp] def ti2 : TI := ⟨(Go.TypeDesc.int Go.IntKind.i64), (Go.Value.int Go.IntKind.i64 0), 1, 8, false⟩
theorem ty2 : TyOk Tryd.prog 2 ti2 := ⟨Tryd.underlying2, by kernel_rfl, by kernel_rfl, by kernel_rfl, fun h => by cases h⟩
@[simp] def ti3 : TI := ⟨(Go.TypeDesc.int Go.IntKind.i64), (Go.Value.int Go.IntKind.i64 0), 1, 8, false⟩
theorem ty3 : TyOk Tryd.prog 3 ti3 := ⟨Tryd.underlying3, by kernel_rfl, by kernel_rfl, by kernel_rfl, fun h => by cases h⟩
@[simp] def ti4 : TI := ⟨Go.TypeDesc.bool, (Go.Value.bool Bool.false), 1, 1, false⟩
theorem ty4 : TyOk Tryd.prog 4 ti4 := ⟨Tryd.underlying4, by kernel_rfl, by kernel_rfl, by kernel_rfl, fun h => by cases h⟩
@[simp] def ti5 : TI := ⟨(Go.TypeDesc.int Go.IntKind.u8), (Go.Value.int Go.IntKind.u8 0), 1, 1, false⟩
theorem ty5 : TyOk Tryd.prog 5 ti5 := ⟨Tryd.underlying5, by kernel_rfl, by kernel_rfl, by kernel_rfl, fun h => by cases h⟩
@[simp] def ti6 : TI := ⟨(Go.TypeDesc.int Go.IntKind.u8), (Go.Value.int Go.IntKind.u8 0), 1, 1, false⟩
theorem ty6 : TyOk Tryd.prog 6 ti6 := ⟨Tryd.underlying6, by kernel_rfl, by kernel_rfl, by kernel_rfl, fun h => by cases h⟩
@[simp] def ti7 : TI := ⟨(Go.TypeDesc.struct #[{ name := "x", type := 2, offset := 0, embedded := Bool.false, tag := "", pkgPath := "runtime", byteOffset := 0 }, { name := "y", type := 3, offset := 1, embedded := Bool.false, tag := "", pkgPath := "runtime", byteOffset := 8 }, { name := "signed", type := 4, offset := 2, embedded := Bool.false, tag := "", pkgPath := "runtime", byteOffset := 16 }, { name := "code", type := 6, offset := 3, embedded := Bool.false, tag := "", pkgPath := "runtime", byteOffset := 17 }]), (Go.Value.agg #[Go.Value.int Go.IntKind.i64 0, Go.Value.int Go.IntKind.i64 0, Go.Value.bool Bool.false, Go.Value.int Go.IntKind.u8 0]), 4, 24, false⟩
theorem ty7 : TyOk Tryd.prog 7 ti7 := ⟨Tryd.underlying7, by kernel_rfl, by kernel_rfl, by kernel_rfl, fun h => by cases h⟩
@[simp] def ti8 : TI := ⟨(Go.TypeDesc.struct #[{ name := "x", type := 2, offset := 0, embedded := Bool.false, tag := "", pkgPath := "runtime", byteOffset := 0 }, { name := "y", type := 3, offset := 1, embedded := Bool.false, tag := "", pkgPath := "runtime", byteOffset := 8 }, { name := "signed", type := 4, offset := 2, embedded := Bool.false, tag := "", pkgPath := "runtime", byteOffset := 16 }, { name := "code", type := 6, offset := 3, embedded := Bool.false, tag := "", pkgPath := "runtime", byteOffset := 17 }]), (Go.Value.agg #[Go.Value.int Go.IntKind.i64 0, Go.Value.int Go.IntKind.i64 0, Go.Value.bool Bool.false, Go.Value.int Go.IntKind.u8 0]), 4, 24, false⟩
theorem ty8 : TyOk Tryd.prog 8 ti8 := ⟨Tryd.underlying8, by kernel_rfl, by kernel_rfl, by kernel_rfl, fun h => by cases h⟩
@[simp] def ti9 : TI := ⟨Go.TypeDesc.string, (Go.Value.string { data := #[] }), 1, 16, false⟩
theorem ty9 : TyOk Tryd.prog 9 ti9 := ⟨Tryd.underlying9, by kernel_rfl, by kernel_rfl, by kernel_rfl, fun h => by cases h⟩
@[simp] def ti10 : TI := ⟨Go.TypeDesc.string, (Go.Value.string { data := #[] }), 1, 16, false⟩
theorem ty10 : TyOk Tryd.prog 10 ti10 := ⟨Tryd.underlying10, by kernel_rfl, by kernel_rfl, by kernel_rfl, fun h => by cases h⟩
@[simp] def ti11 : TI := ⟨Go.TypeDesc.string, (Go.Value.string { data := #[] }), 1, 16, false⟩
theorem ty11 : TyOk Tryd.prog 11 ti11 := ⟨Tryd.underlying11, by kernel_rfl, by kernel_rfl, by kernel_rfl, fun h => by cases h⟩
@[simp] def ti12 : TI := ⟨(Go.TypeDesc.int Go.IntKind.u64), (Go.Value.int Go.IntKind.u64 0), 1, 8, false⟩
theorem ty12 : TyOk Tryd.prog 12 ti12 := ⟨Tryd.underlying12, by kernel_rfl, by kernel_rfl, by kernel_rfl, fun h => by cases h⟩
@[simp] def ti13 : TI := ⟨(Go.TypeDesc.struct #[{ name := "msg", type := 9, offset := 0, embedded := Bool.false, tag := "", pkgPath := "runtime", byteOffset := 0 }, { name := "addr", type := 12, offset := 1, embedded := Bool.false, tag := "", pkgPath := "runtime", byteOffset := 16 }]), (Go.Value.agg #[Go.Value.string { data := #[] }, Go.Value.int Go.IntKind.u64 0]), 2, 24, false⟩
theorem ty13 : TyOk Tryd.prog 13 ti13 := ⟨Tryd.underlying13, by kernel_rfl, by kernel_rfl, by kernel_rfl, fun h => by cases h⟩
@[simp] def ti14 : TI := ⟨(Go.TypeDesc.struct #[{ name := "msg", type := 9, offset := 0, embedded := Bool.false, tag := "", pkgPath := "runtime", byteOffset := 0 }, { name := "addr", type := 12, offset := 1, embedded := Bool.false, tag := "", pkgPath := "runtime", byteOffset := 16 }]), (Go.Value.agg #[Go.Value.string { data := #[] }, Go.Value.int Go.IntKind.u64 0]), 2, 24, false⟩
theorem ty14 : TyOk Tryd.prog 14 ti14 := ⟨Tryd.underlying14, by kernel_rfl, by kernel_rfl, by kernel_rfl, fun h => by cases h⟩
@[simp] def ti15 : TI := ⟨(Go.TypeDesc.pointer 165), (Go.Value.pointer Option.none), 1, 8, false⟩
theorem ty15 : TyOk Tryd.prog 15 ti15 := ⟨Tryd.underlying15, by kernel_rfl, by kernel_rfl, by kernel_rfl, fun h => by cases h⟩
@[simp] def ti16 : TI := ⟨(Go.TypeDesc.pointer 168), (Go.Value.pointer Option.none), 1, 8, false⟩
theorem ty16 : TyOk Tryd.prog 16 ti16 := ⟨Tryd.underlying16, by kernel_rfl, by kernel_rfl, by kernel_rfl, fun h => by cases h⟩
@[simp] def ti17 : TI := ⟨(Go.TypeDesc.pointer 177), (Go.Value.pointer Option.none), 1, 8, false⟩
theorem ty17 : TyOk Tryd.prog 17 ti17 := ⟨Tryd.underlying17, by kernel_rfl, by kernel_rfl, by kernel_rfl, fun h => by cases h⟩
@[simp] def ti18 : TI := ⟨(Go.TypeDesc.struct #[{ name := "typ", type := 17, offset := 0, embedded := Bool.false, tag := "", pkgPath := "internal/runtime/maps", byteOffset := 0 }]), (Go.Value.agg #[Go.Value.pointer Option.none]), 1, 8, false⟩
theorem ty18 : TyOk Tryd.prog 18 ti18 := ⟨Tryd.underlying18, by kernel_rfl, by kernel_rfl, by kernel_rfl, fun h => by cases h⟩
@[simp] def ti19 : TI := ⟨(Go.TypeDesc.struct #[{ name := "typ", type := 17, offset := 0, embedded := Bool.false, tag := "", pkgPath := "internal/runtime/maps", byteOffset := 0 }]), (Go.Value.agg #[Go.Value.pointer Option.none]), 1, 8, false⟩
theorem ty19 : TyOk Tryd.prog 19 ti19 := ⟨Tryd.underlying19, by kernel_rfl, by kernel_rfl, by kernel_rfl, fun h => by cases h⟩
@[simp] def ti20 : TI := ⟨(Go.TypeDesc.interface #[]), Go.Value.nilIface, 1, 16, false⟩
theorem ty20 : TyOk Tryd.prog 20 ti20 := ⟨Tryd.underlying20, by kernel_rfl, by kernel_rfl, by kernel_rfl, fun h => by cases h⟩
@[simp] def ti21 : TI := ⟨(Go.TypeDesc.int Go.IntKind.i32), (Go.Value.int Go.IntKind.i32 0), 1, 4, false⟩
theorem ty21 : TyOk Tryd.prog 21 ti21 := ⟨Tryd.underlying21, by kernel_rfl, by kernel_rfl, by kernel_rfl, fun h => by cases h⟩
@[simp] def ti22 : TI := ⟨(Go.TypeDesc.slice 26), (Go.Value.slice Option.none 0 0), 1, 24, false⟩
theorem ty22 : TyOk Tryd.prog 22 ti22 := ⟨Tryd.underlying22, by kernel_rfl, by kernel_rfl, by kernel_rfl, fun h => by cases h⟩
@[simp] def ti23 : TI := ⟨(Go.TypeDesc.struct #[{ name := "Acceptors", type := 3, offset := 0, embedded := Bool.false, tag := "", pkgPath := "", byteOffset := 0 }, { name := "Inputs", type := 22, offset := 1, embedded := Bool.false, tag := "", pkgPath := "", byteOffset := 8 }, { name := "Losses", type := 3, offset := 2, embedded := Bool.false, tag := "", pkgPath := "", byteOffset := 32 }, { name := "Amnesia", type := 3, offset := 3, embedded := Bool.false, tag := "", pkgPath := "", byteOffset := 40 }]), (Go.Value.agg #[Go.Value.int Go.IntKind.i64 0, Go.Value.slice Option.none 0 0, Go.Value.int Go.IntKind.i64 0, Go.Value.int Go.IntKind.i64 0]), 4, 48, false⟩
theorem ty23 : TyOk Tryd.prog 23 ti23 := ⟨Tryd.underlying23, by kernel_rfl, by kernel_rfl, by kernel_rfl, fun h => by cases h⟩
@[simp] def ti24 : TI := ⟨(Go.TypeDesc.struct #[{ name := "Acceptors", type := 3, offset := 0, embedded := Bool.false, tag := "", pkgPath := "", byteOffset := 0 }, { name := "Inputs", type := 22, offset := 1, embedded := Bool.false, tag := "", pkgPath := "", byteOffset := 8 }, { name := "Losses", type := 3, offset := 2, embedded := Bool.false, tag := "", pkgPath := "", byteOffset := 32 }, { name := "Amnesia", type := 3, offset := 3, embedded := Bool.false, tag := "", pkgPath := "", byteOffset := 40 }]), (Go.Value.agg #[Go.Value.int Go.IntKind.i64 0, Go.Value.slice Option.none 0 0, Go.Value.int Go.IntKind.i64 0, Go.Value.int Go.IntKind.i64 0]), 4, 48, false⟩
theorem ty24 : TyOk Tryd.prog 24 ti24 := ⟨Tryd.underlying24, by kernel_rfl, by kernel_rfl, by kernel_rfl, fun h => by cases h⟩
@[simp] def ti26 : TI := ⟨(Go.TypeDesc.slice 61), (Go.Value.slice Option.none 0 0), 1, 24, false⟩
theorem ty26 : TyOk Tryd.prog 26 ti26 := ⟨Tryd.underlying26, by kernel_rfl, by kernel_rfl, by kernel_rfl, fun h => by cases h⟩
@[simp] def ti27 : TI := ⟨(Go.TypeDesc.int Go.IntKind.i64), (Go.Value.int Go.IntKind.i64 0), 1, 8, false⟩
theorem ty27 : TyOk Tryd.prog 27 ti27 := ⟨Tryd.underlying27, by kernel_rfl, by kernel_rfl, by kernel_rfl, fun h => by cases h⟩
@[simp] def ti29 : TI := ⟨(Go.TypeDesc.struct #[{ name := "Acceptors", type := 3, offset := 0, embedded := Bool.false, tag := "", pkgPath := "", byteOffset := 0 }, { name := "Inputs", type := 22, offset := 1, embedded := Bool.false, tag := "", pkgPath := "", byteOffset := 8 }, { name := "Losses", type := 3, offset := 2, embedded := Bool.false, tag := "", pkgPath := "", byteOffset := 32 }, { name := "Amnesia", type := 3, offset := 3, embedded := Bool.false, tag := "", pkgPath := "", byteOffset := 40 }]), (Go.Value.agg #[Go.Value.int Go.IntKind.i64 0, Go.Value.slice Option.none 0 0, Go.Value.int Go.IntKind.i64 0, Go.Value.int Go.IntKind.i64 0]), 4, 48, false⟩
theorem ty29 : TyOk Tryd.prog 29 ti29 := ⟨Tryd.underlying29, by kernel_rfl, by kernel_rfl, by kernel_rfl, fun h => by cases h⟩
@[simp] def ti32 : TI := ⟨(Go.TypeDesc.slice 54), (Go.Value.slice Option.none 0 0), 1, 24, false⟩
theorem ty32 : TyOk Tryd.prog 32 ti32 := ⟨Tryd.underlying32, by kernel_rfl, by kernel_rfl, by kernel_rfl, fun h => by cases h⟩
@[simp] def ti33 : TI := ⟨(Go.TypeDesc.struct #[{ name := "States", type := 3, offset := 0, embedded := Bool.false, tag := "", pkgPath := "", byteOffset := 0 }, { name := "Steps", type := 3, offset := 1, embedded := Bool.false, tag := "", pkgPath := "", byteOffset := 8 }, { name := "Final", type := 3, offset := 2, embedded := Bool.false, tag := "", pkgPath := "", byteOffset := 16 }, { name := "Depth", type := 3, offset := 3, embedded := Bool.false, tag := "", pkgPath := "", byteOffset := 24 }, { name := "Safe", type := 4, offset := 4, embedded := Bool.false, tag := "", pkgPath := "", byteOffset := 32 }, { name := "Violation", type := 32, offset := 5, embedded := Bool.false, tag := "", pkgPath := "", byteOffset := 40 }]), (Go.Value.agg #[Go.Value.int Go.IntKind.i64 0, Go.Value.int Go.IntKind.i64 0, Go.Value.int Go.IntKind.i64 0, Go.Value.int Go.IntKind.i64 0, Go.Value.bool Bool.false, Go.Value.slice Option.none 0 0]), 6, 64, false⟩
theorem ty33 : TyOk Tryd.prog 33 ti33 := ⟨Tryd.underlying33, by kernel_rfl, by kernel_rfl, by kernel_rfl, fun h => by cases h⟩
@[simp] def ti34 : TI := ⟨(Go.TypeDesc.struct #[{ name := "States", type := 3, offset := 0, embedded := Bool.false, tag := "", pkgPath := "", byteOffset := 0 }, { name := "Steps", type := 3, offset := 1, embedded := Bool.false, tag := "", pkgPath := "", byteOffset := 8 }, { name := "Final", type := 3, offset := 2, embedded := Bool.false, tag := "", pkgPath := "", byteOffset := 16 }, { name := "Depth", type := 3, offset := 3, embedded := Bool.false, tag := "", pkgPath := "", byteOffset := 24 }, { name := "Safe", type := 4, offset := 4, embedded := Bool.false, tag := "", pkgPath := "", byteOffset := 32 }, { name := "Violation", type := 32, offset := 5, embedded := Bool.false, tag := "", pkgPath := "", byteOffset := 40 }]), (Go.Value.agg #[Go.Value.int Go.IntKind.i64 0, Go.Value.int Go.IntKind.i64 0, Go.Value.int Go.IntKind.i64 0, Go.Value.int Go.IntKind.i64 0, Go.Value.bool Bool.false, Go.Value.slice Option.none 0 0]), 6, 64, false⟩
theorem ty34 : TyOk Tryd.prog 34 ti34 := ⟨Tryd.underlying34, by kernel_rfl, by kernel_rfl, by kernel_rfl, fun h => by cases h⟩
@[simp] def ti38 : TI := ⟨(Go.TypeDesc.slice 3), (Go.Value.slice Option.none 0 0), 1, 24, false⟩
theorem ty38 : TyOk Tryd.prog 38 ti38 := ⟨Tryd.underlying38, by kernel_rfl, by kernel_rfl, by kernel_rfl, fun h => by cases h⟩
@[simp] def ti40 : TI := ⟨(Go.TypeDesc.slice 80), (Go.Value.slice Option.none 0 0), 1, 24, false⟩
theorem ty40 : TyOk Tryd.prog 40 ti40 := ⟨Tryd.underlying40, by kernel_rfl, by kernel_rfl, by kernel_rfl, fun h => by cases h⟩
@[simp] def ti41 : TI := ⟨(Go.TypeDesc.slice 101), (Go.Value.slice Option.none 0 0), 1, 24, false⟩
theorem ty41 : TyOk Tryd.prog 41 ti41 := ⟨Tryd.underlying41, by kernel_rfl, by kernel_rfl, by kernel_rfl, fun h => by cases h⟩
@[simp] def ti42 : TI := ⟨(Go.TypeDesc.slice 63), (Go.Value.slice Option.none 0 0), 1, 24, false⟩
theorem ty42 : TyOk Tryd.prog 42 ti42 := ⟨Tryd.underlying42, by kernel_rfl, by kernel_rfl, by kernel_rfl, fun h => by cases h⟩
@[simp] def ti43 : TI := ⟨(Go.TypeDesc.slice 82), (Go.Value.slice Option.none 0 0), 1, 24, false⟩
theorem ty43 : TyOk Tryd.prog 43 ti43 := ⟨Tryd.underlying43, by kernel_rfl, by kernel_rfl, by kernel_rfl, fun h => by cases h⟩
@[simp] def ti44 : TI := ⟨(Go.TypeDesc.struct #[{ name := "Acceptors", type := 40, offset := 0, embedded := Bool.false, tag := "", pkgPath := "", byteOffset := 0 }, { name := "Proposers", type := 41, offset := 1, embedded := Bool.false, tag := "", pkgPath := "", byteOffset := 24 }, { name := "Inputs", type := 22, offset := 2, embedded := Bool.false, tag := "", pkgPath := "", byteOffset := 48 }, { name := "Next", type := 38, offset := 3, embedded := Bool.false, tag := "", pkgPath := "", byteOffset := 72 }, { name := "Packets", type := 42, offset := 4, embedded := Bool.false, tag := "", pkgPath := "", byteOffset := 96 }, { name := "Decisions", type := 43, offset := 5, embedded := Bool.false, tag := "", pkgPath := "", byteOffset := 120 }, { name := "Steps", type := 3, offset := 6, embedded := Bool.false, tag := "", pkgPath := "", byteOffset := 144 }]), (Go.Value.agg #[Go.Value.slice Option.none 0 0, Go.Value.slice Option.none 0 0, Go.Value.slice Option.none 0 0, Go.Value.slice Option.none 0 0, Go.Value.slice Option.none 0 0, Go.Value.slice Option.none 0 0, Go.Value.int Go.IntKind.i64 0]), 7, 152, false⟩
theorem ty44 : TyOk Tryd.prog 44 ti44 := ⟨Tryd.underlying44, by kernel_rfl, by kernel_rfl, by kernel_rfl, fun h => by cases h⟩
@[simp] def ti45 : TI := ⟨(Go.TypeDesc.struct #[{ name := "Acceptors", type := 40, offset := 0, embedded := Bool.false, tag := "", pkgPath := "", byteOffset := 0 }, { name := "Proposers", type := 41, offset := 1, embedded := Bool.false, tag := "", pkgPath := "", byteOffset := 24 }, { name := "Inputs", type := 22, offset := 2, embedded := Bool.false, tag := "", pkgPath := "", byteOffset := 48 }, { name := "Next", type := 38, offset := 3, embedded := Bool.false, tag := "", pkgPath := "", byteOffset := 72 }, { name := "Packets", type := 42, offset := 4, embedded := Bool.false, tag := "", pkgPath := "", byteOffset := 96 }, { name := "Decisions", type := 43, offset := 5, embedded := Bool.false, tag := "", pkgPath := "", byteOffset := 120 }, { name := "Steps", type := 3, offset := 6, embedded := Bool.false, tag := "", pkgPath := "", byteOffset := 144 }]), (Go.Value.agg #[Go.Value.slice Option.none 0 0, Go.Value.slice Option.none 0 0, Go.Value.slice Option.none 0 0, Go.Value.slice Option.none 0 0, Go.Value.slice Option.none 0 0, Go.Value.slice Option.none 0 0, Go.Value.int Go.IntKind.i64 0]), 7, 152, false⟩
theorem ty45 : TyOk Tryd.prog 45 ti45 := ⟨Tryd.underlying45, by kernel_rfl, by kernel_rfl, by kernel_rfl, fun h => by cases h⟩
@[simp] def ti46 : TI := ⟨(Go.TypeDesc.struct #[{ name := "Group", type := 45, offset := 0, embedded := Bool.false, tag := "", pkgPath := "", byteOffset := 0 }, { name := "Losses", type := 3, offset := 7, embedded := Bool.false, tag := "", pkgPath := "", byteOffset := 152 }, { name := "Amnesia", type := 3, offset := 8, embedded := Bool.false, tag := "", pkgPath := "", byteOffset := 160 }]), (Go.Value.agg #[Go.Value.slice Option.none 0 0, Go.Value.slice Option.none 0 0, Go.Value.slice Option.none 0 0, Go.Value.slice Option.none 0 0, Go.Value.slice Option.none 0 0, Go.Value.slice Option.none 0 0, Go.Value.int Go.IntKind.i64 0, Go.Value.int Go.IntKind.i64 0, Go.Value.int Go.IntKind.i64 0]), 9, 168, false⟩
theorem ty46 : TyOk Tryd.prog 46 ti46 := ⟨Tryd.underlying46, by kernel_rfl, by kernel_rfl, by kernel_rfl, fun h => by cases h⟩
@[simp] def ti47 : TI := ⟨(Go.TypeDesc.struct #[{ name := "Group", type := 45, offset := 0, embedded := Bool.false, tag := "", pkgPath := "", byteOffset := 0 }, { name := "Losses", type := 3, offset := 7, embedded := Bool.false, tag := "", pkgPath := "", byteOffset := 152 }, { name := "Amnesia", type := 3, offset := 8, embedded := Bool.false, tag := "", pkgPath := "", byteOffset := 160 }]), (Go.Value.agg #[Go.Value.slice Option.none 0 0, Go.Value.slice Option.none 0 0, Go.Value.slice Option.none 0 0, Go.Value.slice Option.none 0 0, Go.Value.slice Option.none 0 0, Go.Value.slice Option.none 0 0, Go.Value.int Go.IntKind.i64 0, Go.Value.int Go.IntKind.i64 0, Go.Value.int Go.IntKind.i64 0]), 9, 168, false⟩
theorem ty47 : TyOk Tryd.prog 47 ti47 := ⟨Tryd.underlying47, by kernel_rfl, by kernel_rfl, by kernel_rfl, fun h => by cases h⟩
@[simp] def ti53 : TI := ⟨(Go.TypeDesc.struct #[{ name := "Kind", type := 3, offset := 0, embedded := Bool.false, tag := "", pkgPath := "", byteOffset := 0 }, { name := "Index", type := 3, offset := 1, embedded := Bool.false, tag := "", pkgPath := "", byteOffset := 8 }]), (Go.Value.agg #[Go.Value.int Go.IntKind.i64 0, Go.Value.int Go.IntKind.i64 0]), 2, 16, true⟩
theorem ty53 : TyOk Tryd.prog 53 ti53 := ⟨Tryd.underlying53, by kernel_rfl, by kernel_rfl, by kernel_rfl, fun _ => ⟨by kernel_rfl, by kernel_rfl⟩⟩
@[simp] def ti54 : TI := ⟨(Go.TypeDesc.struct #[{ name := "Kind", type := 3, offset := 0, embedded := Bool.false, tag := "", pkgPath := "", byteOffset := 0 }, { name := "Index", type := 3, offset := 1, embedded := Bool.false, tag := "", pkgPath := "", byteOffset := 8 }]), (Go.Value.agg #[Go.Value.int Go.IntKind.i64 0, Go.Value.int Go.IntKind.i64 0]), 2, 16, true⟩
theorem ty54 : TyOk Tryd.prog 54 ti54 := ⟨Tryd.underlying54, by kernel_rfl, by kernel_rfl, by kernel_rfl, fun _ => ⟨by kernel_rfl, by kernel_rfl⟩⟩
@[simp] def ti60 : TI := ⟨(Go.TypeDesc.slice 66), (Go.Value.slice Option.none 0 0), 1, 24, false⟩
theorem ty60 : TyOk Tryd.prog 60 ti60 := ⟨Tryd.underlying60, by kernel_rfl, by kernel_rfl, by kernel_rfl, fun h => by cases h⟩
@[simp] def ti61 : TI := ⟨(Go.TypeDesc.slice 66), (Go.Value.slice Option.none 0 0), 1, 24, false⟩
theorem ty61 : TyOk Tryd.prog 61 ti61 := ⟨Tryd.underlying61, by kernel_rfl, by kernel_rfl, by kernel_rfl, fun h => by cases h⟩
@[simp] def ti62 : TI := ⟨(Go.TypeDesc.struct #[{ name := "Reply", type := 4, offset := 0, embedded := Bool.false, tag := "", pkgPath := "", byteOffset := 0 }, { name := "Proposer", type := 3, offset := 1, embedded := Bool.false, tag := "", pkgPath := "", byteOffset := 8 }, { name := "Acceptor", type := 3, offset := 2, embedded := Bool.false, tag := "", pkgPath := "", byteOffset := 16 }, { name := "Round", type := 3, offset := 3, embedded := Bool.false, tag := "", pkgPath := "", byteOffset := 24 }, { name := "Value", type := 61, offset := 4, embedded := Bool.false, tag := "", pkgPath := "", byteOffset := 32 }]), (Go.Value.agg #[Go.Value.bool Bool.false, Go.Value.int Go.IntKind.i64 0, Go.Value.int Go.IntKind.i64 0, Go.Value.int Go.IntKind.i64 0, Go.Value.slice Option.none 0 0]), 5, 56, false⟩
theorem ty62 : TyOk Tryd.prog 62 ti62 := ⟨Tryd.underlying62, by kernel_rfl, by kernel_rfl, by kernel_rfl, fun h => by cases h⟩
@[simp] def ti63 : TI := ⟨(Go.TypeDesc.struct #[{ name := "Reply", type := 4, offset := 0, embedded := Bool.false, tag := "", pkgPath := "", byteOffset := 0 }, { name := "Proposer", type := 3, offset := 1, embedded := Bool.false, tag := "", pkgPath := "", byteOffset := 8 }, { name := "Acceptor", type := 3, offset := 2, embedded := Bool.false, tag := "", pkgPath := "", byteOffset := 16 }, { name := "Round", type := 3, offset := 3, embedded := Bool.false, tag := "", pkgPath := "", byteOffset := 24 }, { name := "Value", type := 61, offset := 4, embedded := Bool.false, tag := "", pkgPath := "", byteOffset := 32 }]), (Go.Value.agg #[Go.Value.bool Bool.false, Go.Value.int Go.IntKind.i64 0, Go.Value.int Go.IntKind.i64 0, Go.Value.int Go.IntKind.i64 0, Go.Value.slice Option.none 0 0]), 5, 56, false⟩
theorem ty63 : TyOk Tryd.prog 63 ti63 := ⟨Tryd.underlying63, by kernel_rfl, by kernel_rfl, by kernel_rfl, fun h => by cases h⟩
@[simp] def ti65 : TI := ⟨(Go.TypeDesc.struct #[{ name := "Author", type := 3, offset := 0, embedded := Bool.false, tag := "", pkgPath := "", byteOffset := 0 }, { name := "Count", type := 3, offset := 1, embedded := Bool.false, tag := "", pkgPath := "", byteOffset := 8 }]), (Go.Value.agg #[Go.Value.int Go.IntKind.i64 0, Go.Value.int Go.IntKind.i64 0]), 2, 16, true⟩
theorem ty65 : TyOk Tryd.prog 65 ti65 := ⟨Tryd.underlying65, by kernel_rfl, by kernel_rfl, by kernel_rfl, fun _ => ⟨by kernel_rfl, by kernel_rfl⟩⟩
@[simp] def ti66 : TI := ⟨(Go.TypeDesc.struct #[{ name := "Author", type := 3, offset := 0, embedded := Bool.false, tag := "", pkgPath := "", byteOffset := 0 }, { name := "Count", type := 3, offset := 1, embedded := Bool.false, tag := "", pkgPath := "", byteOffset := 8 }]), (Go.Value.agg #[Go.Value.int Go.IntKind.i64 0, Go.Value.int Go.IntKind.i64 0]), 2, 16, true⟩
theorem ty66 : TyOk Tryd.prog 66 ti66 := ⟨Tryd.underlying66, by kernel_rfl, by kernel_rfl, by kernel_rfl, fun _ => ⟨by kernel_rfl, by kernel_rfl⟩⟩
@[simp] def ti70 : TI := ⟨(Go.TypeDesc.struct #[{ name := "state", type := 47, offset := 0, embedded := Bool.false, tag := "", pkgPath := "elasticstore/explore", byteOffset := 0 }, { name := "from", type := 3, offset := 9, embedded := Bool.false, tag := "", pkgPath := "elasticstore/explore", byteOffset := 168 }, { name := "action", type := 54, offset := 10, embedded := Bool.false, tag := "", pkgPath := "elasticstore/explore", byteOffset := 176 }, { name := "depth", type := 3, offset := 12, embedded := Bool.false, tag := "", pkgPath := "elasticstore/explore", byteOffset := 192 }]), (Go.Value.agg #[Go.Value.slice Option.none 0 0, Go.Value.slice Option.none 0 0, Go.Value.slice Option.none 0 0, Go.Value.slice Option.none 0 0, Go.Value.slice Option.none 0 0, Go.Value.slice Option.none 0 0, Go.Value.int Go.IntKind.i64 0, Go.Value.int Go.IntKind.i64 0, Go.Value.int Go.IntKind.i64 0, Go.Value.int Go.IntKind.i64 0, Go.Value.int Go.IntKind.i64 0, Go.Value.int Go.IntKind.i64 0, Go.Value.int Go.IntKind.i64 0]), 13, 200, false⟩
theorem ty70 : TyOk Tryd.prog 70 ti70 := ⟨Tryd.underlying70, by kernel_rfl, by kernel_rfl, by kernel_rfl, fun h => by cases h⟩
@[simp] def ti71 : TI := ⟨(Go.TypeDesc.struct #[{ name := "state", type := 47, offset := 0, embedded := Bool.false, tag := "", pkgPath := "elasticstore/explore", byteOffset := 0 }, { name := "from", type := 3, offset := 9, embedded := Bool.false, tag := "", pkgPath := "elasticstore/explore", byteOffset := 168 }, { name := "action", type := 54, offset := 10, embedded := Bool.false, tag := "", pkgPath := "elasticstore/explore", byteOffset := 176 }, { name := "depth", type := 3, offset := 12, embedded := Bool.false, tag := "", pkgPath := "elasticstore/explore", byteOffset := 192 }]), (Go.Value.agg #[Go.Value.slice Option.none 0 0, Go.Value.slice Option.none 0 0, Go.Value.slice Option.none 0 0, Go.Value.slice Option.none 0 0, Go.Value.slice Option.none 0 0, Go.Value.slice Option.none 0 0, Go.Value.int Go.IntKind.i64 0, Go.Value.int Go.IntKind.i64 0, Go.Value.int Go.IntKind.i64 0, Go.Value.int Go.IntKind.i64 0, Go.Value.int Go.IntKind.i64 0, Go.Value.int Go.IntKind.i64 0, Go.Value.int Go.IntKind.i64 0]), 13, 200, false⟩
theorem ty71 : TyOk Tryd.prog 71 ti71 := ⟨Tryd.underlying71, by kernel_rfl, by kernel_rfl, by kernel_rfl, fun h => by cases h⟩
@[simp] def ti72 : TI := ⟨(Go.TypeDesc.slice 71), (Go.Value.slice Option.none 0 0), 1, 24, false⟩
theorem ty72 : TyOk Tryd.prog 72 ti72 := ⟨Tryd.underlying72, by kernel_rfl, by kernel_rfl, by kernel_rfl, fun h => by cases h⟩
@[simp] def ti79 : TI := ⟨(Go.TypeDesc.struct #[{ name := "Value", type := 61, offset := 0, embedded := Bool.false, tag := "", pkgPath := "", byteOffset := 0 }]), (Go.Value.agg #[Go.Value.slice Option.none 0 0]), 1, 24, false⟩
theorem ty79 : TyOk Tryd.prog 79 ti79 := ⟨Tryd.underlying79, by kernel_rfl, by kernel_rfl, by kernel_rfl, fun h => by cases h⟩
@[simp] def ti80 : TI := ⟨(Go.TypeDesc.struct #[{ name := "Value", type := 61, offset := 0, embedded := Bool.false, tag := "", pkgPath := "", byteOffset := 0 }]), (Go.Value.agg #[Go.Value.slice Option.none 0 0]), 1, 24, false⟩
theorem ty80 : TyOk Tryd.prog 80 ti80 := ⟨Tryd.underlying80, by kernel_rfl, by kernel_rfl, by kernel_rfl, fun h => by cases h⟩
@[simp] def ti81 : TI := ⟨(Go.TypeDesc.struct #[{ name := "Proposer", type := 3, offset := 0, embedded := Bool.false, tag := "", pkgPath := "", byteOffset := 0 }, { name := "Input", type := 3, offset := 1, embedded := Bool.false, tag := "", pkgPath := "", byteOffset := 8 }, { name := "Value", type := 61, offset := 2, embedded := Bool.false, tag := "", pkgPath := "", byteOffset := 16 }, { name := "Step", type := 3, offset := 3, embedded := Bool.false, tag := "", pkgPath := "", byteOffset := 40 }]), (Go.Value.agg #[Go.Value.int Go.IntKind.i64 0, Go.Value.int Go.IntKind.i64 0, Go.Value.slice Option.none 0 0, Go.Value.int Go.IntKind.i64 0]), 4, 48, false⟩
theorem ty81 : TyOk Tryd.prog 81 ti81 := ⟨Tryd.underlying81, by kernel_rfl, by kernel_rfl, by kernel_rfl, fun h => by cases h⟩
@[simp] def ti82 : TI := ⟨(Go.TypeDesc.struct #[{ name := "Proposer", type := 3, offset := 0, embedded := Bool.false, tag := "", pkgPath := "", byteOffset := 0 }, { name := "Input", type := 3, offset := 1, embedded := Bool.false, tag := "", pkgPath := "", byteOffset := 8 }, { name := "Value", type := 61, offset := 2, embedded := Bool.false, tag := "", pkgPath := "", byteOffset := 16 }, { name := "Step", type := 3, offset := 3, embedded := Bool.false, tag := "", pkgPath := "", byteOffset := 40 }]), (Go.Value.agg #[Go.Value.int Go.IntKind.i64 0, Go.Value.int Go.IntKind.i64 0, Go.Value.slice Option.none 0 0, Go.Value.int Go.IntKind.i64 0]), 4, 48, false⟩
theorem ty82 : TyOk Tryd.prog 82 ti82 := ⟨Tryd.underlying82, by kernel_rfl, by kernel_rfl, by kernel_rfl, fun h => by cases h⟩
@[simp] def ti86 : TI := ⟨(Go.TypeDesc.int Go.IntKind.i64), (Go.Value.int Go.IntKind.i64 0), 1, 8, false⟩
theorem ty86 : TyOk Tryd.prog 86 ti86 := ⟨Tryd.underlying86, by kernel_rfl, by kernel_rfl, by kernel_rfl, fun h => by cases h⟩
@[simp] def ti94 : TI := ⟨(Go.TypeDesc.pointer 97), (Go.Value.pointer Option.none), 1, 8, false⟩
theorem ty94 : TyOk Tryd.prog 94 ti94 := ⟨Tryd.underlying94, by kernel_rfl, by kernel_rfl, by kernel_rfl, fun h => by cases h⟩
@[simp] def ti95 : TI := ⟨(Go.TypeDesc.slice 5), (Go.Value.slice Option.none 0 0), 1, 24, false⟩
theorem ty95 : TyOk Tryd.prog 95 ti95 := ⟨Tryd.underlying95, by kernel_rfl, by kernel_rfl, by kernel_rfl, fun h => by cases h⟩
@[simp] def ti96 : TI := ⟨(Go.TypeDesc.struct #[{ name := "b", type := 95, offset := 0, embedded := Bool.false, tag := "", pkgPath := "elasticstore/explore", byteOffset := 0 }]), (Go.Value.agg #[Go.Value.slice Option.none 0 0]), 1, 24, false⟩
theorem ty96 : TyOk Tryd.prog 96 ti96 := ⟨Tryd.underlying96, by kernel_rfl, by kernel_rfl, by kernel_rfl, fun h => by cases h⟩
@[simp] def ti97 : TI := ⟨(Go.TypeDesc.struct #[{ name := "b", type := 95, offset := 0, embedded := Bool.false, tag := "", pkgPath := "elasticstore/explore", byteOffset := 0 }]), (Go.Value.agg #[Go.Value.slice Option.none 0 0]), 1, 24, false⟩
theorem ty97 : TyOk Tryd.prog 97 ti97 := ⟨Tryd.underlying97, by kernel_rfl, by kernel_rfl, by kernel_rfl, fun h => by cases h⟩
@[simp] def ti100 : TI := ⟨(Go.TypeDesc.struct #[{ name := "Acceptors", type := 3, offset := 0, embedded := Bool.false, tag := "", pkgPath := "", byteOffset := 0 }, { name := "Value", type := 61, offset := 1, embedded := Bool.false, tag := "", pkgPath := "", byteOffset := 8 }, { name := "Round", type := 3, offset := 2, embedded := Bool.false, tag := "", pkgPath := "", byteOffset := 32 }, { name := "Acks", type := 38, offset := 3, embedded := Bool.false, tag := "", pkgPath := "", byteOffset := 40 }, { name := "Decided", type := 4, offset := 4, embedded := Bool.false, tag := "", pkgPath := "", byteOffset := 64 }]), (Go.Value.agg #[Go.Value.int Go.IntKind.i64 0, Go.Value.slice Option.none 0 0, Go.Value.int Go.IntKind.i64 0, Go.Value.slice Option.none 0 0, Go.Value.bool Bool.false]), 5, 72, false⟩
theorem ty100 : TyOk Tryd.prog 100 ti100 := ⟨Tryd.underlying100, by kernel_rfl, by kernel_rfl, by kernel_rfl, fun h => by cases h⟩
@[simp] def ti101 : TI := ⟨(Go.TypeDesc.struct #[{ name := "Acceptors", type := 3, offset := 0, embedded := Bool.false, tag := "", pkgPath := "", byteOffset := 0 }, { name := "Value", type := 61, offset := 1, embedded := Bool.false, tag := "", pkgPath := "", byteOffset := 8 }, { name := "Round", type := 3, offset := 2, embedded := Bool.false, tag := "", pkgPath := "", byteOffset := 32 }, { name := "Acks", type := 38, offset := 3, embedded := Bool.false, tag := "", pkgPath := "", byteOffset := 40 }, { name := "Decided", type := 4, offset := 4, embedded := Bool.false, tag := "", pkgPath := "", byteOffset := 64 }]), (Go.Value.agg #[Go.Value.int Go.IntKind.i64 0, Go.Value.slice Option.none 0 0, Go.Value.int Go.IntKind.i64 0, Go.Value.slice Option.none 0 0, Go.Value.bool Bool.false]), 5, 72, false⟩
theorem ty101 : TyOk Tryd.prog 101 ti101 := ⟨Tryd.underlying101, by kernel_rfl, by kernel_rfl, by kernel_rfl, fun h => by cases h⟩
@[simp] def ti106 : TI := ⟨(Go.TypeDesc.pointer 45), (Go.Value.pointer Option.none), 1, 8, false⟩
theorem ty106 : TyOk Tryd.prog 106 ti106 := ⟨Tryd.underlying106, by kernel_rfl, by kernel_rfl, by kernel_rfl, fun h => by cases h⟩
@[simp] def ti108 : TI := ⟨Go.TypeDesc.bool, (Go.Value.bool Bool.false), 1, 1, false⟩
theorem ty108 : TyOk Tryd.prog 108 ti108 := ⟨Tryd.underlying108, by kernel_rfl, by kernel_rfl, by kernel_rfl, fun h => by cases h⟩
@[simp] def ti125 : TI := ⟨(Go.TypeDesc.int Go.IntKind.i64), (Go.Value.int Go.IntKind.i64 0), 1, 8, false⟩
theorem ty125 : TyOk Tryd.prog 125 ti125 := ⟨Tryd.underlying125, by kernel_rfl, by kernel_rfl, by kernel_rfl, fun h => by cases h⟩
@[simp] def ti134 : TI := ⟨(Go.TypeDesc.slice 4), (Go.Value.slice Option.none 0 0), 1, 24, false⟩
theorem ty134 : TyOk Tryd.prog 134 ti134 := ⟨Tryd.underlying134, by kernel_rfl, by kernel_rfl, by kernel_rfl, fun h => by cases h⟩
@[simp] def ti143 : TI := ⟨(Go.TypeDesc.int Go.IntKind.u64), (Go.Value.int Go.IntKind.u64 0), 1, 8, false⟩
theorem ty143 : TyOk Tryd.prog 143 ti143 := ⟨Tryd.underlying143, by kernel_rfl, by kernel_rfl, by kernel_rfl, fun h => by cases h⟩
@[simp] def ti146 : TI := ⟨(Go.TypeDesc.int Go.IntKind.u64), (Go.Value.int Go.IntKind.u64 0), 1, 8, false⟩
theorem ty146 : TyOk Tryd.prog 146 ti146 := ⟨Tryd.underlying146, by kernel_rfl, by kernel_rfl, by kernel_rfl, fun h => by cases h⟩
@[simp] def ti150 : TI := ⟨(Go.TypeDesc.array 24 5), (Go.Value.agg #[Go.Value.int Go.IntKind.u8 0, Go.Value.int Go.IntKind.u8 0, Go.Value.int Go.IntKind.u8 0, Go.Value.int Go.IntKind.u8 0, Go.Value.int Go.IntKind.u8 0, Go.Value.int Go.IntKind.u8 0, Go.Value.int Go.IntKind.u8 0, Go.Value.int Go.IntKind.u8 0, Go.Value.int Go.IntKind.u8 0, Go.Value.int Go.IntKind.u8 0, Go.Value.int Go.IntKind.u8 0, Go.Value.int Go.IntKind.u8 0, Go.Value.int Go.IntKind.u8 0, Go.Value.int Go.IntKind.u8 0, Go.Value.int Go.IntKind.u8 0, Go.Value.int Go.IntKind.u8 0, Go.Value.int Go.IntKind.u8 0, Go.Value.int Go.IntKind.u8 0, Go.Value.int Go.IntKind.u8 0, Go.Value.int Go.IntKind.u8 0, Go.Value.int Go.IntKind.u8 0, Go.Value.int Go.IntKind.u8 0, Go.Value.int Go.IntKind.u8 0, Go.Value.int Go.IntKind.u8 0]), 24, 24, false⟩
theorem ty150 : TyOk Tryd.prog 150 ti150 := ⟨Tryd.underlying150, by kernel_rfl, by kernel_rfl, by kernel_rfl, fun h => by cases h⟩
@[simp] def ti156 : TI := ⟨(Go.TypeDesc.array 20 146), (Go.Value.agg #[Go.Value.int Go.IntKind.u64 0, Go.Value.int Go.IntKind.u64 0, Go.Value.int Go.IntKind.u64 0, Go.Value.int Go.IntKind.u64 0, Go.Value.int Go.IntKind.u64 0, Go.Value.int Go.IntKind.u64 0, Go.Value.int Go.IntKind.u64 0, Go.Value.int Go.IntKind.u64 0, Go.Value.int Go.IntKind.u64 0, Go.Value.int Go.IntKind.u64 0, Go.Value.int Go.IntKind.u64 0, Go.Value.int Go.IntKind.u64 0, Go.Value.int Go.IntKind.u64 0, Go.Value.int Go.IntKind.u64 0, Go.Value.int Go.IntKind.u64 0, Go.Value.int Go.IntKind.u64 0, Go.Value.int Go.IntKind.u64 0, Go.Value.int Go.IntKind.u64 0, Go.Value.int Go.IntKind.u64 0, Go.Value.int Go.IntKind.u64 0]), 20, 160, false⟩
theorem ty156 : TyOk Tryd.prog 156 ti156 := ⟨Tryd.underlying156, by kernel_rfl, by kernel_rfl, by kernel_rfl, fun h => by cases h⟩
@[simp] def ti157 : TI := ⟨(Go.TypeDesc.int Go.IntKind.u32), (Go.Value.int Go.IntKind.u32 0), 1, 4, false⟩
theorem ty157 : TyOk Tryd.prog 157 ti157 := ⟨Tryd.underlying157, by kernel_rfl, by kernel_rfl, by kernel_rfl, fun h => by cases h⟩
@[simp] def ti158 : TI := ⟨(Go.TypeDesc.array 65 5), (Go.Value.agg ([Go.Value.int Go.IntKind.u8 0, Go.Value.int Go.IntKind.u8 0, Go.Value.int Go.IntKind.u8 0, Go.Value.int Go.IntKind.u8 0, Go.Value.int Go.IntKind.u8 0, Go.Value.int Go.IntKind.u8 0, Go.Value.int Go.IntKind.u8 0, Go.Value.int Go.IntKind.u8 0, Go.Value.int Go.IntKind.u8 0, Go.Value.int Go.IntKind.u8 0, Go.Value.int Go.IntKind.u8 0, Go.Value.int Go.IntKind.u8 0, Go.Value.int Go.IntKind.u8 0, Go.Value.int Go.IntKind.u8 0, Go.Value.int Go.IntKind.u8 0, Go.Value.int Go.IntKind.u8 0, Go.Value.int Go.IntKind.u8 0, Go.Value.int Go.IntKind.u8 0, Go.Value.int Go.IntKind.u8 0, Go.Value.int Go.IntKind.u8 0, Go.Value.int Go.IntKind.u8 0, Go.Value.int Go.IntKind.u8 0, Go.Value.int Go.IntKind.u8 0, Go.Value.int Go.IntKind.u8 0, Go.Value.int Go.IntKind.u8 0, Go.Value.int Go.IntKind.u8 0, Go.Value.int Go.IntKind.u8 0, Go.Value.int Go.IntKind.u8 0, Go.Value.int Go.IntKind.u8 0, Go.Value.int Go.IntKind.u8 0, Go.Value.int Go.IntKind.u8 0, Go.Value.int Go.IntKind.u8 0].append [Go.Value.int Go.IntKind.u8 0, Go.Value.int Go.IntKind.u8 0, Go.Value.int Go.IntKind.u8 0, Go.Value.int Go.IntKind.u8 0, Go.Value.int Go.IntKind.u8 0, Go.Value.int Go.IntKind.u8 0, Go.Value.int Go.IntKind.u8 0, Go.Value.int Go.IntKind.u8 0, Go.Value.int Go.IntKind.u8 0, Go.Value.int Go.IntKind.u8 0, Go.Value.int Go.IntKind.u8 0, Go.Value.int Go.IntKind.u8 0, Go.Value.int Go.IntKind.u8 0, Go.Value.int Go.IntKind.u8 0, Go.Value.int Go.IntKind.u8 0, Go.Value.int Go.IntKind.u8 0, Go.Value.int Go.IntKind.u8 0, Go.Value.int Go.IntKind.u8 0, Go.Value.int Go.IntKind.u8 0, Go.Value.int Go.IntKind.u8 0, Go.Value.int Go.IntKind.u8 0, Go.Value.int Go.IntKind.u8 0, Go.Value.int Go.IntKind.u8 0, Go.Value.int Go.IntKind.u8 0, Go.Value.int Go.IntKind.u8 0, Go.Value.int Go.IntKind.u8 0, Go.Value.int Go.IntKind.u8 0, Go.Value.int Go.IntKind.u8 0, Go.Value.int Go.IntKind.u8 0, Go.Value.int Go.IntKind.u8 0, Go.Value.int Go.IntKind.u8 0, Go.Value.int Go.IntKind.u8 0, Go.Value.int Go.IntKind.u8 0]).toArray), 65, 65, false⟩
theorem ty158 : TyOk Tryd.prog 158 ti158 := ⟨Tryd.underlying158, by kernel_rfl, by kernel_rfl, by kernel_rfl, fun h => by cases h⟩
@[simp] def ti161 : TI := ⟨(Go.TypeDesc.array 32 5), (Go.Value.agg #[Go.Value.int Go.IntKind.u8 0, Go.Value.int Go.IntKind.u8 0, Go.Value.int Go.IntKind.u8 0, Go.Value.int Go.IntKind.u8 0, Go.Value.int Go.IntKind.u8 0, Go.Value.int Go.IntKind.u8 0, Go.Value.int Go.IntKind.u8 0, Go.Value.int Go.IntKind.u8 0, Go.Value.int Go.IntKind.u8 0, Go.Value.int Go.IntKind.u8 0, Go.Value.int Go.IntKind.u8 0, Go.Value.int Go.IntKind.u8 0, Go.Value.int Go.IntKind.u8 0, Go.Value.int Go.IntKind.u8 0, Go.Value.int Go.IntKind.u8 0, Go.Value.int Go.IntKind.u8 0, Go.Value.int Go.IntKind.u8 0, Go.Value.int Go.IntKind.u8 0, Go.Value.int Go.IntKind.u8 0, Go.Value.int Go.IntKind.u8 0, Go.Value.int Go.IntKind.u8 0, Go.Value.int Go.IntKind.u8 0, Go.Value.int Go.IntKind.u8 0, Go.Value.int Go.IntKind.u8 0, Go.Value.int Go.IntKind.u8 0, Go.Value.int Go.IntKind.u8 0, Go.Value.int Go.IntKind.u8 0, Go.Value.int Go.IntKind.u8 0, Go.Value.int Go.IntKind.u8 0, Go.Value.int Go.IntKind.u8 0, Go.Value.int Go.IntKind.u8 0, Go.Value.int Go.IntKind.u8 0]), 32, 32, false⟩
theorem ty161 : TyOk Tryd.prog 161 ti161 := ⟨Tryd.underlying161, by kernel_rfl, by kernel_rfl, by kernel_rfl, fun h => by cases h⟩
@[simp] def ti164 : TI := ⟨(Go.TypeDesc.struct #[{ name := "_interface", type := 17, offset := 0, embedded := Bool.false, tag := "", pkgPath := "runtime", byteOffset := 0 }, { name := "concrete", type := 17, offset := 1, embedded := Bool.false, tag := "", pkgPath := "runtime", byteOffset := 8 }, { name := "asserted", type := 17, offset := 2, embedded := Bool.false, tag := "", pkgPath := "runtime", byteOffset := 16 }, { name := "missingMethod", type := 9, offset := 3, embedded := Bool.false, tag := "", pkgPath := "runtime", byteOffset := 24 }]), (Go.Value.agg #[Go.Value.pointer Option.none, Go.Value.pointer Option.none, Go.Value.pointer Option.none, Go.Value.string { data := #[] }]), 4, 40, false⟩
theorem ty164 : TyOk Tryd.prog 164 ti164 := ⟨Tryd.underlying164, by kernel_rfl, by kernel_rfl, by kernel_rfl, fun h => by cases h⟩
@[simp] def ti165 : TI := ⟨(Go.TypeDesc.struct #[{ name := "_interface", type := 17, offset := 0, embedded := Bool.false, tag := "", pkgPath := "runtime", byteOffset := 0 }, { name := "concrete", type := 17, offset := 1, embedded := Bool.false, tag := "", pkgPath := "runtime", byteOffset := 8 }, { name := "asserted", type := 17, offset := 2, embedded := Bool.false, tag := "", pkgPath := "runtime", byteOffset := 16 }, { name := "missingMethod", type := 9, offset := 3, embedded := Bool.false, tag := "", pkgPath := "runtime", byteOffset := 24 }]), (Go.Value.agg #[Go.Value.pointer Option.none, Go.Value.pointer Option.none, Go.Value.pointer Option.none, Go.Value.string { data := #[] }]), 4, 40, false⟩
theorem ty165 : TyOk Tryd.prog 165 ti165 := ⟨Tryd.underlying165, by kernel_rfl, by kernel_rfl, by kernel_rfl, fun h => by cases h⟩
@[simp] def ti166 : TI := ⟨(Go.TypeDesc.array 0 16), (Go.Value.agg #[]), 0, 0, false⟩
theorem ty166 : TyOk Tryd.prog 166 ti166 := ⟨Tryd.underlying166, by kernel_rfl, by kernel_rfl, by kernel_rfl, fun h => by cases h⟩
@[simp] def ti167 : TI := ⟨(Go.TypeDesc.struct #[{ name := "_", type := 166, offset := 0, embedded := Bool.false, tag := "", pkgPath := "runtime", byteOffset := 0 }]), (Go.Value.agg #[]), 0, 0, false⟩
theorem ty167 : TyOk Tryd.prog 167 ti167 := ⟨Tryd.underlying167, by kernel_rfl, by kernel_rfl, by kernel_rfl, fun h => by cases h⟩
@[simp] def ti168 : TI := ⟨(Go.TypeDesc.struct #[{ name := "_", type := 166, offset := 0, embedded := Bool.false, tag := "", pkgPath := "runtime", byteOffset := 0 }]), (Go.Value.agg #[]), 0, 0, false⟩
theorem ty168 : TyOk Tryd.prog 168 ti168 := ⟨Tryd.underlying168, by kernel_rfl, by kernel_rfl, by kernel_rfl, fun h => by cases h⟩
@[simp] def ti170 : TI := ⟨(Go.TypeDesc.int Go.IntKind.u8), (Go.Value.int Go.IntKind.u8 0), 1, 1, false⟩
theorem ty170 : TyOk Tryd.prog 170 ti170 := ⟨Tryd.underlying170, by kernel_rfl, by kernel_rfl, by kernel_rfl, fun h => by cases h⟩
@[simp] def ti171 : TI := ⟨(Go.TypeDesc.int Go.IntKind.u8), (Go.Value.int Go.IntKind.u8 0), 1, 1, false⟩
theorem ty171 : TyOk Tryd.prog 171 ti171 := ⟨Tryd.underlying171, by kernel_rfl, by kernel_rfl, by kernel_rfl, fun h => by cases h⟩
@[simp] def ti173 : TI := ⟨(Go.TypeDesc.pointer 5), (Go.Value.pointer Option.none), 1, 8, false⟩
theorem ty173 : TyOk Tryd.prog 173 ti173 := ⟨Tryd.underlying173, by kernel_rfl, by kernel_rfl, by kernel_rfl, fun h => by cases h⟩
@[simp] def ti174 : TI := ⟨(Go.TypeDesc.int Go.IntKind.i32), (Go.Value.int Go.IntKind.i32 0), 1, 4, false⟩
theorem ty174 : TyOk Tryd.prog 174 ti174 := ⟨Tryd.underlying174, by kernel_rfl, by kernel_rfl, by kernel_rfl, fun h => by cases h⟩
@[simp] def ti175 : TI := ⟨(Go.TypeDesc.int Go.IntKind.i32), (Go.Value.int Go.IntKind.i32 0), 1, 4, false⟩
theorem ty175 : TyOk Tryd.prog 175 ti175 := ⟨Tryd.underlying175, by kernel_rfl, by kernel_rfl, by kernel_rfl, fun h => by cases h⟩
@[simp] def ti176 : TI := ⟨(Go.TypeDesc.struct #[{ name := "Size_", type := 12, offset := 0, embedded := Bool.false, tag := "", pkgPath := "", byteOffset := 0 }, { name := "PtrBytes", type := 12, offset := 1, embedded := Bool.false, tag := "", pkgPath := "", byteOffset := 8 }, { name := "Hash", type := 157, offset := 2, embedded := Bool.false, tag := "", pkgPath := "", byteOffset := 16 }, { name := "TFlag", type := 170, offset := 3, embedded := Bool.false, tag := "", pkgPath := "", byteOffset := 20 }, { name := "Align_", type := 5, offset := 4, embedded := Bool.false, tag := "", pkgPath := "", byteOffset := 21 }, { name := "FieldAlign_", type := 5, offset := 5, embedded := Bool.false, tag := "", pkgPath := "", byteOffset := 22 }, { name := "Kind_", type := 171, offset := 6, embedded := Bool.false, tag := "", pkgPath := "", byteOffset := 23 }, { name := "Equal", type := 172, offset := 7, embedded := Bool.false, tag := "", pkgPath := "", byteOffset := 24 }, { name := "GCData", type := 173, offset := 8, embedded := Bool.false, tag := "", pkgPath := "", byteOffset := 32 }, { name := "Str", type := 174, offset := 9, embedded := Bool.false, tag := "", pkgPath := "", byteOffset := 40 }, { name := "PtrToThis", type := 175, offset := 10, embedded := Bool.false, tag := "", pkgPath := "", byteOffset := 44 }]), (Go.Value.agg #[Go.Value.int Go.IntKind.u64 0, Go.Value.int Go.IntKind.u64 0, Go.Value.int Go.IntKind.u32 0, Go.Value.int Go.IntKind.u8 0, Go.Value.int Go.IntKind.u8 0, Go.Value.int Go.IntKind.u8 0, Go.Value.int Go.IntKind.u8 0, Go.Value.nilFunc, Go.Value.pointer Option.none, Go.Value.int Go.IntKind.i32 0, Go.Value.int Go.IntKind.i32 0]), 11, 48, false⟩
theorem ty176 : TyOk Tryd.prog 176 ti176 := ⟨Tryd.underlying176, by kernel_rfl, by kernel_rfl, by kernel_rfl, fun h => by cases h⟩
@[simp] def ti177 : TI := ⟨(Go.TypeDesc.struct #[{ name := "Size_", type := 12, offset := 0, embedded := Bool.false, tag := "", pkgPath := "", byteOffset := 0 }, { name := "PtrBytes", type := 12, offset := 1, embedded := Bool.false, tag := "", pkgPath := "", byteOffset := 8 }, { name := "Hash", type := 157, offset := 2, embedded := Bool.false, tag := "", pkgPath := "", byteOffset := 16 }, { name := "TFlag", type := 170, offset := 3, embedded := Bool.false, tag := "", pkgPath := "", byteOffset := 20 }, { name := "Align_", type := 5, offset := 4, embedded := Bool.false, tag := "", pkgPath := "", byteOffset := 21 }, { name := "FieldAlign_", type := 5, offset := 5, embedded := Bool.false, tag := "", pkgPath := "", byteOffset := 22 }, { name := "Kind_", type := 171, offset := 6, embedded := Bool.false, tag := "", pkgPath := "", byteOffset := 23 }, { name := "Equal", type := 172, offset := 7, embedded := Bool.false, tag := "", pkgPath := "", byteOffset := 24 }, { name := "GCData", type := 173, offset := 8, embedded := Bool.false, tag := "", pkgPath := "", byteOffset := 32 }, { name := "Str", type := 174, offset := 9, embedded := Bool.false, tag := "", pkgPath := "", byteOffset := 40 }, { name := "PtrToThis", type := 175, offset := 10, embedded := Bool.false, tag := "", pkgPath := "", byteOffset := 44 }]), (Go.Value.agg #[Go.Value.int Go.IntKind.u64 0, Go.Value.int Go.IntKind.u64 0, Go.Value.int Go.IntKind.u32 0, Go.Value.int Go.IntKind.u8 0, Go.Value.int Go.IntKind.u8 0, Go.Value.int Go.IntKind.u8 0, Go.Value.int Go.IntKind.u8 0, Go.Value.nilFunc, Go.Value.pointer Option.none, Go.Value.int Go.IntKind.i32 0, Go.Value.int Go.IntKind.i32 0]), 11, 48, false⟩
theorem ty177 : TyOk Tryd.prog 177 ti177 := ⟨Tryd.underlying177, by kernel_rfl, by kernel_rfl, by kernel_rfl, fun h => by cases h⟩
def TE : TyEnv := [(2, ti2), (3, ti3), (4, ti4), (5, ti5), (6, ti6), (7, ti7), (8, ti8), (9, ti9), (10, ti10), (11, ti11), (12, ti12), (13, ti13), (14, ti14), (15, ti15), (16, ti16), (17, ti17), (18, ti18), (19, ti19), (20, ti20), (21, ti21), (22, ti22), (23, ti23), (24, ti24), (26, ti26), (27, ti27), (29, ti29), (32, ti32), (33, ti33), (34, ti34), (38, ti38), (40, ti40), (41, ti41), (42, ti42), (43, ti43), (44, ti44), (45, ti45), (46, ti46), (47, ti47), (53, ti53), (54, ti54), (60, ti60), (61, ti61), (62, ti62), (63, ti63), (65, ti65), (66, ti66), (70, ti70), (71, ti71), (72, ti72), (79, ti79), (80, ti80), (81, ti81), (82, ti82), (86, ti86), (94, ti94), (95, ti95), (96, ti96), (97, ti97), (100, ti100), (101, ti101), (106, ti106), (108, ti108), (125, ti125), (134, ti134), (143, ti143), (146, ti146), (150, ti150), (156, ti156), (157, ti157), (158, ti158), (161, ti161), (164, ti164), (165, ti165), (166, ti166), (167, ti167), (168, ti168), (170, ti170), (171, ti171), (173, ti173), (174, ti174), (175, ti175), (176, ti176), (177, ti177)]
theorem teOk : TOk Tryd.prog TE := .cons ty2 (.cons ty3 (.cons ty4 (.cons ty5 (.cons ty6 (.cons ty7 (.cons ty8 (.cons ty9 (.cons ty10 (.cons ty11 (.cons ty12 (.cons ty13 (.cons ty14 (.cons ty15 (.cons ty16 (.cons ty17 (.cons ty18 (.cons ty19 (.cons ty20 (.cons ty21 (.cons ty22 (.cons ty23 (.cons ty24 (.cons ty26 (.cons ty27 (.cons ty29 (.cons ty32 (.cons ty33 (.cons ty34 (.cons ty38 (.cons ty40 (.cons ty41 (.cons ty42 (.cons ty43 (.cons ty44 (.cons ty45 (.cons ty46 (.cons ty47 (.cons ty53 (.cons ty54 (.cons ty60 (.cons ty61 (.cons ty62 (.cons ty63 (.cons ty65 (.cons ty66 (.cons ty70 (.cons ty71 (.cons ty72 (.cons ty79 (.cons ty80 (.cons ty81 (.cons ty82 (.cons ty86 (.cons ty94 (.cons ty95 (.cons ty96 (.cons ty97 (.cons ty100 (.cons ty101 (.cons ty106 (.cons ty108 (.cons ty125 (.cons ty134 (.cons ty143 (.cons ty146 (.cons ty150 (.cons ty156 (.cons ty157 (.cons ty158 (.cons ty161 (.cons ty164 (.cons ty165 (.cons ty166 (.cons ty167 (.cons ty168 (.cons ty170 (.cons ty171 (.cons ty173 (.cons ty174 (.cons ty175 (.cons ty176 (.cons ty177 (.nil _)))))))))))))))))))))))))))))))))))))))))))))))))))))))))))))))))))))))))))))))))))
@[simp] theorem lk2 : look 2 TE = some ti2 := rfl
@[simp] theorem lk3 : look 3 TE = some ti3 := rfl
@[simp] theorem lk4 : look 4 TE = some ti4 := rfl
@[simp] theorem lk5 : look 5 TE = some ti5 := rfl
@[simp] theorem lk6 : look 6 TE = some ti6 := rfl
@[simp] theorem lk7 : look 7 TE = some ti7 := rfl
@[simp] theorem lk8 : look 8 TE = some ti8 := rfl
@[simp] theorem lk9 : look 9 TE = some ti9 := rfl
@[simp] theorem lk10 : look 10 TE = some ti10 := rfl
@[simp] theorem lk11 : look 11 TE = some ti11 := rfl
@[simp] theorem lk12 : look 12 TE = some ti12 := rfl
@[simp] theorem lk13 : look 13 TE = some ti13 := rfl
@[simp] theorem lk14 : look 14 TE = some ti14 := rfl
@[simp] theorem lk15 : look 15 TE = some ti15 := rfl
@[simp] theorem lk16 : look 16 TE = some ti16 := rfl
@[simp] theorem lk17 : look 17 TE = some ti17 := rfl
@[simp] theorem lk18 : look 18 TE = some ti18 := rfl
@[simp] theorem lk19 : look 19 TE = some ti19 := rfl
@[simp] theorem lk20 : look 20 TE = some ti20 := rfl
@[simp] theorem lk21 : look 21 TE = some ti21 := rfl
@[simp] theorem lk22 : look 22 TE = some ti22 := rfl
@[simp] theorem lk23 : look 23 TE = some ti23 := rfl
@[simp] theorem lk24 : look 24 TE = some ti24 := rfl
@[simp] theorem lk26 : look 26 TE = some ti26 := rfl
@[simp] theorem lk27 : look 27 TE = some ti27 := rfl
@[simp] theorem lk29 : look 29 TE = some ti29 := rfl
@[simp] theorem lk32 : look 32 TE = some ti32 := rfl
@[simp] theorem lk33 : look 33 TE = some ti33 := rfl
@[simp] theorem lk34 : look 34 TE = some ti34 := rfl
@[simp] theorem lk38 : look 38 TE = some ti38 := rfl
@[simp] theorem lk40 : look 40 TE = some ti40 := rfl
@[simp] theorem lk41 : look 41 TE = some ti41 := rfl
@[simp] theorem lk42 : look 42 TE = some ti42 := rfl
@[simp] theorem lk43 : look 43 TE = some ti43 := rfl
@[simp] theorem lk44 : look 44 TE = some ti44 := rfl
@[simp] theorem lk45 : look 45 TE = some ti45 := rfl
@[simp] theorem lk46 : look 46 TE = some ti46 := rfl
@[simp] theorem lk47 : look 47 TE = some ti47 := rfl
@[simp] theorem lk53 : look 53 TE = some ti53 := rfl
@[simp] theorem lk54 : look 54 TE = some ti54 := rfl
@[simp] theorem lk60 : look 60 TE = some ti60 := rfl
@[simp] theorem lk61 : look 61 TE = some ti61 := rfl
@[simp] theorem lk62 : look 62 TE = some ti62 := rfl
@[simp] theorem lk63 : look 63 TE = some ti63 := rfl
@[simp] theorem lk65 : look 65 TE = some ti65 := rfl
@[simp] theorem lk66 : look 66 TE = some ti66 := rfl
@[simp] theorem lk70 : look 70 TE = some ti70 := rfl
@[simp] theorem lk71 : look 71 TE = some ti71 := rfl
@[simp] theorem lk72 : look 72 TE = some ti72 := rfl
@[simp] theorem lk79 : look 79 TE = some ti79 := rfl
@[simp] theorem lk80 : look 80 TE = some ti80 := rfl
@[simp] theorem lk81 : look 81 TE = some ti81 := rfl
@[simp] theorem lk82 : look 82 TE = some ti82 := rfl
@[simp] theorem lk86 : look 86 TE = some ti86 := rfl
@[simp] theorem lk94 : look 94 TE = some ti94 := rfl
@[simp] theorem lk95 : look 95 TE = some ti95 := rfl
@[simp] theorem lk96 : look 96 TE = some ti96 := rfl
@[simp] theorem lk97 : look 97 TE = some ti97 := rfl
@[simp] theorem lk100 : look 100 TE = some ti100 := rfl
@[simp] theorem lk101 : look 101 TE = some ti101 := rfl
@[simp] theorem lk106 : look 106 TE = some ti106 := rfl
@[simp] theorem lk108 : look 108 TE = some ti108 := rfl
@[simp] theorem lk125 : look 125 TE = some ti125 := rfl
@[simp] theorem lk134 : look 134 TE = some ti134 := rfl
@[simp] theorem lk143 : look 143 TE = some ti143 := rfl
@[simp] theorem lk146 : look 146 TE = some ti146 := rfl
@[simp] theorem lk150 : look 150 TE = some ti150 := rfl
@[simp] theorem lk156 : look 156 TE = some ti156 := rfl
@[simp] theorem lk157 : look 157 TE = some ti157 := rfl
@[simp] theorem lk158 : look 158 TE = some ti158 := rfl
@[simp] theorem lk161 : look 161 TE = some ti161 := rfl
@[simp] theorem lk164 : look 164 TE = some ti164 := rfl
@[simp] theorem lk165 : look 165 TE = some ti165 := rfl
@[simp] theorem lk166 : look 166 TE = some ti166 := rfl
@[simp] theorem lk167 : look 167 TE = some ti167 := rfl
@[simp] theorem lk168 : look 168 TE = some ti168 := rfl
@[simp] theorem lk170 : look 170 TE = some ti170 := rfl
@[simp] theorem lk171 : look 171 TE = some ti171 := rfl
@[simp] theorem lk173 : look 173 TE = some ti173 := rfl
@[simp] theorem lk174 : look 174 TE = some ti174 := rfl
@[simp] theorem lk175 : look 175 TE = some ti175 := rfl
@[simp] theorem lk176 : look 176 TE = some ti176 := rfl
@[simp] theorem lk177 : look 177 TE = some ti177 := rfl
end Go.Proofs.YtphlhadgcfndhaaDoor.Abs
