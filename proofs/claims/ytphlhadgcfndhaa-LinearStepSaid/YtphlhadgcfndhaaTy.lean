/- The types of the program, as the tables of them. Written by tygen.py. -/
import Derived.Test.YtphlhadgcfndhaaAbs20
import Derived.Test.YtphlhadgcfndhaaProg
import Derived.KernelRfl
namespace Go.Proofs.Ytphlhadgcfndhaa.Abs
open Go Go.RowKit
@[simp] def ti2 : TI := ⟨(Go.TypeDesc.int Go.IntKind.i64), (Go.Value.int Go.IntKind.i64 0), 1, 8, false⟩
theorem ty2 : TyOk Try.prog 2 ti2 := ⟨Try.underlying2, by kernel_rfl, by kernel_rfl, by kernel_rfl, fun h => by cases h⟩
@[simp] def ti3 : TI := ⟨(Go.TypeDesc.int Go.IntKind.i64), (Go.Value.int Go.IntKind.i64 0), 1, 8, false⟩
theorem ty3 : TyOk Try.prog 3 ti3 := ⟨Try.underlying3, by kernel_rfl, by kernel_rfl, by kernel_rfl, fun h => by cases h⟩
@[simp] def ti4 : TI := ⟨Go.TypeDesc.bool, (Go.Value.bool Bool.false), 1, 1, false⟩
theorem ty4 : TyOk Try.prog 4 ti4 := ⟨Try.underlying4, by kernel_rfl, by kernel_rfl, by kernel_rfl, fun h => by cases h⟩
@[simp] def ti5 : TI := ⟨(Go.TypeDesc.int Go.IntKind.u8), (Go.Value.int Go.IntKind.u8 0), 1, 1, false⟩
theorem ty5 : TyOk Try.prog 5 ti5 := ⟨Try.underlying5, by kernel_rfl, by kernel_rfl, by kernel_rfl, fun h => by cases h⟩
@[simp] def ti6 : TI := ⟨(Go.TypeDesc.int Go.IntKind.u8), (Go.Value.int Go.IntKind.u8 0), 1, 1, false⟩
theorem ty6 : TyOk Try.prog 6 ti6 := ⟨Try.underlying6, by kernel_rfl, by kernel_rfl, by kernel_rfl, fun h => by cases h⟩
@[simp] def ti7 : TI := ⟨(Go.TypeDesc.struct #[{ name := "x", type := 2, offset := 0, embedded := Bool.false, tag := "", pkgPath := "runtime", byteOffset := 0 }, { name := "y", type := 3, offset := 1, embedded := Bool.false, tag := "", pkgPath := "runtime", byteOffset := 8 }, { name := "signed", type := 4, offset := 2, embedded := Bool.false, tag := "", pkgPath := "runtime", byteOffset := 16 }, { name := "code", type := 6, offset := 3, embedded := Bool.false, tag := "", pkgPath := "runtime", byteOffset := 17 }]), (Go.Value.agg #[Go.Value.int Go.IntKind.i64 0, Go.Value.int Go.IntKind.i64 0, Go.Value.bool Bool.false, Go.Value.int Go.IntKind.u8 0]), 4, 24, false⟩
theorem ty7 : TyOk Try.prog 7 ti7 := ⟨Try.underlying7, by kernel_rfl, by kernel_rfl, by kernel_rfl, fun h => by cases h⟩
@[simp] def ti8 : TI := ⟨(Go.TypeDesc.struct #[{ name := "x", type := 2, offset := 0, embedded := Bool.false, tag := "", pkgPath := "runtime", byteOffset := 0 }, { name := "y", type := 3, offset := 1, embedded := Bool.false, tag := "", pkgPath := "runtime", byteOffset := 8 }, { name := "signed", type := 4, offset := 2, embedded := Bool.false, tag := "", pkgPath := "runtime", byteOffset := 16 }, { name := "code", type := 6, offset := 3, embedded := Bool.false, tag := "", pkgPath := "runtime", byteOffset := 17 }]), (Go.Value.agg #[Go.Value.int Go.IntKind.i64 0, Go.Value.int Go.IntKind.i64 0, Go.Value.bool Bool.false, Go.Value.int Go.IntKind.u8 0]), 4, 24, false⟩
theorem ty8 : TyOk Try.prog 8 ti8 := ⟨Try.underlying8, by kernel_rfl, by kernel_rfl, by kernel_rfl, fun h => by cases h⟩
@[simp] def ti9 : TI := ⟨Go.TypeDesc.string, (Go.Value.string { data := #[] }), 1, 16, false⟩
theorem ty9 : TyOk Try.prog 9 ti9 := ⟨Try.underlying9, by kernel_rfl, by kernel_rfl, by kernel_rfl, fun h => by cases h⟩
@[simp] def ti10 : TI := ⟨Go.TypeDesc.string, (Go.Value.string { data := #[] }), 1, 16, false⟩
theorem ty10 : TyOk Try.prog 10 ti10 := ⟨Try.underlying10, by kernel_rfl, by kernel_rfl, by kernel_rfl, fun h => by cases h⟩
@[simp] def ti11 : TI := ⟨Go.TypeDesc.string, (Go.Value.string { data := #[] }), 1, 16, false⟩
theorem ty11 : TyOk Try.prog 11 ti11 := ⟨Try.underlying11, by kernel_rfl, by kernel_rfl, by kernel_rfl, fun h => by cases h⟩
@[simp] def ti12 : TI := ⟨(Go.TypeDesc.int Go.IntKind.u64), (Go.Value.int Go.IntKind.u64 0), 1, 8, false⟩
theorem ty12 : TyOk Try.prog 12 ti12 := ⟨Try.underlying12, by kernel_rfl, by kernel_rfl, by kernel_rfl, fun h => by cases h⟩
@[simp] def ti13 : TI := ⟨(Go.TypeDesc.struct #[{ name := "msg", type := 9, offset := 0, embedded := Bool.false, tag := "", pkgPath := "runtime", byteOffset := 0 }, { name := "addr", type := 12, offset := 1, embedded := Bool.false, tag := "", pkgPath := "runtime", byteOffset := 16 }]), (Go.Value.agg #[Go.Value.string { data := #[] }, Go.Value.int Go.IntKind.u64 0]), 2, 24, false⟩
theorem ty13 : TyOk Try.prog 13 ti13 := ⟨Try.underlying13, by kernel_rfl, by kernel_rfl, by kernel_rfl, fun h => by cases h⟩
@[simp] def ti14 : TI := ⟨(Go.TypeDesc.struct #[{ name := "msg", type := 9, offset := 0, embedded := Bool.false, tag := "", pkgPath := "runtime", byteOffset := 0 }, { name := "addr", type := 12, offset := 1, embedded := Bool.false, tag := "", pkgPath := "runtime", byteOffset := 16 }]), (Go.Value.agg #[Go.Value.string { data := #[] }, Go.Value.int Go.IntKind.u64 0]), 2, 24, false⟩
theorem ty14 : TyOk Try.prog 14 ti14 := ⟨Try.underlying14, by kernel_rfl, by kernel_rfl, by kernel_rfl, fun h => by cases h⟩
@[simp] def ti15 : TI := ⟨(Go.TypeDesc.pointer 139), (Go.Value.pointer Option.none), 1, 8, false⟩
theorem ty15 : TyOk Try.prog 15 ti15 := ⟨Try.underlying15, by kernel_rfl, by kernel_rfl, by kernel_rfl, fun h => by cases h⟩
@[simp] def ti16 : TI := ⟨(Go.TypeDesc.pointer 142), (Go.Value.pointer Option.none), 1, 8, false⟩
theorem ty16 : TyOk Try.prog 16 ti16 := ⟨Try.underlying16, by kernel_rfl, by kernel_rfl, by kernel_rfl, fun h => by cases h⟩
@[simp] def ti17 : TI := ⟨(Go.TypeDesc.pointer 152), (Go.Value.pointer Option.none), 1, 8, false⟩
theorem ty17 : TyOk Try.prog 17 ti17 := ⟨Try.underlying17, by kernel_rfl, by kernel_rfl, by kernel_rfl, fun h => by cases h⟩
@[simp] def ti18 : TI := ⟨(Go.TypeDesc.struct #[{ name := "typ", type := 17, offset := 0, embedded := Bool.false, tag := "", pkgPath := "internal/runtime/maps", byteOffset := 0 }]), (Go.Value.agg #[Go.Value.pointer Option.none]), 1, 8, false⟩
theorem ty18 : TyOk Try.prog 18 ti18 := ⟨Try.underlying18, by kernel_rfl, by kernel_rfl, by kernel_rfl, fun h => by cases h⟩
@[simp] def ti19 : TI := ⟨(Go.TypeDesc.struct #[{ name := "typ", type := 17, offset := 0, embedded := Bool.false, tag := "", pkgPath := "internal/runtime/maps", byteOffset := 0 }]), (Go.Value.agg #[Go.Value.pointer Option.none]), 1, 8, false⟩
theorem ty19 : TyOk Try.prog 19 ti19 := ⟨Try.underlying19, by kernel_rfl, by kernel_rfl, by kernel_rfl, fun h => by cases h⟩
@[simp] def ti20 : TI := ⟨(Go.TypeDesc.interface #[]), Go.Value.nilIface, 1, 16, false⟩
theorem ty20 : TyOk Try.prog 20 ti20 := ⟨Try.underlying20, by kernel_rfl, by kernel_rfl, by kernel_rfl, fun h => by cases h⟩
@[simp] def ti21 : TI := ⟨(Go.TypeDesc.int Go.IntKind.i32), (Go.Value.int Go.IntKind.i32 0), 1, 4, false⟩
theorem ty21 : TyOk Try.prog 21 ti21 := ⟨Try.underlying21, by kernel_rfl, by kernel_rfl, by kernel_rfl, fun h => by cases h⟩
@[simp] def ti22 : TI := ⟨(Go.TypeDesc.slice 3), (Go.Value.slice Option.none 0 0), 1, 24, false⟩
theorem ty22 : TyOk Try.prog 22 ti22 := ⟨Try.underlying22, by kernel_rfl, by kernel_rfl, by kernel_rfl, fun h => by cases h⟩
@[simp] def ti23 : TI := ⟨(Go.TypeDesc.slice 29), (Go.Value.slice Option.none 0 0), 1, 24, false⟩
theorem ty23 : TyOk Try.prog 23 ti23 := ⟨Try.underlying23, by kernel_rfl, by kernel_rfl, by kernel_rfl, fun h => by cases h⟩
@[simp] def ti24 : TI := ⟨(Go.TypeDesc.slice 46), (Go.Value.slice Option.none 0 0), 1, 24, false⟩
theorem ty24 : TyOk Try.prog 24 ti24 := ⟨Try.underlying24, by kernel_rfl, by kernel_rfl, by kernel_rfl, fun h => by cases h⟩
@[simp] def ti28 : TI := ⟨(Go.TypeDesc.struct #[{ name := "Kind", type := 3, offset := 0, embedded := Bool.false, tag := "", pkgPath := "", byteOffset := 0 }, { name := "Object", type := 9, offset := 1, embedded := Bool.false, tag := "", pkgPath := "", byteOffset := 8 }, { name := "Field", type := 9, offset := 2, embedded := Bool.false, tag := "", pkgPath := "", byteOffset := 24 }, { name := "N", type := 2, offset := 3, embedded := Bool.false, tag := "", pkgPath := "", byteOffset := 40 }, { name := "S", type := 9, offset := 4, embedded := Bool.false, tag := "", pkgPath := "", byteOffset := 48 }]), (Go.Value.agg #[Go.Value.int Go.IntKind.i64 0, Go.Value.string { data := #[] }, Go.Value.string { data := #[] }, Go.Value.int Go.IntKind.i64 0, Go.Value.string { data := #[] }]), 5, 64, true⟩
theorem ty28 : TyOk Try.prog 28 ti28 := ⟨Try.underlying28, by kernel_rfl, by kernel_rfl, by kernel_rfl, fun _ => ⟨by kernel_rfl, by kernel_rfl⟩⟩
@[simp] def ti29 : TI := ⟨(Go.TypeDesc.struct #[{ name := "Kind", type := 3, offset := 0, embedded := Bool.false, tag := "", pkgPath := "", byteOffset := 0 }, { name := "Object", type := 9, offset := 1, embedded := Bool.false, tag := "", pkgPath := "", byteOffset := 8 }, { name := "Field", type := 9, offset := 2, embedded := Bool.false, tag := "", pkgPath := "", byteOffset := 24 }, { name := "N", type := 2, offset := 3, embedded := Bool.false, tag := "", pkgPath := "", byteOffset := 40 }, { name := "S", type := 9, offset := 4, embedded := Bool.false, tag := "", pkgPath := "", byteOffset := 48 }]), (Go.Value.agg #[Go.Value.int Go.IntKind.i64 0, Go.Value.string { data := #[] }, Go.Value.string { data := #[] }, Go.Value.int Go.IntKind.i64 0, Go.Value.string { data := #[] }]), 5, 64, true⟩
theorem ty29 : TyOk Try.prog 29 ti29 := ⟨Try.underlying29, by kernel_rfl, by kernel_rfl, by kernel_rfl, fun _ => ⟨by kernel_rfl, by kernel_rfl⟩⟩
@[simp] def ti31 : TI := ⟨(Go.TypeDesc.struct #[{ name := "Process", type := 3, offset := 0, embedded := Bool.false, tag := "", pkgPath := "", byteOffset := 0 }, { name := "Kind", type := 3, offset := 1, embedded := Bool.false, tag := "", pkgPath := "", byteOffset := 8 }, { name := "Effects", type := 23, offset := 2, embedded := Bool.false, tag := "", pkgPath := "", byteOffset := 16 }, { name := "Result", type := 24, offset := 3, embedded := Bool.false, tag := "", pkgPath := "", byteOffset := 40 }, { name := "Call", type := 3, offset := 4, embedded := Bool.false, tag := "", pkgPath := "", byteOffset := 64 }, { name := "Return", type := 3, offset := 5, embedded := Bool.false, tag := "", pkgPath := "", byteOffset := 72 }]), (Go.Value.agg #[Go.Value.int Go.IntKind.i64 0, Go.Value.int Go.IntKind.i64 0, Go.Value.slice Option.none 0 0, Go.Value.slice Option.none 0 0, Go.Value.int Go.IntKind.i64 0, Go.Value.int Go.IntKind.i64 0]), 6, 80, false⟩
theorem ty31 : TyOk Try.prog 31 ti31 := ⟨Try.underlying31, by kernel_rfl, by kernel_rfl, by kernel_rfl, fun h => by cases h⟩
@[simp] def ti32 : TI := ⟨(Go.TypeDesc.struct #[{ name := "Process", type := 3, offset := 0, embedded := Bool.false, tag := "", pkgPath := "", byteOffset := 0 }, { name := "Kind", type := 3, offset := 1, embedded := Bool.false, tag := "", pkgPath := "", byteOffset := 8 }, { name := "Effects", type := 23, offset := 2, embedded := Bool.false, tag := "", pkgPath := "", byteOffset := 16 }, { name := "Result", type := 24, offset := 3, embedded := Bool.false, tag := "", pkgPath := "", byteOffset := 40 }, { name := "Call", type := 3, offset := 4, embedded := Bool.false, tag := "", pkgPath := "", byteOffset := 64 }, { name := "Return", type := 3, offset := 5, embedded := Bool.false, tag := "", pkgPath := "", byteOffset := 72 }]), (Go.Value.agg #[Go.Value.int Go.IntKind.i64 0, Go.Value.int Go.IntKind.i64 0, Go.Value.slice Option.none 0 0, Go.Value.slice Option.none 0 0, Go.Value.int Go.IntKind.i64 0, Go.Value.int Go.IntKind.i64 0]), 6, 80, false⟩
theorem ty32 : TyOk Try.prog 32 ti32 := ⟨Try.underlying32, by kernel_rfl, by kernel_rfl, by kernel_rfl, fun h => by cases h⟩
@[simp] def ti36 : TI := ⟨(Go.TypeDesc.slice 32), (Go.Value.slice Option.none 0 0), 1, 24, false⟩
theorem ty36 : TyOk Try.prog 36 ti36 := ⟨Try.underlying36, by kernel_rfl, by kernel_rfl, by kernel_rfl, fun h => by cases h⟩
@[simp] def ti37 : TI := ⟨(Go.TypeDesc.struct #[{ name := "Operations", type := 36, offset := 0, embedded := Bool.false, tag := "", pkgPath := "", byteOffset := 0 }]), (Go.Value.agg #[Go.Value.slice Option.none 0 0]), 1, 24, false⟩
theorem ty37 : TyOk Try.prog 37 ti37 := ⟨Try.underlying37, by kernel_rfl, by kernel_rfl, by kernel_rfl, fun h => by cases h⟩
@[simp] def ti38 : TI := ⟨(Go.TypeDesc.struct #[{ name := "Operations", type := 36, offset := 0, embedded := Bool.false, tag := "", pkgPath := "", byteOffset := 0 }]), (Go.Value.agg #[Go.Value.slice Option.none 0 0]), 1, 24, false⟩
theorem ty38 : TyOk Try.prog 38 ti38 := ⟨Try.underlying38, by kernel_rfl, by kernel_rfl, by kernel_rfl, fun h => by cases h⟩
@[simp] def ti40 : TI := ⟨(Go.TypeDesc.int Go.IntKind.i64), (Go.Value.int Go.IntKind.i64 0), 1, 8, false⟩
theorem ty40 : TyOk Try.prog 40 ti40 := ⟨Try.underlying40, by kernel_rfl, by kernel_rfl, by kernel_rfl, fun h => by cases h⟩
@[simp] def ti44 : TI := ⟨(Go.TypeDesc.slice 9), (Go.Value.slice Option.none 0 0), 1, 24, false⟩
theorem ty44 : TyOk Try.prog 44 ti44 := ⟨Try.underlying44, by kernel_rfl, by kernel_rfl, by kernel_rfl, fun h => by cases h⟩
@[simp] def ti45 : TI := ⟨(Go.TypeDesc.struct #[{ name := "Object", type := 9, offset := 0, embedded := Bool.false, tag := "", pkgPath := "", byteOffset := 0 }, { name := "Field", type := 9, offset := 1, embedded := Bool.false, tag := "", pkgPath := "", byteOffset := 16 }, { name := "Set", type := 4, offset := 2, embedded := Bool.false, tag := "", pkgPath := "", byteOffset := 32 }, { name := "N", type := 2, offset := 3, embedded := Bool.false, tag := "", pkgPath := "", byteOffset := 40 }, { name := "S", type := 9, offset := 4, embedded := Bool.false, tag := "", pkgPath := "", byteOffset := 48 }, { name := "HasMax", type := 4, offset := 5, embedded := Bool.false, tag := "", pkgPath := "", byteOffset := 64 }, { name := "Max", type := 2, offset := 6, embedded := Bool.false, tag := "", pkgPath := "", byteOffset := 72 }, { name := "Sum", type := 2, offset := 7, embedded := Bool.false, tag := "", pkgPath := "", byteOffset := 80 }, { name := "Elems", type := 44, offset := 8, embedded := Bool.false, tag := "", pkgPath := "", byteOffset := 88 }, { name := "Flag", type := 4, offset := 9, embedded := Bool.false, tag := "", pkgPath := "", byteOffset := 112 }]), (Go.Value.agg #[Go.Value.string { data := #[] }, Go.Value.string { data := #[] }, Go.Value.bool Bool.false, Go.Value.int Go.IntKind.i64 0, Go.Value.string { data := #[] }, Go.Value.bool Bool.false, Go.Value.int Go.IntKind.i64 0, Go.Value.int Go.IntKind.i64 0, Go.Value.slice Option.none 0 0, Go.Value.bool Bool.false]), 10, 120, false⟩
theorem ty45 : TyOk Try.prog 45 ti45 := ⟨Try.underlying45, by kernel_rfl, by kernel_rfl, by kernel_rfl, fun h => by cases h⟩
@[simp] def ti46 : TI := ⟨(Go.TypeDesc.struct #[{ name := "Object", type := 9, offset := 0, embedded := Bool.false, tag := "", pkgPath := "", byteOffset := 0 }, { name := "Field", type := 9, offset := 1, embedded := Bool.false, tag := "", pkgPath := "", byteOffset := 16 }, { name := "Set", type := 4, offset := 2, embedded := Bool.false, tag := "", pkgPath := "", byteOffset := 32 }, { name := "N", type := 2, offset := 3, embedded := Bool.false, tag := "", pkgPath := "", byteOffset := 40 }, { name := "S", type := 9, offset := 4, embedded := Bool.false, tag := "", pkgPath := "", byteOffset := 48 }, { name := "HasMax", type := 4, offset := 5, embedded := Bool.false, tag := "", pkgPath := "", byteOffset := 64 }, { name := "Max", type := 2, offset := 6, embedded := Bool.false, tag := "", pkgPath := "", byteOffset := 72 }, { name := "Sum", type := 2, offset := 7, embedded := Bool.false, tag := "", pkgPath := "", byteOffset := 80 }, { name := "Elems", type := 44, offset := 8, embedded := Bool.false, tag := "", pkgPath := "", byteOffset := 88 }, { name := "Flag", type := 4, offset := 9, embedded := Bool.false, tag := "", pkgPath := "", byteOffset := 112 }]), (Go.Value.agg #[Go.Value.string { data := #[] }, Go.Value.string { data := #[] }, Go.Value.bool Bool.false, Go.Value.int Go.IntKind.i64 0, Go.Value.string { data := #[] }, Go.Value.bool Bool.false, Go.Value.int Go.IntKind.i64 0, Go.Value.int Go.IntKind.i64 0, Go.Value.slice Option.none 0 0, Go.Value.bool Bool.false]), 10, 120, false⟩
theorem ty46 : TyOk Try.prog 46 ti46 := ⟨Try.underlying46, by kernel_rfl, by kernel_rfl, by kernel_rfl, fun h => by cases h⟩
@[simp] def ti48 : TI := ⟨(Go.TypeDesc.struct #[{ name := "Client", type := 3, offset := 0, embedded := Bool.false, tag := "", pkgPath := "", byteOffset := 0 }, { name := "Seq", type := 3, offset := 1, embedded := Bool.false, tag := "", pkgPath := "", byteOffset := 8 }, { name := "Tag", type := 3, offset := 2, embedded := Bool.false, tag := "", pkgPath := "", byteOffset := 16 }, { name := "Effects", type := 23, offset := 3, embedded := Bool.false, tag := "", pkgPath := "", byteOffset := 24 }]), (Go.Value.agg #[Go.Value.int Go.IntKind.i64 0, Go.Value.int Go.IntKind.i64 0, Go.Value.int Go.IntKind.i64 0, Go.Value.slice Option.none 0 0]), 4, 48, false⟩
theorem ty48 : TyOk Try.prog 48 ti48 := ⟨Try.underlying48, by kernel_rfl, by kernel_rfl, by kernel_rfl, fun h => by cases h⟩
@[simp] def ti49 : TI := ⟨(Go.TypeDesc.struct #[{ name := "Client", type := 3, offset := 0, embedded := Bool.false, tag := "", pkgPath := "", byteOffset := 0 }, { name := "Seq", type := 3, offset := 1, embedded := Bool.false, tag := "", pkgPath := "", byteOffset := 8 }, { name := "Tag", type := 3, offset := 2, embedded := Bool.false, tag := "", pkgPath := "", byteOffset := 16 }, { name := "Effects", type := 23, offset := 3, embedded := Bool.false, tag := "", pkgPath := "", byteOffset := 24 }]), (Go.Value.agg #[Go.Value.int Go.IntKind.i64 0, Go.Value.int Go.IntKind.i64 0, Go.Value.int Go.IntKind.i64 0, Go.Value.slice Option.none 0 0]), 4, 48, false⟩
theorem ty49 : TyOk Try.prog 49 ti49 := ⟨Try.underlying49, by kernel_rfl, by kernel_rfl, by kernel_rfl, fun h => by cases h⟩
@[simp] def ti50 : TI := ⟨(Go.TypeDesc.slice 49), (Go.Value.slice Option.none 0 0), 1, 24, false⟩
theorem ty50 : TyOk Try.prog 50 ti50 := ⟨Try.underlying50, by kernel_rfl, by kernel_rfl, by kernel_rfl, fun h => by cases h⟩
@[simp] def ti51 : TI := ⟨(Go.TypeDesc.slice 49), (Go.Value.slice Option.none 0 0), 1, 24, false⟩
theorem ty51 : TyOk Try.prog 51 ti51 := ⟨Try.underlying51, by kernel_rfl, by kernel_rfl, by kernel_rfl, fun h => by cases h⟩
@[simp] def ti52 : TI := ⟨(Go.TypeDesc.struct #[{ name := "HasUpdate", type := 4, offset := 0, embedded := Bool.false, tag := "", pkgPath := "", byteOffset := 0 }, { name := "Update", type := 49, offset := 1, embedded := Bool.false, tag := "", pkgPath := "", byteOffset := 8 }, { name := "Agreed", type := 4, offset := 5, embedded := Bool.false, tag := "", pkgPath := "", byteOffset := 56 }, { name := "Learned", type := 51, offset := 6, embedded := Bool.false, tag := "", pkgPath := "", byteOffset := 64 }, { name := "Call", type := 3, offset := 7, embedded := Bool.false, tag := "", pkgPath := "", byteOffset := 88 }, { name := "Return", type := 3, offset := 8, embedded := Bool.false, tag := "", pkgPath := "", byteOffset := 96 }]), (Go.Value.agg #[Go.Value.bool Bool.false, Go.Value.int Go.IntKind.i64 0, Go.Value.int Go.IntKind.i64 0, Go.Value.int Go.IntKind.i64 0, Go.Value.slice Option.none 0 0, Go.Value.bool Bool.false, Go.Value.slice Option.none 0 0, Go.Value.int Go.IntKind.i64 0, Go.Value.int Go.IntKind.i64 0]), 9, 104, false⟩
theorem ty52 : TyOk Try.prog 52 ti52 := ⟨Try.underlying52, by kernel_rfl, by kernel_rfl, by kernel_rfl, fun h => by cases h⟩
@[simp] def ti53 : TI := ⟨(Go.TypeDesc.struct #[{ name := "HasUpdate", type := 4, offset := 0, embedded := Bool.false, tag := "", pkgPath := "", byteOffset := 0 }, { name := "Update", type := 49, offset := 1, embedded := Bool.false, tag := "", pkgPath := "", byteOffset := 8 }, { name := "Agreed", type := 4, offset := 5, embedded := Bool.false, tag := "", pkgPath := "", byteOffset := 56 }, { name := "Learned", type := 51, offset := 6, embedded := Bool.false, tag := "", pkgPath := "", byteOffset := 64 }, { name := "Call", type := 3, offset := 7, embedded := Bool.false, tag := "", pkgPath := "", byteOffset := 88 }, { name := "Return", type := 3, offset := 8, embedded := Bool.false, tag := "", pkgPath := "", byteOffset := 96 }]), (Go.Value.agg #[Go.Value.bool Bool.false, Go.Value.int Go.IntKind.i64 0, Go.Value.int Go.IntKind.i64 0, Go.Value.int Go.IntKind.i64 0, Go.Value.slice Option.none 0 0, Go.Value.bool Bool.false, Go.Value.slice Option.none 0 0, Go.Value.int Go.IntKind.i64 0, Go.Value.int Go.IntKind.i64 0]), 9, 104, false⟩
theorem ty53 : TyOk Try.prog 53 ti53 := ⟨Try.underlying53, by kernel_rfl, by kernel_rfl, by kernel_rfl, fun h => by cases h⟩
@[simp] def ti54 : TI := ⟨(Go.TypeDesc.slice 53), (Go.Value.slice Option.none 0 0), 1, 24, false⟩
theorem ty54 : TyOk Try.prog 54 ti54 := ⟨Try.underlying54, by kernel_rfl, by kernel_rfl, by kernel_rfl, fun h => by cases h⟩
@[simp] def ti64 : TI := ⟨(Go.TypeDesc.pointer 67), (Go.Value.pointer Option.none), 1, 8, false⟩
theorem ty64 : TyOk Try.prog 64 ti64 := ⟨Try.underlying64, by kernel_rfl, by kernel_rfl, by kernel_rfl, fun h => by cases h⟩
@[simp] def ti66 : TI := ⟨(Go.TypeDesc.struct #[{ name := "h", type := 38, offset := 0, embedded := Bool.false, tag := "", pkgPath := "elasticstore/linear", byteOffset := 0 }, { name := "spare", type := 3, offset := 1, embedded := Bool.false, tag := "", pkgPath := "elasticstore/linear", byteOffset := 24 }, { name := "order", type := 22, offset := 2, embedded := Bool.false, tag := "", pkgPath := "elasticstore/linear", byteOffset := 32 }, { name := "failed", type := 65, offset := 3, embedded := Bool.false, tag := "", pkgPath := "elasticstore/linear", byteOffset := 56 }]), (Go.Value.agg #[Go.Value.slice Option.none 0 0, Go.Value.int Go.IntKind.i64 0, Go.Value.slice Option.none 0 0, Go.Value.map Option.none]), 4, 64, false⟩
theorem ty66 : TyOk Try.prog 66 ti66 := ⟨Try.underlying66, by kernel_rfl, by kernel_rfl, by kernel_rfl, fun h => by cases h⟩
@[simp] def ti67 : TI := ⟨(Go.TypeDesc.struct #[{ name := "h", type := 38, offset := 0, embedded := Bool.false, tag := "", pkgPath := "elasticstore/linear", byteOffset := 0 }, { name := "spare", type := 3, offset := 1, embedded := Bool.false, tag := "", pkgPath := "elasticstore/linear", byteOffset := 24 }, { name := "order", type := 22, offset := 2, embedded := Bool.false, tag := "", pkgPath := "elasticstore/linear", byteOffset := 32 }, { name := "failed", type := 65, offset := 3, embedded := Bool.false, tag := "", pkgPath := "elasticstore/linear", byteOffset := 56 }]), (Go.Value.agg #[Go.Value.slice Option.none 0 0, Go.Value.int Go.IntKind.i64 0, Go.Value.slice Option.none 0 0, Go.Value.map Option.none]), 4, 64, false⟩
theorem ty67 : TyOk Try.prog 67 ti67 := ⟨Try.underlying67, by kernel_rfl, by kernel_rfl, by kernel_rfl, fun h => by cases h⟩
@[simp] def ti69 : TI := ⟨(Go.TypeDesc.array 10 5), (Go.Value.agg #[Go.Value.int Go.IntKind.u8 0, Go.Value.int Go.IntKind.u8 0, Go.Value.int Go.IntKind.u8 0, Go.Value.int Go.IntKind.u8 0, Go.Value.int Go.IntKind.u8 0, Go.Value.int Go.IntKind.u8 0, Go.Value.int Go.IntKind.u8 0, Go.Value.int Go.IntKind.u8 0, Go.Value.int Go.IntKind.u8 0, Go.Value.int Go.IntKind.u8 0]), 10, 10, false⟩
theorem ty69 : TyOk Try.prog 69 ti69 := ⟨Try.underlying69, by kernel_rfl, by kernel_rfl, by kernel_rfl, fun h => by cases h⟩
@[simp] def ti70 : TI := ⟨(Go.TypeDesc.array 10 5), (Go.Value.agg #[Go.Value.int Go.IntKind.u8 0, Go.Value.int Go.IntKind.u8 0, Go.Value.int Go.IntKind.u8 0, Go.Value.int Go.IntKind.u8 0, Go.Value.int Go.IntKind.u8 0, Go.Value.int Go.IntKind.u8 0, Go.Value.int Go.IntKind.u8 0, Go.Value.int Go.IntKind.u8 0, Go.Value.int Go.IntKind.u8 0, Go.Value.int Go.IntKind.u8 0]), 10, 10, false⟩
theorem ty70 : TyOk Try.prog 70 ti70 := ⟨Try.underlying70, by kernel_rfl, by kernel_rfl, by kernel_rfl, fun h => by cases h⟩
@[simp] def ti71 : TI := ⟨(Go.TypeDesc.slice 51), (Go.Value.slice Option.none 0 0), 1, 24, false⟩
theorem ty71 : TyOk Try.prog 71 ti71 := ⟨Try.underlying71, by kernel_rfl, by kernel_rfl, by kernel_rfl, fun h => by cases h⟩
@[simp] def ti74 : TI := ⟨(Go.TypeDesc.slice 22), (Go.Value.slice Option.none 0 0), 1, 24, false⟩
theorem ty74 : TyOk Try.prog 74 ti74 := ⟨Try.underlying74, by kernel_rfl, by kernel_rfl, by kernel_rfl, fun h => by cases h⟩
@[simp] def ti76 : TI := ⟨(Go.TypeDesc.pointer 78), (Go.Value.pointer Option.none), 1, 8, false⟩
theorem ty76 : TyOk Try.prog 76 ti76 := ⟨Try.underlying76, by kernel_rfl, by kernel_rfl, by kernel_rfl, fun h => by cases h⟩
@[simp] def ti77 : TI := ⟨(Go.TypeDesc.struct #[{ name := "e", type := 54, offset := 0, embedded := Bool.false, tag := "", pkgPath := "elasticstore/linear", byteOffset := 0 }, { name := "order", type := 22, offset := 1, embedded := Bool.false, tag := "", pkgPath := "elasticstore/linear", byteOffset := 24 }]), (Go.Value.agg #[Go.Value.slice Option.none 0 0, Go.Value.slice Option.none 0 0]), 2, 48, false⟩
theorem ty77 : TyOk Try.prog 77 ti77 := ⟨Try.underlying77, by kernel_rfl, by kernel_rfl, by kernel_rfl, fun h => by cases h⟩
@[simp] def ti78 : TI := ⟨(Go.TypeDesc.struct #[{ name := "e", type := 54, offset := 0, embedded := Bool.false, tag := "", pkgPath := "elasticstore/linear", byteOffset := 0 }, { name := "order", type := 22, offset := 1, embedded := Bool.false, tag := "", pkgPath := "elasticstore/linear", byteOffset := 24 }]), (Go.Value.agg #[Go.Value.slice Option.none 0 0, Go.Value.slice Option.none 0 0]), 2, 48, false⟩
theorem ty78 : TyOk Try.prog 78 ti78 := ⟨Try.underlying78, by kernel_rfl, by kernel_rfl, by kernel_rfl, fun h => by cases h⟩
@[simp] def ti87 : TI := ⟨(Go.TypeDesc.pointer 46), (Go.Value.pointer Option.none), 1, 8, false⟩
theorem ty87 : TyOk Try.prog 87 ti87 := ⟨Try.underlying87, by kernel_rfl, by kernel_rfl, by kernel_rfl, fun h => by cases h⟩
@[simp] def ti107 : TI := ⟨(Go.TypeDesc.slice 4), (Go.Value.slice Option.none 0 0), 1, 24, false⟩
theorem ty107 : TyOk Try.prog 107 ti107 := ⟨Try.underlying107, by kernel_rfl, by kernel_rfl, by kernel_rfl, fun h => by cases h⟩
@[simp] def ti110 : TI := ⟨(Go.TypeDesc.int Go.IntKind.u64), (Go.Value.int Go.IntKind.u64 0), 1, 8, false⟩
theorem ty110 : TyOk Try.prog 110 ti110 := ⟨Try.underlying110, by kernel_rfl, by kernel_rfl, by kernel_rfl, fun h => by cases h⟩
@[simp] def ti138 : TI := ⟨(Go.TypeDesc.struct #[{ name := "_interface", type := 17, offset := 0, embedded := Bool.false, tag := "", pkgPath := "runtime", byteOffset := 0 }, { name := "concrete", type := 17, offset := 1, embedded := Bool.false, tag := "", pkgPath := "runtime", byteOffset := 8 }, { name := "asserted", type := 17, offset := 2, embedded := Bool.false, tag := "", pkgPath := "runtime", byteOffset := 16 }, { name := "missingMethod", type := 9, offset := 3, embedded := Bool.false, tag := "", pkgPath := "runtime", byteOffset := 24 }]), (Go.Value.agg #[Go.Value.pointer Option.none, Go.Value.pointer Option.none, Go.Value.pointer Option.none, Go.Value.string { data := #[] }]), 4, 40, false⟩
theorem ty138 : TyOk Try.prog 138 ti138 := ⟨Try.underlying138, by kernel_rfl, by kernel_rfl, by kernel_rfl, fun h => by cases h⟩
@[simp] def ti139 : TI := ⟨(Go.TypeDesc.struct #[{ name := "_interface", type := 17, offset := 0, embedded := Bool.false, tag := "", pkgPath := "runtime", byteOffset := 0 }, { name := "concrete", type := 17, offset := 1, embedded := Bool.false, tag := "", pkgPath := "runtime", byteOffset := 8 }, { name := "asserted", type := 17, offset := 2, embedded := Bool.false, tag := "", pkgPath := "runtime", byteOffset := 16 }, { name := "missingMethod", type := 9, offset := 3, embedded := Bool.false, tag := "", pkgPath := "runtime", byteOffset := 24 }]), (Go.Value.agg #[Go.Value.pointer Option.none, Go.Value.pointer Option.none, Go.Value.pointer Option.none, Go.Value.string { data := #[] }]), 4, 40, false⟩
theorem ty139 : TyOk Try.prog 139 ti139 := ⟨Try.underlying139, by kernel_rfl, by kernel_rfl, by kernel_rfl, fun h => by cases h⟩
@[simp] def ti140 : TI := ⟨(Go.TypeDesc.array 0 16), (Go.Value.agg #[]), 0, 0, false⟩
theorem ty140 : TyOk Try.prog 140 ti140 := ⟨Try.underlying140, by kernel_rfl, by kernel_rfl, by kernel_rfl, fun h => by cases h⟩
@[simp] def ti141 : TI := ⟨(Go.TypeDesc.struct #[{ name := "_", type := 140, offset := 0, embedded := Bool.false, tag := "", pkgPath := "runtime", byteOffset := 0 }]), (Go.Value.agg #[]), 0, 0, false⟩
theorem ty141 : TyOk Try.prog 141 ti141 := ⟨Try.underlying141, by kernel_rfl, by kernel_rfl, by kernel_rfl, fun h => by cases h⟩
@[simp] def ti142 : TI := ⟨(Go.TypeDesc.struct #[{ name := "_", type := 140, offset := 0, embedded := Bool.false, tag := "", pkgPath := "runtime", byteOffset := 0 }]), (Go.Value.agg #[]), 0, 0, false⟩
theorem ty142 : TyOk Try.prog 142 ti142 := ⟨Try.underlying142, by kernel_rfl, by kernel_rfl, by kernel_rfl, fun h => by cases h⟩
@[simp] def ti144 : TI := ⟨(Go.TypeDesc.int Go.IntKind.u32), (Go.Value.int Go.IntKind.u32 0), 1, 4, false⟩
theorem ty144 : TyOk Try.prog 144 ti144 := ⟨Try.underlying144, by kernel_rfl, by kernel_rfl, by kernel_rfl, fun h => by cases h⟩
@[simp] def ti145 : TI := ⟨(Go.TypeDesc.int Go.IntKind.u8), (Go.Value.int Go.IntKind.u8 0), 1, 1, false⟩
theorem ty145 : TyOk Try.prog 145 ti145 := ⟨Try.underlying145, by kernel_rfl, by kernel_rfl, by kernel_rfl, fun h => by cases h⟩
@[simp] def ti146 : TI := ⟨(Go.TypeDesc.int Go.IntKind.u8), (Go.Value.int Go.IntKind.u8 0), 1, 1, false⟩
theorem ty146 : TyOk Try.prog 146 ti146 := ⟨Try.underlying146, by kernel_rfl, by kernel_rfl, by kernel_rfl, fun h => by cases h⟩
@[simp] def ti148 : TI := ⟨(Go.TypeDesc.pointer 5), (Go.Value.pointer Option.none), 1, 8, false⟩
theorem ty148 : TyOk Try.prog 148 ti148 := ⟨Try.underlying148, by kernel_rfl, by kernel_rfl, by kernel_rfl, fun h => by cases h⟩
@[simp] def ti149 : TI := ⟨(Go.TypeDesc.int Go.IntKind.i32), (Go.Value.int Go.IntKind.i32 0), 1, 4, false⟩
theorem ty149 : TyOk Try.prog 149 ti149 := ⟨Try.underlying149, by kernel_rfl, by kernel_rfl, by kernel_rfl, fun h => by cases h⟩
@[simp] def ti150 : TI := ⟨(Go.TypeDesc.int Go.IntKind.i32), (Go.Value.int Go.IntKind.i32 0), 1, 4, false⟩
theorem ty150 : TyOk Try.prog 150 ti150 := ⟨Try.underlying150, by kernel_rfl, by kernel_rfl, by kernel_rfl, fun h => by cases h⟩
@[simp] def ti151 : TI := ⟨(Go.TypeDesc.struct #[{ name := "Size_", type := 12, offset := 0, embedded := Bool.false, tag := "", pkgPath := "", byteOffset := 0 }, { name := "PtrBytes", type := 12, offset := 1, embedded := Bool.false, tag := "", pkgPath := "", byteOffset := 8 }, { name := "Hash", type := 144, offset := 2, embedded := Bool.false, tag := "", pkgPath := "", byteOffset := 16 }, { name := "TFlag", type := 145, offset := 3, embedded := Bool.false, tag := "", pkgPath := "", byteOffset := 20 }, { name := "Align_", type := 5, offset := 4, embedded := Bool.false, tag := "", pkgPath := "", byteOffset := 21 }, { name := "FieldAlign_", type := 5, offset := 5, embedded := Bool.false, tag := "", pkgPath := "", byteOffset := 22 }, { name := "Kind_", type := 146, offset := 6, embedded := Bool.false, tag := "", pkgPath := "", byteOffset := 23 }, { name := "Equal", type := 147, offset := 7, embedded := Bool.false, tag := "", pkgPath := "", byteOffset := 24 }, { name := "GCData", type := 148, offset := 8, embedded := Bool.false, tag := "", pkgPath := "", byteOffset := 32 }, { name := "Str", type := 149, offset := 9, embedded := Bool.false, tag := "", pkgPath := "", byteOffset := 40 }, { name := "PtrToThis", type := 150, offset := 10, embedded := Bool.false, tag := "", pkgPath := "", byteOffset := 44 }]), (Go.Value.agg #[Go.Value.int Go.IntKind.u64 0, Go.Value.int Go.IntKind.u64 0, Go.Value.int Go.IntKind.u32 0, Go.Value.int Go.IntKind.u8 0, Go.Value.int Go.IntKind.u8 0, Go.Value.int Go.IntKind.u8 0, Go.Value.int Go.IntKind.u8 0, Go.Value.nilFunc, Go.Value.pointer Option.none, Go.Value.int Go.IntKind.i32 0, Go.Value.int Go.IntKind.i32 0]), 11, 48, false⟩
theorem ty151 : TyOk Try.prog 151 ti151 := ⟨Try.underlying151, by kernel_rfl, by kernel_rfl, by kernel_rfl, fun h => by cases h⟩
@[simp] def ti152 : TI := ⟨(Go.TypeDesc.struct #[{ name := "Size_", type := 12, offset := 0, embedded := Bool.false, tag := "", pkgPath := "", byteOffset := 0 }, { name := "PtrBytes", type := 12, offset := 1, embedded := Bool.false, tag := "", pkgPath := "", byteOffset := 8 }, { name := "Hash", type := 144, offset := 2, embedded := Bool.false, tag := "", pkgPath := "", byteOffset := 16 }, { name := "TFlag", type := 145, offset := 3, embedded := Bool.false, tag := "", pkgPath := "", byteOffset := 20 }, { name := "Align_", type := 5, offset := 4, embedded := Bool.false, tag := "", pkgPath := "", byteOffset := 21 }, { name := "FieldAlign_", type := 5, offset := 5, embedded := Bool.false, tag := "", pkgPath := "", byteOffset := 22 }, { name := "Kind_", type := 146, offset := 6, embedded := Bool.false, tag := "", pkgPath := "", byteOffset := 23 }, { name := "Equal", type := 147, offset := 7, embedded := Bool.false, tag := "", pkgPath := "", byteOffset := 24 }, { name := "GCData", type := 148, offset := 8, embedded := Bool.false, tag := "", pkgPath := "", byteOffset := 32 }, { name := "Str", type := 149, offset := 9, embedded := Bool.false, tag := "", pkgPath := "", byteOffset := 40 }, { name := "PtrToThis", type := 150, offset := 10, embedded := Bool.false, tag := "", pkgPath := "", byteOffset := 44 }]), (Go.Value.agg #[Go.Value.int Go.IntKind.u64 0, Go.Value.int Go.IntKind.u64 0, Go.Value.int Go.IntKind.u32 0, Go.Value.int Go.IntKind.u8 0, Go.Value.int Go.IntKind.u8 0, Go.Value.int Go.IntKind.u8 0, Go.Value.int Go.IntKind.u8 0, Go.Value.nilFunc, Go.Value.pointer Option.none, Go.Value.int Go.IntKind.i32 0, Go.Value.int Go.IntKind.i32 0]), 11, 48, false⟩
theorem ty152 : TyOk Try.prog 152 ti152 := ⟨Try.underlying152, by kernel_rfl, by kernel_rfl, by kernel_rfl, fun h => by cases h⟩
def TE : TyEnv := [(2, ti2), (3, ti3), (4, ti4), (5, ti5), (6, ti6), (7, ti7), (8, ti8), (9, ti9), (10, ti10), (11, ti11), (12, ti12), (13, ti13), (14, ti14), (15, ti15), (16, ti16), (17, ti17), (18, ti18), (19, ti19), (20, ti20), (21, ti21), (22, ti22), (23, ti23), (24, ti24), (28, ti28), (29, ti29), (31, ti31), (32, ti32), (36, ti36), (37, ti37), (38, ti38), (40, ti40), (44, ti44), (45, ti45), (46, ti46), (48, ti48), (49, ti49), (50, ti50), (51, ti51), (52, ti52), (53, ti53), (54, ti54), (64, ti64), (66, ti66), (67, ti67), (69, ti69), (70, ti70), (71, ti71), (74, ti74), (76, ti76), (77, ti77), (78, ti78), (87, ti87), (107, ti107), (110, ti110), (138, ti138), (139, ti139), (140, ti140), (141, ti141), (142, ti142), (144, ti144), (145, ti145), (146, ti146), (148, ti148), (149, ti149), (150, ti150), (151, ti151), (152, ti152)]
theorem teOk : TOk Try.prog TE := .cons ty2 (.cons ty3 (.cons ty4 (.cons ty5 (.cons ty6 (.cons ty7 (.cons ty8 (.cons ty9 (.cons ty10 (.cons ty11 (.cons ty12 (.cons ty13 (.cons ty14 (.cons ty15 (.cons ty16 (.cons ty17 (.cons ty18 (.cons ty19 (.cons ty20 (.cons ty21 (.cons ty22 (.cons ty23 (.cons ty24 (.cons ty28 (.cons ty29 (.cons ty31 (.cons ty32 (.cons ty36 (.cons ty37 (.cons ty38 (.cons ty40 (.cons ty44 (.cons ty45 (.cons ty46 (.cons ty48 (.cons ty49 (.cons ty50 (.cons ty51 (.cons ty52 (.cons ty53 (.cons ty54 (.cons ty64 (.cons ty66 (.cons ty67 (.cons ty69 (.cons ty70 (.cons ty71 (.cons ty74 (.cons ty76 (.cons ty77 (.cons ty78 (.cons ty87 (.cons ty107 (.cons ty110 (.cons ty138 (.cons ty139 (.cons ty140 (.cons ty141 (.cons ty142 (.cons ty144 (.cons ty145 (.cons ty146 (.cons ty148 (.cons ty149 (.cons ty150 (.cons ty151 (.cons ty152 (.nil _)))))))))))))))))))))))))))))))))))))))))))))))))))))))))))))))))))
@[simp] theorem lk2 : look 2 TE = some ti2 := rfl
@[simp] theorem lk3 : look 3 TE = some ti3 := rfl
@[simp] theorem lk4 : look 4 TE = some ti4 := rfl
@[simp] theorem lk5 : look 5 TE = some ti5 := rfl
@[simp] theorem lk6 : look 6 TE = some ti6 := rfl
@[simp] theorem lk7 : look 7 TE = some ti7 := rfl
@[simp] theorem lk8 : look 8 TE = some ti8 := rfl
@[simp] theorem lk9 : look 9 TE = some ti9 := rfl
@[simp] theorem lk10 : look 10 TE = some ti10 := rfl
@[simp] theorem lk11 : look 11 TE = some ti11 := rfl
@[simp] theorem lk12 : look 12 TE = some ti12 := rfl
@[simp] theorem lk13 : look 13 TE = some ti13 := rfl
@[simp] theorem lk14 : look 14 TE = some ti14 := rfl
@[simp] theorem lk15 : look 15 TE = some ti15 := rfl
@[simp] theorem lk16 : look 16 TE = some ti16 := rfl
@[simp] theorem lk17 : look 17 TE = some ti17 := rfl
@[simp] theorem lk18 : look 18 TE = some ti18 := rfl
@[simp] theorem lk19 : look 19 TE = some ti19 := rfl
@[simp] theorem lk20 : look 20 TE = some ti20 := rfl
@[simp] theorem lk21 : look 21 TE = some ti21 := rfl
@[simp] theorem lk22 : look 22 TE = some ti22 := rfl
@[simp] theorem lk23 : look 23 TE = some ti23 := rfl
@[simp] theorem lk24 : look 24 TE = some ti24 := rfl
@[simp] theorem lk28 : look 28 TE = some ti28 := rfl
@[simp] theorem lk29 : look 29 TE = some ti29 := rfl
@[simp] theorem lk31 : look 31 TE = some ti31 := rfl
@[simp] theorem lk32 : look 32 TE = some ti32 := rfl
@[simp] theorem lk36 : look 36 TE = some ti36 := rfl
@[simp] theorem lk37 : look 37 TE = some ti37 := rfl
@[simp] theorem lk38 : look 38 TE = some ti38 := rfl
@[simp] theorem lk40 : look 40 TE = some ti40 := rfl
@[simp] theorem lk44 : look 44 TE = some ti44 := rfl
@[simp] theorem lk45 : look 45 TE = some ti45 := rfl
@[simp] theorem lk46 : look 46 TE = some ti46 := rfl
@[simp] theorem lk48 : look 48 TE = some ti48 := rfl
@[simp] theorem lk49 : look 49 TE = some ti49 := rfl
@[simp] theorem lk50 : look 50 TE = some ti50 := rfl
@[simp] theorem lk51 : look 51 TE = some ti51 := rfl
@[simp] theorem lk52 : look 52 TE = some ti52 := rfl
@[simp] theorem lk53 : look 53 TE = some ti53 := rfl
@[simp] theorem lk54 : look 54 TE = some ti54 := rfl
@[simp] theorem lk64 : look 64 TE = some ti64 := rfl
@[simp] theorem lk66 : look 66 TE = some ti66 := rfl
@[simp] theorem lk67 : look 67 TE = some ti67 := rfl
@[simp] theorem lk69 : look 69 TE = some ti69 := rfl
@[simp] theorem lk70 : look 70 TE = some ti70 := rfl
@[simp] theorem lk71 : look 71 TE = some ti71 := rfl
@[simp] theorem lk74 : look 74 TE = some ti74 := rfl
@[simp] theorem lk76 : look 76 TE = some ti76 := rfl
@[simp] theorem lk77 : look 77 TE = some ti77 := rfl
@[simp] theorem lk78 : look 78 TE = some ti78 := rfl
@[simp] theorem lk87 : look 87 TE = some ti87 := rfl
@[simp] theorem lk107 : look 107 TE = some ti107 := rfl
@[simp] theorem lk110 : look 110 TE = some ti110 := rfl
@[simp] theorem lk138 : look 138 TE = some ti138 := rfl
@[simp] theorem lk139 : look 139 TE = some ti139 := rfl
@[simp] theorem lk140 : look 140 TE = some ti140 := rfl
@[simp] theorem lk141 : look 141 TE = some ti141 := rfl
@[simp] theorem lk142 : look 142 TE = some ti142 := rfl
@[simp] theorem lk144 : look 144 TE = some ti144 := rfl
@[simp] theorem lk145 : look 145 TE = some ti145 := rfl
@[simp] theorem lk146 : look 146 TE = some ti146 := rfl
@[simp] theorem lk148 : look 148 TE = some ti148 := rfl
@[simp] theorem lk149 : look 149 TE = some ti149 := rfl
@[simp] theorem lk150 : look 150 TE = some ti150 := rfl
@[simp] theorem lk151 : look 151 TE = some ti151 := rfl
@[simp] theorem lk152 : look 152 TE = some ti152 := rfl
end Go.Proofs.Ytphlhadgcfndhaa.Abs
