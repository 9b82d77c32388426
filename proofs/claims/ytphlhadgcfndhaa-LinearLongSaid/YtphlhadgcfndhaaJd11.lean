/- Joined for the claim: WNwa WNwb WNwc -/
import Derived.Test.YtphlhadgcfndhaaJd10
section
namespace Go.Proofs.Ytphlhadgcfndhaa.Abs
open Go Go.RowKit
set_option linter.unusedVariables false
set_option linter.unusedSimpArgs false
set_option maxHeartbeats 4000000
set_option maxRecDepth 4000
theorem AW.loop0 {P : Program} {base : Nat} {A : Old} {w0 : World} {n : Nat} {c : Code} {s : St} {Q : Exit → St → Prop} (h : AW P base A w0 n c s (thenA (fun _ => False) Q)) : AW P base A w0 n (.loop c) s Q :=
  AW.loop (fun m t => t = s) 0 (Weak.refl _) rfl (fun m t ht => by
    subst ht
    refine h.mono fun e s' hq => ⟨s', Weak.refl _, ?_⟩
    cases e with
    | normal => exact hq.elim
    | exit id => exact hq
    | goto l => exact hq
    | ret => exact hq
    | panic ch => exact hq
    | outgrown => exact hq)
theorem AW.loop1 {P : Program} {base : Nat} {A : Old} {w0 : World} {n : Nat} {c : Code} {s : St} {Q : Exit → St → Prop} (J : St → Prop) (h0 : AW P base A w0 n c s (thenA (fun s' => ∃ s1, Weak A s' s1 ∧ J s1) Q)) (h1 : ∀ s1, J s1 → AW P base A w0 n c s1 (thenA (fun _ => False) Q)) : AW P base A w0 n (.loop c) s Q :=
  AW.loop (fun m t => m = 1 ∧ t = s ∨ m = 0 ∧ J t) 1 (Weak.refl _) (.inl ⟨rfl, rfl⟩) (fun m t ht => by
    rcases ht with ⟨rfl, rfl⟩ | ⟨rfl, hJ⟩
    · refine h0.mono fun e s' hq => ⟨s', Weak.refl _, ?_⟩
      cases e with
      | normal =>
        obtain ⟨s1, hw, hJ⟩ := hq
        exact ⟨s1, 0, hw, by omega, .inr ⟨rfl, hJ⟩⟩
      | exit id => exact hq
      | goto l => exact hq
      | ret => exact hq
      | panic ch => exact hq
      | outgrown => exact hq
    · refine (h1 t hJ).mono fun e s' hq => ⟨s', Weak.refl _, ?_⟩
      cases e with
      | normal => exact hq.elim
      | exit id => exact hq
      | goto l => exact hq
      | ret => exact hq
      | panic ch => exact hq
      | outgrown => exact hq)
theorem Pure.anyF {P : Program} {f : FuncId} {a : AVal} {F : Cell} {r : AVal} (h : Pure P f [a, .c .any] r) : Pure P f [a, .c F] r := Pure.le h (.cons (.refl _) (.cons (.c (.any _)) .nil)) (.refl _)
theorem insSt_pure (n : Nat) (hn : n ≤ 1) : Pure Try.prog 85 [.c .any, .c (cI 0), .c (cI n), .c .any] (.tup []) := by
  refine pure_of teOk Try.func85 (by kernel_rfl) (c := _) rfl (N := 53) rfl (rs := []) rfl (by simp) fun base A w0 hA => ?_
  refine AW.st teOk [] (by simp [-Option.some.injEq] <;> rfl) trivial ?_
  refine AW.block (AW.loop0 ?_)
  refine AW.seq ?_
  refine AW.st teOk [] (by simp [-Option.some.injEq] <;> rfl) trivial ?_
  refine AW.iff false (by simp; omega) (fun h => by cases h) (fun _ => AW.exit (x_then (x_then (blockA_exit ⟨.inl rfl, _, Weak.refl _, rfl⟩))))
theorem insInt_pure (n : Nat) (hn : n ≤ 1) : Pure Try.prog 90 [.c .any, .c (cI 0), .c (cI n), .c .any] (.tup []) := by
  refine pure_of teOk Try.func90 (by kernel_rfl) (c := _) rfl (N := 53) rfl (rs := []) rfl (by simp) fun base A w0 hA => ?_
  refine AW.st teOk [] (by simp [-Option.some.injEq] <;> rfl) trivial ?_
  refine AW.block (AW.loop0 ?_)
  refine AW.seq ?_
  refine AW.st teOk [] (by simp [-Option.some.injEq] <;> rfl) trivial ?_
  refine AW.iff false (by simp; omega) (fun h => by cases h) (fun _ => AW.exit (x_then (x_then (blockA_exit ⟨.inl rfl, _, Weak.refl _, rfl⟩))))
theorem stabSt_pure (n : Nat) (hn : n ≤ 1) : Pure Try.prog 71 [.c .any, .c (cI n), .c .any] (.tup []) := by
  refine pure_of teOk Try.func71 (by kernel_rfl) (c := _) rfl (N := 63) rfl (rs := []) rfl (by simp) fun base A w0 hA => ?_
  refine AW.st teOk [] (by simp [-Option.some.injEq] <;> rfl) trivial ?_
  refine AW.st teOk [] (by simp [-Option.some.injEq] <;> rfl) trivial ?_
  refine AW.seq (AW.block (AW.loop0 ?_))
  refine AW.seq ?_
  refine AW.st teOk [] (by simp [-Option.some.injEq] <;> rfl) trivial ?_
  refine AW.iff false (by simp; omega) (fun h => by cases h) (fun _ => AW.exit (x_then (x_then (blockA_exit ?_))))
  refine AW.st teOk [.fz (.tup [])] (by simp [-Option.some.injEq] <;> rfl) ?_ ?_
  · exact insSt_pure n hn
  refine AW.block (AW.loop0 ?_)
  refine AW.seq ?_
  refine AW.st teOk [] (by simp [-Option.some.injEq] <;> rfl) trivial ?_
  refine AW.iff false (by simp; omega) (fun h => by cases h) (fun _ => AW.exit (x_then (x_then (blockA_exit ⟨.inl rfl, _, Weak.refl _, rfl⟩))))
theorem stabInt_pure (n : Nat) (hn : n ≤ 1) : Pure Try.prog 79 [.c .any, .c (cI n), .c .any] (.tup []) := by
  refine pure_of teOk Try.func79 (by kernel_rfl) (c := _) rfl (N := 63) rfl (rs := []) rfl (by simp) fun base A w0 hA => ?_
  refine AW.st teOk [] (by simp [-Option.some.injEq] <;> rfl) trivial ?_
  refine AW.st teOk [] (by simp [-Option.some.injEq] <;> rfl) trivial ?_
  refine AW.seq (AW.block (AW.loop0 ?_))
  refine AW.seq ?_
  refine AW.st teOk [] (by simp [-Option.some.injEq] <;> rfl) trivial ?_
  refine AW.iff false (by simp; omega) (fun h => by cases h) (fun _ => AW.exit (x_then (x_then (blockA_exit ?_))))
  refine AW.st teOk [.fz (.tup [])] (by simp [-Option.some.injEq] <;> rfl) ?_ ?_
  · exact insInt_pure n hn
  refine AW.block (AW.loop0 ?_)
  refine AW.seq ?_
  refine AW.st teOk [] (by simp [-Option.some.injEq] <;> rfl) trivial ?_
  refine AW.iff false (by simp; omega) (fun h => by cases h) (fun _ => AW.exit (x_then (x_then (blockA_exit ⟨.inl rfl, _, Weak.refl _, rfl⟩))))
theorem sortSt_pure (F : Cell) : Pure Try.prog 41 [.c (.sc (.slice none 0 0)), .c F] (.tup []) := by
  refine Pure.anyF ?_
  refine pure_of teOk Try.func41 (by kernel_rfl) (c := _) rfl (N := 9) rfl (rs := []) rfl (by simp) fun base A w0 hA => ?_
  refine AW.text teOk (ans := [.fz (.tup [])]) (by simp [-Option.some.injEq] <;> rfl) ?_ ?_
  · exact Pure.le (stabSt_pure 0 (by omega)) (.cons (.c (.any _)) (.cons (.refl _) (.cons (.refl _) .nil))) (.refl _)
  exact ⟨.inl rfl, _, Weak.refl _, rfl⟩
theorem sort0_pure (F : Cell) : Pure Try.prog 56 [.c (.sc (.slice none 0 0)), .c F] (.tup []) := by
  refine Pure.anyF ?_
  refine pure_of teOk Try.func56 (by kernel_rfl) (c := _) rfl (N := 9) rfl (rs := []) rfl (by simp) fun base A w0 hA => ?_
  refine AW.text teOk (ans := [.fz (.tup [])]) (by simp [-Option.some.injEq] <;> rfl) ?_ ?_
  · exact Pure.le (stabInt_pure 0 (by omega)) (.cons (.c (.any _)) (.cons (.refl _) (.cons (.refl _) .nil))) (.refl _)
  exact ⟨.inl rfl, _, Weak.refl _, rfl⟩
theorem sort1_pure (F : Cell) : Pure Try.prog 56 [.c (.row 1 false [[cI 0]]), .c F] (.tup []) := by
  refine Pure.anyF ?_
  refine pure_of teOk Try.func56 (by kernel_rfl) (c := _) rfl (N := 9) rfl (rs := []) rfl (by simp) fun base A w0 hA => ?_
  refine AW.text teOk (ans := [.fz (.tup [])]) (by simp [-Option.some.injEq] <;> rfl) ?_ ?_
  · exact Pure.le (stabInt_pure 1 (by omega)) (.cons (.c (.any _)) (.cons (.refl _) (.cons (.refl _) .nil))) (.refl _)
  exact ⟨.inl rfl, _, Weak.refl _, rfl⟩
theorem comp0_pure : Pure Try.prog 44 [.c (.sc (.slice none 0 0)), .c .any] (.c (.sc (.slice none 0 0))) := by
  refine pure_of teOk Try.func44 (by kernel_rfl) (c := _) rfl (N := 66) rfl (rs := [Go.ResultVar.tmp 4]) rfl (by simp) fun base A w0 hA => ?_
  refine AW.st teOk [] (by simp [-Option.some.injEq] <;> rfl) trivial ?_
  refine AW.seq ?_
  refine AW.st teOk [] (by simp [-Option.some.injEq] <;> rfl) trivial ?_
  refine AW.iff true (by simp) (fun _ => ?_) (fun h => by cases h)
  refine AW.st teOk [] (by simp [-Option.some.injEq] <;> rfl) trivial ?_
  refine AW.ret ⟨.inr rfl, _, Weak.refl _, rfl⟩
end Go.Proofs.Ytphlhadgcfndhaa.Abs
end
section
namespace Go.Proofs.Ytphlhadgcfndhaa.Abs
open Go Go.RowKit
set_option linter.unusedVariables false
set_option linter.unusedSimpArgs false
set_option maxHeartbeats 4000000
set_option maxRecDepth 4000
@[simp] abbrev nilC : Cell := .sc (.slice none 0 0)
@[simp] abbrev evC (e : EfS) : List Cell := [cB true, cI 101, cI 1, cI 0, .row 5 false [encE' e], cB false, nilC, cI 1, cI 2]
theorem chain1_pure (e : EfS) : Pure Try.prog 24 [.c (.row 9 false [evC e])] (.tup [.c nilC, .c (cB true)]) := by
  refine pure_of teOk Try.func24 (by kernel_rfl) (c := _) rfl (N := 44) rfl (rs := [Go.ResultVar.tmp 2, Go.ResultVar.tmp 3]) rfl (by simp) fun base A w0 hA => ?_
  refine AW.st teOk [] (by simp [-Option.some.injEq] <;> rfl) trivial ?_
  refine AW.st teOk [] (by simp [-Option.some.injEq] <;> rfl) trivial ?_
  refine AW.seq ?_
  refine AW.st teOk [] (by simp [-Option.some.injEq] <;> rfl) trivial ?_
  refine AW.block (AW.loop1 (fun s => s = ⟨[(2, .c nilC), (3, .c (cB false)), (4, .c nilC), (8, .c (.row 9 false [evC e])), (9, .c (cI 1)), (10, .c (cI 1))], [], 0⟩) ?_ ?_)
  · refine AW.st teOk [] (by simp [-Option.some.injEq] <;> rfl) trivial ?_
    refine AW.seq ?_
    refine AW.iff true (by simp) (fun _ => AW.skip ?_) (fun h => by cases h)
    refine AW.seq (AW.block ?_)
    refine AW.st teOk [] (by simp [-Option.some.injEq] <;> rfl) trivial ?_
    refine AW.st teOk [] (by simp [-Option.some.injEq] <;> rfl) trivial ?_
    refine AW.iff false (by simp) (fun h => by cases h) (fun _ => AW.skip ?_)
    refine AW.text teOk (ans := []) (by simp [-Option.some.injEq] <;> rfl) ?_ ?_
    · trivial
    exact ⟨_, Weak.normT hA [2, 3, 4, 8, 9, 10] [] [] 0 _ (by simp) (by simp) (by simp), by simp⟩
  rintro s rfl
  refine AW.st teOk [] (by simp [-Option.some.injEq] <;> rfl) trivial ?_
  refine AW.seq ?_
  refine AW.iff false (by simp) (fun h => by cases h) (fun _ => AW.exit (x_then (x_then (blockA_exit ?_))))
  refine AW.st teOk [.fz (.tup [])] (by simp [-Option.some.injEq] <;> rfl) ?_ ?_
  · exact sortSt_pure _
  refine AW.st teOk [.fz (.c nilC)] (by simp [-Option.some.injEq] <;> rfl) ?_ ?_
  · exact Pure.anyF comp0_pure
  refine AW.seq ?_
  refine AW.st teOk [] (by simp [-Option.some.injEq] <;> rfl) trivial ?_
  refine AW.block (AW.loop0 ?_)
  refine AW.seq ?_
  refine AW.st teOk [] (by simp [-Option.some.injEq] <;> rfl) trivial ?_
  refine AW.iff false (by simp) (fun h => by cases h) (fun _ => AW.exit (x_then (x_then (blockA_exit ?_))))
  refine AW.st teOk [] (by simp [-Option.some.injEq] <;> rfl) trivial ?_
  refine AW.ret ⟨.inr rfl, _, Weak.refl _, rfl⟩
@[simp] abbrev upC (e : EfS) : List Cell := [cI 101, cI 1, cI 0, .row 5 false [encE' e]]
theorem block0_pure (e : EfS) : Pure Try.prog 25 [.c nilC, .agg (upC e)] (.c (cI 0)) := by
  refine pure_of teOk Try.func25 (by kernel_rfl) (c := _) rfl (N := 21) rfl (rs := [Go.ResultVar.tmp 4]) rfl (by simp) fun base A w0 hA => ?_
  refine AW.st teOk [] (by simp [-Option.some.injEq] <;> rfl) trivial ?_
  refine AW.seq ?_
  refine AW.st teOk [] (by simp [-Option.some.injEq] <;> rfl) trivial ?_
  refine AW.block (AW.loop0 ?_)
  refine AW.st teOk [] (by simp [-Option.some.injEq] <;> rfl) trivial ?_
  refine AW.seq ?_
  refine AW.iff false (by simp) (fun h => by cases h) (fun _ => AW.exit (x_then (x_then (blockA_exit ?_))))
  refine AW.st teOk [] (by simp [-Option.some.injEq] <;> rfl) trivial ?_
  refine AW.ret ⟨.inr rfl, _, Weak.refl _, rfl⟩
theorem byCall0_pure (cs : List Cell) : Pure Try.prog 28 [.c (.fad cs), .c nilC] (.tup []) := by
  refine pure_of teOk Try.func28 (by kernel_rfl) (c := _) rfl (N := 7) rfl (rs := []) rfl (by simp) fun base A w0 hA => ?_
  refine AW.st teOk [] (by simp [-Option.some.injEq] <;> rfl) trivial ?_
  refine AW.to (s2 := ⟨[(1, .c nilC), (2, .c (.fad [.fad cs]))], [], 0⟩) ((Weak.freeze 0 ⟨1, [[.fad cs]]⟩ [] _ (by simp) rfl).trans (Weak.normT hA [1, 2] [] [] 0 _ (by simp) (by simp) (by simp [mapAt_nil]))) (by simp [mapAt_nil]) ?_
  refine AW.text teOk (ans := [.fz (.tup [])]) (by simp [-Option.some.injEq] <;> rfl) ?_ ?_
  · exact sort0_pure _
  exact ⟨.inl rfl, _, Weak.refl _, rfl⟩
theorem byCall1_pure (cs : List Cell) : Pure Try.prog 28 [.c (.fad cs), .c (.row 1 false [[cI 0]])] (.tup []) := by
  refine pure_of teOk Try.func28 (by kernel_rfl) (c := _) rfl (N := 7) rfl (rs := []) rfl (by simp) fun base A w0 hA => ?_
  refine AW.st teOk [] (by simp [-Option.some.injEq] <;> rfl) trivial ?_
  refine AW.to (s2 := ⟨[(1, .c (.row 1 false [[cI 0]])), (2, .c (.fad [.fad cs]))], [], 0⟩) ((Weak.freeze 0 ⟨1, [[.fad cs]]⟩ [] _ (by simp) rfl).trans (Weak.normT hA [1, 2] [] [] 0 _ (by simp) (by simp) (by simp [mapAt_nil]))) (by simp [mapAt_nil]) ?_
  refine AW.text teOk (ans := [.fz (.tup [])]) (by simp [-Option.some.injEq] <;> rfl) ?_ ?_
  · exact sort1_pure _
  exact ⟨.inl rfl, _, Weak.refl _, rfl⟩

/-! ### the functions that choose -/
theorem idx1_pure (g : FuncId) (caps : List Cell) (hf : ∀ c ∈ caps, frozenC c = true) (b : Bool) (hP : Pure Try.prog g (.c (cI 0) :: caps.map .c) (.c (cB b))) : Pure Try.prog 49 [.c (.row 1 false [[cI 0]]), .c (.fn g caps)] (.c (cI (if b = true then 0 else -1))) := by
  unfold frozenC at hf
  have hf' := eq_true hf
  refine pure_of teOk Try.func49 (by kernel_rfl) (c := _) rfl (N := 19) rfl (rs := [Go.ResultVar.tmp 4]) rfl (by simp) fun base A w0 hA => ?_
  refine AW.st teOk [] (by simp [-Option.some.injEq] <;> rfl) trivial ?_
  refine AW.seq ?_
  refine AW.st teOk [] (by simp [-Option.some.injEq] <;> rfl) trivial ?_
  refine AW.block (AW.loop1 (fun s => b = false ∧ s = ⟨[(7, .c (cI 1)), (8, .c (cI 1))], [], 0⟩) ?_ ?_)
  · refine AW.st teOk [] (by simp [-Option.some.injEq] <;> rfl) trivial ?_
    refine AW.seq ?_
    refine AW.iff true (by simp) (fun _ => AW.skip ?_) (fun h => by cases h)
    refine AW.seq (AW.block ?_)
    refine AW.st teOk [] (by simp [-Option.some.injEq] <;> rfl) trivial ?_
    refine AW.st teOk [.fz (.c (cB b))] (by simp [hf', -Option.some.injEq] <;> rfl) ?_ ?_
    · exact hP
    refine AW.iff b (by simp) (fun hb => ?_) (fun hb => AW.skip ?_)
    · subst hb
      refine AW.st teOk [] (by simp [-Option.some.injEq] <;> rfl) trivial ?_
      refine AW.ret ⟨.inr rfl, _, Weak.refl _, rfl⟩
    · subst hb
      refine AW.text teOk (ans := []) (by simp [-Option.some.injEq] <;> rfl) ?_ ?_
      · trivial
      exact ⟨_, Weak.normT hA [7, 8] [] [] 0 _ (by simp) (by simp) (by simp), rfl, by simp⟩
  rintro s ⟨rfl, rfl⟩
  refine AW.st teOk [] (by simp [-Option.some.injEq] <;> rfl) trivial ?_
  refine AW.seq ?_
  refine AW.iff false (by simp) (fun h => by cases h) (fun _ => AW.exit (x_then (x_then (blockA_exit ?_))))
  refine AW.st teOk [] (by simp [-Option.some.injEq] <;> rfl) trivial ?_
  refine AW.ret ⟨.inr rfl, _, Weak.refl _, rfl⟩
theorem has1_pure (g : FuncId) (caps : List Cell) (hf : ∀ c ∈ caps, frozenC c = true) (b : Bool) (hP : Pure Try.prog g (.c (cI 0) :: caps.map .c) (.c (cB b))) : Pure Try.prog 51 [.c (.row 1 false [[cI 0]]), .c (.fn g caps)] (.c (cB b)) := by
  refine pure_of teOk Try.func51 (by kernel_rfl) (c := _) rfl (N := 9) rfl (rs := [Go.ResultVar.tmp 4]) rfl (by simp) fun base A w0 hA => ?_
  refine AW.st teOk [] (by simp [-Option.some.injEq] <;> rfl) trivial ?_
  refine AW.st teOk [.fz (.c (cI (if b = true then 0 else -1)))] (by simp [-Option.some.injEq] <;> rfl) ?_ ?_
  · exact idx1_pure g caps hf b hP
  refine AW.ret ⟨.inr rfl, _, Weak.refl _, ?_⟩
  cases b <;> simp
theorem w11_pure (W : Cell) (hW : frozenC W = true) : Pure Try.prog 52 [.c (cI 0), .c (.fad [cI 0]), .c (.fad [W])] (.c (cB false)) := by
  refine pure_of teOk Try.func52 (by kernel_rfl) (c := _) rfl (N := 14) rfl (rs := [Go.ResultVar.tmp 4]) rfl (by simp) fun base A w0 hA => ?_
  refine AW.st teOk [] (by simp [-Option.some.injEq] <;> rfl) trivial ?_
  refine AW.st teOk [] (by simp [-Option.some.injEq] <;> rfl) trivial ?_
  refine AW.ret ⟨.inr rfl, _, Weak.refl _, rfl⟩
theorem w1_pure (W : Cell) (hW : frozenC W = true) : Pure Try.prog 50 [.c (cI 0), .c (.fad [.row 1 false [[cI 0]]]), .c (.fad [W])] (.c (cB true)) := by
  refine pure_of teOk Try.func50 (by kernel_rfl) (c := _) rfl (N := 9) rfl (rs := [Go.ResultVar.tmp 4]) rfl (by simp) fun base A w0 hA => ?_
  refine AW.st teOk [] (by simp [-Option.some.injEq] <;> rfl) trivial ?_
  refine AW.to (s2 := ⟨[(1, .c (.fad [.row 1 false [[cI 0]]])), (2, .c (.fad [W])), (3, .c (.fad [cI 0])), (4, .c (cB false))], [], 0⟩) ((Weak.freeze 0 ⟨1, [[cI 0]]⟩ [] _ (by simp) rfl).trans (Weak.normT hA [1, 2, 3, 4] [] [] 0 _ (by simp) (by simp) (by simp [mapAt_nil]))) (by simp [mapAt_nil]) ?_
  refine AW.st teOk [.fz (.c (cB false))] (by simp [-Option.some.injEq] <;> rfl) ?_ ?_
  · exact has1_pure _ [.fad [cI 0], .fad [W]] (by simp) false (w11_pure W hW)
  refine AW.ret ⟨.inr rfl, _, Weak.refl _, rfl⟩
end Go.Proofs.Ytphlhadgcfndhaa.Abs
end
section
namespace Go.Proofs.Ytphlhadgcfndhaa.Abs
open Go Go.RowKit
set_option linter.unusedVariables false
set_option linter.unusedSimpArgs false
set_option maxHeartbeats 4000000
set_option maxRecDepth 4000
/-- A call, told with all objects that live. -/
def Con0 (P : Program) (f : FuncId) (xs : List AVal) (σ : Sig) (m : Nat) (r : AVal) (σ' : Sig) (m' : Nat) : Prop := FOk P f ∧
  ∀ (base : Nat) (A : Nat → Prop) (w : World) (β : Nat → Bnd) (vs : Array Value), Inv base A w β σ w → (∀ id, m ≤ id → β id = .no) → RepAs w (okOf base A w β) β xs vs →
    Calls P f vs w fun e w' => ∃ v β', e = .returned v ∧ Inv base A w β' σ' w' ∧ (∀ i, BLe (β i) (β' i)) ∧ (∀ x, okOf base A w β x → okOf base A w' β' x ∧ w'.heap[x]? = w.heap[x]?) ∧ (∀ id, m' ≤ id → β' id = .no) ∧ RepV w' (okOf base A w' β') β' r v
theorem SemC.of0 {P : Program} {f : FuncId} {xs : List AVal} {σ σ' : Sig} {m m' : Nat} {r : AVal} {s : St} (h : Con0 P f xs σ m r σ' m') (hσ : s.σ = σ) (hm : s.fr ≤ m) : SemC P f xs s r σ' m' := by
  refine ⟨h.1, fun A base w0 n β a w vs I hvs => ?_⟩
  have Iv := I.inv
  rw [hσ] at Iv
  refine (h.2 base A.own w β vs (Iv.from) (fun id hid => I.fresh id (by omega)) hvs).mono ?_
  rintro e w' ⟨v, β', he, I', hle, hok, hno, hv⟩
  exact ⟨v, β', he, Inv.since I.inv.below I', hle, hok, hno, hv⟩
theorem con0_of {P : Program} {T : TyEnv} (hT : TOk P T) {f : FuncId} {fn : Func} {c : Code} (hf : P.funcs[f]? = some fn) (hname : (fn.name == "runtime.NumGoroutine") = false) (hb : fn.body = some c) {N : Nat} (hN : fn.ntmps = N) {rs : List ResultVar} (hrs : fn.results.toList = rs) {xs : List AVal} {res : AVal} {σ σ' : Sig} {m m' : Nat} (hlen : xs.length ≤ N)
    (h : ∀ base (A : Old) w0, A.lim = m → AW P base A w0 N c ⟨entry 0 xs, σ, m⟩ fun e s => (e = .normal ∨ e = .ret) ∧ ∃ s', Weak A s s' ∧ resL T s' rs = some res ∧ s'.σ = σ' ∧ s'.fr = m') : Con0 P f xs σ m res σ' m' := by
  subst hN hrs
  refine ⟨⟨fn, hf, hname, by rw [hb]; rfl⟩, fun base A w β vs hI hfr hr => calls_of_wp hf hb ?_⟩
  have I0 : InvS base ⟨A, β, m, hfr, []⟩ w fn.ntmps β ⟨entry 0 xs, σ, m⟩ { tmps := vs ++ Array.replicate (fn.ntmps - vs.size) undef, defers := [] } w := by
    refine ⟨hI, rfl, ?_, fun t v h => ?_, hfr, Ext.refl (A := ⟨A, β, m, hfr, []⟩) rfl⟩
    · simp [← hr.1]
      omega
    · obtain ⟨_, h1⟩ := look_entry xs 0 t v h
      rw [Nat.sub_zero] at h1
      have hlt : t < vs.size := by rw [← hr.1]; exact (List.getElem?_eq_some_iff.1 h1).1
      refine ⟨vs[t], ?_, hr.2 t v _ h1 (Array.getElem?_eq_getElem hlt)⟩
      rw [Array.getElem?_append_left hlt, Array.getElem?_eq_getElem hlt]
  refine wp_mono (h base ⟨A, β, m, hfr, []⟩ w rfl β _ w I0) fun e a' w' ⟨s', β', ⟨he, s'', hw, hres, hσ, hm⟩, I'⟩ => ?_
  obtain ⟨β'', I''⟩ := hw _ _ _ _ _ _ I'
  obtain ⟨v, h1, h2⟩ := resultsL_sound hT I'' hres
  have fin : a'.defers = [] ∧ ∃ v, (results fn a'.tmps).run P w' = .ok v w' ∧ ∃ v' β', Ending.returned v = .returned v' ∧ Inv base A w β' σ' w' ∧ (∀ i, BLe (β i) (β' i)) ∧ (∀ x, okOf base A w β x → okOf base A w' β' x ∧ w'.heap[x]? = w.heap[x]?) ∧ (∀ id, m' ≤ id → β' id = .no) ∧ RepV w' (okOf base A w' β') β' res v' :=
    ⟨I''.defers, v, h1, v, β'', rfl, by rw [← hσ]; exact I''.inv, I''.ext.ble, I''.ext.ok, by rw [← hm]; exact I''.fresh, h2⟩
  rcases he with rfl | rfl
  · exact fin
  · exact fin
/-- Names from m on are given anew; those below stay. -/
theorem Weak.tidyM {A : Old} {m : Nat} (hA : A.lim = m) (ks : List Nat) (ρ : List (Nat × Nat)) (ids : List Nat) (K : Nat) (s : St)
    (h1 : (ρ.all fun p => decide (p.2 < K) && (decide (m ≤ p.1) && decide (m ≤ p.2) || p.1 == p.2)) = true) (hK : m ≤ K) (h2 : (ρ.map Prod.snd).Nodup) (h3 : ∀ j, j < m → (look j s.σ).isSome = true → look j ρ = some j) (h4 : ∀ i, (look i s.σ).isSome = true → ids.contains i = false → look i ρ = none) :
    Weak A s ⟨mapS (rnV 0 ρ) (keepT ks s.τ), sortS (rnS 0 ρ ids s.σ), K⟩ := by
  refine ((Weak.keep ks s).trans (Weak.tidy 0 ρ ids K ⟨keepT ks s.τ, s.σ, s.fr⟩ ?_)).trans (Weak.sort _)
  rw [hA]
  refine ⟨fun p hp => ?_, ⟨by omega, hK⟩, h2, fun q _ hq hs => h3 q hq hs, fun i o hl hi hne => ?_⟩
  · rw [List.all_eq_true] at h1
    have := h1 p hp
    simp only [Bool.and_eq_true, Bool.or_eq_true, decide_eq_true_eq, beq_iff_eq] at this
    refine ⟨by omega, by omega, this.1, fun h => ?_⟩
    rcases this.2 with h' | h' <;> omega
  · exfalso
    apply hne
    unfold rnI
    rw [if_neg (by omega)]
    exact h4 i (by rw [hl]; rfl) hi
theorem insNil_new : New Try.prog 78 [.c nilC, .c (cI 0), .c (.row 1 true [[cI 0]])] (.c (.ref 0 0 1)) [(0, ⟨1, [[cI 0]]⟩)] 1 := by
  refine new_of teOk Try.func78 (by kernel_rfl) (c := _) rfl (N := 95) rfl (rs := [Go.ResultVar.tmp 6]) rfl (by simp) fun base A w0 hA => ?_
  refine AW.st teOk [] (by simp [-Option.some.injEq] <;> rfl) trivial ?_
  refine AW.st teOk [] (by simp [-Option.some.injEq] <;> rfl) trivial ?_
  refine AW.st teOk [] (by simp [-Option.some.injEq] <;> rfl) trivial ?_
  refine AW.seq ?_
  refine AW.st teOk [] (by simp [-Option.some.injEq] <;> rfl) trivial ?_
  refine AW.iff false (by simp) (fun h => by cases h) (fun _ => AW.skip ?_)
  refine AW.st teOk [] (by simp [-Option.some.injEq] <;> rfl) trivial ?_
  refine AW.seq ?_
  refine AW.st teOk [] (by simp [-Option.some.injEq] <;> rfl) trivial ?_
  refine AW.iff true (by simp) (fun _ => ?_) (fun h => by cases h)
  refine AW.st teOk [] (by simp [-Option.some.injEq] <;> rfl) ?_ ?_
  · simp [growOk]
  refine AW.ret ⟨.inr rfl, _, Weak.normT hA [6] [(6, 0)] [] 1 _ (by simp) (by simp) (by simp), by simp, by simp, rfl⟩
theorem del1_con (c0 b2 b3 c4 : AObj) : Con0 Try.prog 55 [.c (.ref 1 0 1), .c (cI 0), .c (cI 1)] [(0, c0), (124, c4), (1, ⟨1, [[cI 0]]⟩), (2, b2), (3, b3)] 200 (.c (.ref 1 0 0)) [(0, c0), (124, c4), (1, ⟨1, [[cI 0]]⟩), (2, b2), (3, b3)] 229 := by
  refine con0_of teOk Try.func55 (by kernel_rfl) (c := _) rfl (N := 33) rfl (rs := [Go.ResultVar.tmp 6]) rfl (by simp) fun base A w0 hA => ?_
  refine AW.st teOk [] (by simp [-Option.some.injEq] <;> rfl) trivial ?_
  refine AW.st teOk [] (by simp [-Option.some.injEq] <;> rfl) ?_ ?_
  · trivial
  refine AW.seq ?_
  refine AW.st teOk [] (by simp [-Option.some.injEq] <;> rfl) trivial ?_
  refine AW.iff false (by simp) (fun h => by cases h) (fun _ => AW.skip ?_)
  refine AW.st teOk [] (by simp [-Option.some.injEq] <;> rfl) trivial ?_
  refine AW.dr mixed teOk [] (by simp [-Option.some.injEq] <;> rfl) (by kernel_rfl) (by kernel_rfl) ?_ ?_
  · simp [allP]
  refine AW.st teOk [] (by simp [-Option.some.injEq] <;> rfl) ?_ ?_
  · trivial
  refine AW.st teOk [] (by simp [-Option.some.injEq] <;> rfl) trivial ?_
  refine AW.ret ⟨.inr rfl, _, Weak.order [(0, c0), (124, c4), (1, ⟨1, [[cI 0]]⟩), (2, b2), (3, b3)] (fun id => ?_), by simp, rfl, rfl⟩
  by_cases h0 : id = 0 <;> by_cases h1 : id = 1 <;> by_cases h2 : id = 124 <;> simp [look, h0, h1, h2]
abbrev wO (E c : Cell) : AObj := ⟨2, [[E, c]]⟩
theorem place1_con (e : EfS) (l1 b2 b3 : AObj) : Con0 Try.prog 54 [.c (.ptr 0 0 0), .c (cI 0)] [(0, wO (.row 9 false [evC e]) nilC), (1, l1), (2, b2), (3, b3)] 100 (.tup []) [(0, wO (.row 9 false [evC e]) (.ref 124 0 1)), (124, ⟨1, [[cI 0]]⟩), (1, l1), (2, b2), (3, b3)] 128 := by
  refine con0_of teOk Try.func54 (by kernel_rfl) (c := _) rfl (N := 80) rfl (rs := []) rfl (by simp) fun base A w0 hA => ?_
  refine AW.st teOk [] (by simp [-Option.some.injEq] <;> rfl) trivial ?_
  refine AW.seq ?_
  refine AW.st teOk [] (by simp [-Option.some.injEq] <;> rfl) trivial ?_
  refine AW.block (AW.loop0 ?_)
  refine AW.st teOk [] (by simp [-Option.some.injEq] <;> rfl) trivial ?_
  refine AW.seq ?_
  refine AW.iff false (by simp) (fun h => by cases h) (fun _ => AW.exit (x_then (x_then (blockA_exit ?_))))
  refine AW.seq ?_
  refine AW.st teOk [] (by simp [-Option.some.injEq] <;> rfl) trivial ?_
  refine AW.iff true (by simp) (fun _ => ?_) (fun h => by cases h)
  refine AW.text teOk (ans := []) (by simp [-Option.some.injEq] <;> rfl) ?_ ?_
  · trivial
  refine AW.text teOk (ans := [.new (.c (.ref 0 0 1)) [(0, ⟨1, [[cI 0]]⟩)] 1]) (by simp [-Option.some.injEq] <;> rfl) ?_ ?_
  · exact insNil_new
  exact ⟨.inl rfl, _, Weak.refl _, rfl, rfl, rfl⟩
theorem upd1_con (e : EfS) : Con0 Try.prog 26 [.c (.ptr 0 0 0), .c (.ref 1 0 1)] [(0, wO (.row 9 false [evC e]) nilC), (1, ⟨1, [[cI 0]]⟩)] 2 (.c (cB true)) [(0, wO (.row 9 false [evC e]) (.ref 2 0 1)), (1, ⟨1, [[cI 0]]⟩), (2, ⟨1, [[cI 0]]⟩)] 3 := by
  refine con0_of teOk Try.func26 (by kernel_rfl) (c := _) rfl (N := 28) rfl (rs := [Go.ResultVar.tmp 4]) rfl (by simp) fun base A w0 hA => ?_
  refine AW.st teOk [] (by simp [-Option.some.injEq] <;> rfl) trivial ?_
  refine AW.st teOk [.sem (.tup []) [(3, ⟨1, [[.ref 1 0 1]]⟩), (2, ⟨1, [[.ptr 0 0 0]]⟩), (0, wO (.row 9 false [evC e]) nilC), (1, ⟨1, [[cI 0]]⟩)] 7] (by simp [-Option.some.injEq] <;> rfl) ?_ ?_
  · exact SemC.deep rfl (byCall1_pure [.row 9 false [evC e], nilC])
  refine AW.seq (AW.block (AW.loop1 (fun s => s = ⟨[(2, .c (.ptr 2 0 0)), (3, .c (.ptr 3 0 0)), (4, .c (cB false))], [(0, wO (.row 9 false [evC e]) (.ref 124 0 1)), (124, ⟨1, [[cI 0]]⟩), (1, ⟨1, [[cI 0]]⟩), (2, ⟨1, [[.ptr 0 0 0]]⟩), (3, ⟨1, [[.ref 1 0 0]]⟩)], 230⟩) ?_ ?_))
  · refine AW.seq ?_
    refine AW.st teOk [] (by simp [-Option.some.injEq] <;> rfl) trivial ?_
    refine AW.iff true (by simp) (fun _ => AW.skip ?_) (fun h => by cases h)
    refine AW.block ?_
    refine AW.seq (AW.regionA (RA.pre teOk 1 [] (by decide) (by simp [-Option.some.injEq] <;> rfl) trivial ?_))
    refine RA.lendF (r := .c (cI 0)) (cp := .ptr 3 0 0) (cq := .ptr 2 0 0) rfl rfl rfl rfl rfl rfl rfl rfl (by decide) (by decide) (fun t ht => by cases ht; decide) rfl (by simp) (by simp) (idx1_pure 50 [.fad [.row 1 false [[cI 0]]], .fad [.fad [.row 9 false [evC e], nilC]]] (by simp) true (w1_pure _ rfl)) ?_
    refine RA.pre teOk 1 [] (by decide) (by simp [-Option.some.injEq] <;> rfl) trivial (RA.done (by decide) ?_)
    refine AW.to (s2 := ⟨[(2, .c (.ptr 2 0 0)), (3, .c (.ptr 3 0 0)), (4, .c (cB false)), (5, .c (cI 0))], [(0, wO (.row 9 false [evC e]) nilC), (1, ⟨1, [[cI 0]]⟩), (2, ⟨1, [[.ptr 0 0 0]]⟩), (3, ⟨1, [[.ref 1 0 1]]⟩)], 12⟩) ((Weak.keep [2, 3, 4, 5] _).trans (Weak.order [(0, wO (.row 9 false [evC e]) nilC), (1, ⟨1, [[cI 0]]⟩), (2, ⟨1, [[.ptr 0 0 0]]⟩), (3, ⟨1, [[.ref 1 0 1]]⟩)] (fun id => by by_cases h0 : id = 0 <;> by_cases h1 : id = 1 <;> by_cases h2 : id = 2 <;> by_cases h3 : id = 3 <;> simp [look, h0, h1, h2, h3]))) (by simp) ?_
    refine AW.seq ?_
    refine AW.st teOk [] (by simp [-Option.some.injEq] <;> rfl) trivial ?_
    refine AW.iff false (by simp) (fun h => by cases h) (fun _ => AW.skip ?_)
    refine AW.drC mixed teOk [] [.sem (.tup []) [(0, wO (.row 9 false [evC e]) (.ref 124 0 1)), (124, ⟨1, [[cI 0]]⟩), (1, ⟨1, [[cI 0]]⟩), (2, ⟨1, [[.ptr 0 0 0]]⟩), (3, ⟨1, [[.ref 1 0 1]]⟩)] 128] 5 (by rfl) (by rfl) (by simp [-Option.some.injEq] <;> rfl) (by kernel_rfl) (by kernel_rfl) (by kernel_rfl) (by kernel_rfl) (by kernel_rfl) (by simp [-Option.some.injEq] <;> rfl) ?_ ?_ ?_
    · simp [allP]
    · exact SemC.of0 (place1_con e _ _ _) rfl (Nat.le_of_ble_eq_true rfl)
    refine AW.text teOk (ans := [.sem (.c (.ref 1 0 0)) [(0, wO (.row 9 false [evC e]) (.ref 124 0 1)), (124, ⟨1, [[cI 0]]⟩), (1, ⟨1, [[cI 0]]⟩), (2, ⟨1, [[.ptr 0 0 0]]⟩), (3, ⟨1, [[.ref 1 0 1]]⟩)] 229]) (by simp [-Option.some.injEq] <;> rfl) ?_ ?_
    · exact SemC.of0 (del1_con _ _ _ _) rfl (Nat.le_of_ble_eq_true rfl)
    refine ⟨_, (Weak.keep [2, 3, 4] _).trans (Weak.order [(0, wO (.row 9 false [evC e]) (.ref 124 0 1)), (124, ⟨1, [[cI 0]]⟩), (1, ⟨1, [[cI 0]]⟩), (2, ⟨1, [[.ptr 0 0 0]]⟩), (3, ⟨1, [[.ref 1 0 0]]⟩)] (fun id => ?_)), by simp⟩
    by_cases h0 : id = 0 <;> by_cases h1 : id = 1 <;> by_cases h2 : id = 2 <;> by_cases h3 : id = 3 <;> by_cases h4 : id = 124 <;> simp [look, h0, h1, h2, h3, h4]
  rintro s rfl
  refine AW.seq ?_
  refine AW.st teOk [] (by simp [-Option.some.injEq] <;> rfl) trivial ?_
  refine AW.iff false (by simp) (fun h => by cases h) (fun _ => AW.exit (x_then (x_then (blockA_exit ?_))))
  refine AW.st teOk [] (by simp [-Option.some.injEq] <;> rfl) trivial ?_
  refine AW.ret ⟨.inr rfl, _, Weak.tidyM hA [4] [(0, 0), (1, 1), (124, 2)] [0, 124, 1, 2, 3] 3 _ (by simp) (by simp) (by simp) (fun j hj _ => ?_) (fun i hi hn => ?_), by simp, by simp, rfl⟩
  · have : j = 0 ∨ j = 1 := by omega
    rcases this with rfl | rfl <;> simp [look]
  · simp only [List.contains_cons, List.contains_nil, Bool.or_false, Bool.or_eq_false_iff, beq_eq_false_iff_ne, ne_eq] at hn
    simp [look, hn.1, hn.2.1, hn.2.2.1]
end Go.Proofs.Ytphlhadgcfndhaa.Abs
end
