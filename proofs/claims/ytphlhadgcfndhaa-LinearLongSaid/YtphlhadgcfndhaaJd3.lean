/- Joined for the claim: WNw WNsm WNsv -/
import Derived.Test.YtphlhadgcfndhaaJd2
section
namespace Go.Proofs.Ytphlhadgcfndhaa.Abs
open Go Go.RowKit
set_option linter.unusedVariables false
set_option linter.unusedSimpArgs false
set_option maxHeartbeats 4000000
theorem app_emp {P : Program} {base : Nat} {A : Old} {w0 : World} {n : Nat} {T : TyEnv} (hT : TOk P T) {s : St} {β : Nat → Bnd} {a : Act} {w : World} (I : InvS base A w0 n β s a w) {o : Oper} (x y : Operand) (ty el : TypeId) {ti tie : TI} (hop : o.op = .call { callee := .builtin .append, args := #[x, y], argTypes := #[ty, ty] }) (hti : look ty T = some ti) (hd : ti.d = .slice el) (htie : look el T = some tie)
    {k k' : Nat} {t : Bool} (hx : opval s.τ x = .c (.row k true [])) (hy : opval s.τ y = .c (.row k' t [])) : ∃ (_ : Unit) (u : Value), True ∧ (execOp a.eval o).run P w = .ok (.value u) w ∧ RepV w (okOf base A.own w β) β (.c (.row k true [])) u := by
  have h1 := (hT ty ti hti).1
  rw [hd] at h1
  have hrx := opval_rep I x
  rw [hx] at hrx
  have hry := opval_rep I y
  rw [hy] at hry
  obtain ⟨news, hS, _⟩ := src_sound (os := []) (ids := []) (k := tie.size) I.inv hry rfl rfl (es := []) rfl (fun e h => by cases h) ⟨_, h1⟩
  have hrx' := hrx
  generalize hu : a.eval x = u at hrx
  cases hrx with
  | c h => cases h with
    | fz h => cases h with
      | @row _ _ _ ad cap vs g1 g2 g3 g4 g5 g6 =>
        have hc := g2 rfl
        subst hc
        refine ⟨(), a.eval x, trivial, ?_, hrx'⟩
        obtain ⟨dst, op, type, pos, after, guard⟩ := o
        dsimp only at hop
        subst hop
        have := append_nothing (ty := type) (ad := ad) (m := 0) (c := 0) h1 (hT el tie htie) (Nat.le_refl 0) hS
        simp only [List.length_nil] at hu
        simp [execOp, resolve, invoke, builtin, hu, this]
theorem cloneS_new (es : List Str) (hne : es ≠ []) (hb : es.length < 1000000000) : New Try.prog 30 [.c (.row 1 false (es.map encs))] (.c (.ref 0 0 es.length)) [(0, ⟨1, es.map encs⟩)] 1 := by
  refine new_of teOk Try.func30 (by kernel_rfl) (c := _) rfl (N := 8) rfl (rs := [Go.ResultVar.tmp 2]) rfl (by simp) fun base A w0 hA => ?_
  refine AW.st teOk [] (by simp [-Option.some.injEq] <;> rfl) trivial ?_
  have he : es.isEmpty = false := by cases es with | nil => exact absurd rfl hne | cons a l => rfl
  refine AW.seq ?_
  refine AW.st teOk [] (by simp [he, hne, -Option.some.injEq] <;> rfl) trivial ?_
  refine AW.iff false (by simp) (fun h => by cases h) fun _ => AW.skip ?_
  refine AW.st teOk [] (by simp [he, hne, -Option.some.injEq] <;> rfl) ?_ ?_
  · simp [growOk]
    omega
  refine AW.ret ⟨.inr rfl, _, Weak.normT hA [2] [(2, 0)] [] 1 _ (by simp) (by simp) (by simp), ?_⟩
  simp
theorem cloneS_emp : Pure Try.prog 30 [.c (.row 1 false [])] (.c (.row 1 true [])) := by
  refine pure_of teOk Try.func30 (by kernel_rfl) (c := _) rfl (N := 8) rfl (rs := [Go.ResultVar.tmp 2]) rfl (by simp) fun base A w0 hA => ?_
  refine AW.st teOk [] (by simp [-Option.some.injEq] <;> rfl) trivial ?_
  refine AW.seq ?_
  refine AW.st teOk [] (by simp [-Option.some.injEq] <;> rfl) trivial ?_
  refine AW.either (by simp) ?_ (AW.skip ?_)
  · refine AW.st teOk [] (by simp [-Option.some.injEq] <;> rfl) trivial ?_
    refine AW.ret ⟨.inr rfl, _, Weak.le 2 _ (by simp <;> rfl) (.c (LeC.nilT 1)), ?_⟩
    simp
  · refine AW.stX teOk (ι := Unit) [] 2 (by simp [-Option.some.injEq] <;> rfl) trivial rfl rfl (d := 7) rfl (by decide) (fun _ => .c (.row 1 true [])) (fun _ => ⟨[(2, .c (.row 1 true [])), (7, .c (.row 1 true [])), (6, .c (.row 1 false [])), (5, .c (.row 1 true [])), (4, .c .bit), (3, .c (.row 1 false [])), (2, .c (.sc (.slice none 0 0))), (0, .c (.row 1 false []))], [], 6⟩) (fun _ => True) (fun β a w I => ?_) (fun c hc => ?_) (fun c hc => ?_)
    · exact app_emp teOk I (.tmp 5) (.tmp 6) 44 9 rfl rfl rfl rfl (by simp <;> rfl) (by simp <;> exact ⟨rfl, rfl⟩)
    · exact ⟨_, _, by simp [-Option.some.injEq] <;> rfl, by trivial⟩
    refine AW.ret ⟨.inr rfl, _, Weak.refl _, ?_⟩
    simp
theorem eqS_pure (t t' : Bool) (l r : List Str) (hl : l.length < 1000000000000) : Pure Try.prog 68 [.c (.row 1 t (l.map encs)), .c (.row 1 t' (r.map encs))] (.c (cB (decide (l = r)))) := by
  refine pure_of teOk Try.func68 (by kernel_rfl) (c := _) rfl (N := 26) rfl (rs := [Go.ResultVar.tmp 4]) rfl (by simp) fun base A w0 hA => ?_
  refine AW.st teOk [] (by simp [-Option.some.injEq] <;> rfl) trivial ?_
  refine AW.seq ?_
  refine AW.st teOk [] (by simp [-Option.some.injEq] <;> rfl) trivial ?_
  refine AW.iff ((l.length : Int) != (r.length : Int)) (by simp) (fun h => ?_) (fun h => AW.skip ?_)
  · refine AW.st teOk [] (by simp [-Option.some.injEq] <;> rfl) trivial ?_
    refine AW.ret ⟨.inr rfl, _, Weak.refl _, ?_⟩
    have : l ≠ r := fun e => by rw [e] at h; simp at h
    simp [this]
  have hlen : l.length = r.length := by simp at h; omega
  refine AW.seq ?_
  refine AW.st teOk [] (by simp [-Option.some.injEq] <;> rfl) trivial ?_
  refine AW.block (AW.loop (fun m s => ∃ i : Nat, m = l.length - i ∧ i ≤ l.length ∧ l.take i = r.take i ∧ s = ⟨[(0, .c (.row 1 t (l.map encs))), (1, .c (.row 1 t' (r.map encs))), (12, .c (cI l.length)), (13, .c (cI i))], [], 0⟩) _ (Weak.normT hA [0, 1, 12, 13] [] [] 0 _ (by simp) (by simp) (by simp)) ⟨0, rfl, Nat.zero_le _, rfl, by simp⟩ ?_)
  rintro m s ⟨i, rfl, hi, htk, rfl⟩
  refine AW.st teOk [] (by simp [-Option.some.injEq] <;> rfl) trivial ?_
  refine AW.seq ?_
  refine AW.iff (decide (i < l.length)) (by simp) (fun h => AW.skip ?_) (fun h => AW.exit (x_then (x_then (blockA_exit ?_))))
  · rw [decide_eq_true_eq] at h
    obtain ⟨e, he⟩ : ∃ e, l[i]? = some e := ⟨_, List.getElem?_eq_getElem h⟩
    obtain ⟨e2, he2⟩ : ∃ e, r[i]? = some e := ⟨_, List.getElem?_eq_getElem (by omega)⟩
    refine AW.seq (AW.block ?_)
    refine AW.st teOk [] (by simp [-Option.some.injEq] <;> rfl) trivial ?_
    refine AW.dr mixed teOk [] (by simp [he, he2, str_beq, -Option.some.injEq] <;> rfl) (by kernel_rfl) (by kernel_rfl) ?_ ?_
    · simp [allP]
      omega
    refine AW.iff (!decide (e = e2)) (by simp) (fun g => ?_) (fun g => AW.skip ?_)
    · refine AW.st teOk [] (by simp [-Option.some.injEq] <;> rfl) trivial ?_
      refine AW.ret ⟨.inr rfl, _, Weak.refl _, ?_⟩
      have : l ≠ r := fun hh => by rw [hh, he2] at he; cases he; simp at g
      simp [this]
    · refine AW.text teOk (ans := []) (by simp [-Option.some.injEq] <;> rfl) ?_ ?_
      · trivial
      have g : e = e2 := by simpa using g
      refine ⟨_, _, Weak.normT hA [0, 1, 12, 13] [] [] 0 _ (by simp) (by simp) (by simp), ?_, i + 1, rfl, h, ?_, ?_⟩
      · omega
      · rw [List.take_add_one, List.take_add_one, htk, he, he2, g]
      · simp
        exact wrap_s i (by omega)
  · rw [decide_eq_false_iff_not] at h
    refine AW.st teOk [] (by simp [-Option.some.injEq] <;> rfl) trivial ?_
    refine AW.ret ⟨.inr rfl, _, Weak.refl _, ?_⟩
    have : l = r := by
      rw [List.take_of_length_le (by omega), List.take_of_length_le (by omega)] at htk
      exact htk
    simp [this]
end Go.Proofs.Ytphlhadgcfndhaa.Abs
end
section
namespace Go.Proofs.Ytphlhadgcfndhaa.Abs
open Go Go.RowKit
set_option linter.unusedVariables false
set_option linter.unusedSimpArgs false
set_option maxHeartbeats 4000000
set_option maxRecDepth 8000
def sameB (x y : HV) : Bool := ((x.o.toList == y.o.toList)) && ((x.f.toList == y.f.toList)) && ((x.set == y.set)) && ((x.n == y.n)) && ((x.s.toList == y.s.toList)) && ((x.hm == y.hm)) && ((x.mx == y.mx)) && ((x.sum == y.sum)) && (decide (x.el = y.el)) && ((x.fl == y.fl))
abbrev fsV : Cell := .sc (.func (.func 37) #[] #[])
theorem sameV_pure (x y : HV) (hl : x.el.length < 1000000000000) : Pure Try.prog 37 [.agg (encH x), .agg (encH y)] (.c (cB (sameB x y))) := by
  refine pure_of teOk Try.func37 (by kernel_rfl) (c := _) rfl (N := 73) rfl (rs := [Go.ResultVar.tmp 4]) rfl (by simp) fun base A w0 hA => ?_
  refine AW.st teOk [] (by simp [-Option.some.injEq] <;> rfl) trivial ?_
  cases h0 : (x.o.toList == y.o.toList) with
  | false =>
    refine AW.st teOk [] (by simp [h0, -Option.some.injEq] <;> rfl) ?_ ?_
    · first | trivial | skip
    refine AW.ret ⟨.inr rfl, _, Weak.refl _, ?_⟩
    simp [sameB, h0]
  | true =>
  cases h1 : (x.f.toList == y.f.toList) with
  | false =>
    refine AW.st teOk [] (by simp [h0, h1, -Option.some.injEq] <;> rfl) ?_ ?_
    · first | trivial | skip
    refine AW.ret ⟨.inr rfl, _, Weak.refl _, ?_⟩
    simp [sameB, h0, h1]
  | true =>
  cases h2 : (x.set == y.set) with
  | false =>
    refine AW.st teOk [] (by simp [h0, h1, h2, -Option.some.injEq] <;> rfl) ?_ ?_
    · first | trivial | skip
    refine AW.ret ⟨.inr rfl, _, Weak.refl _, ?_⟩
    simp [sameB, h0, h1, h2]
  | true =>
  cases h3 : (x.n == y.n) with
  | false =>
    refine AW.st teOk [] (by simp [h0, h1, h2, h3, -Option.some.injEq] <;> rfl) ?_ ?_
    · first | trivial | skip
    refine AW.ret ⟨.inr rfl, _, Weak.refl _, ?_⟩
    simp [sameB, h0, h1, h2, h3]
  | true =>
  cases h4 : (x.s.toList == y.s.toList) with
  | false =>
    refine AW.st teOk [] (by simp [h0, h1, h2, h3, h4, -Option.some.injEq] <;> rfl) ?_ ?_
    · first | trivial | skip
    refine AW.ret ⟨.inr rfl, _, Weak.refl _, ?_⟩
    simp [sameB, h0, h1, h2, h3, h4]
  | true =>
  cases h5 : (x.hm == y.hm) with
  | false =>
    refine AW.st teOk [] (by simp [h0, h1, h2, h3, h4, h5, -Option.some.injEq] <;> rfl) ?_ ?_
    · first | trivial | skip
    refine AW.ret ⟨.inr rfl, _, Weak.refl _, ?_⟩
    simp [sameB, h0, h1, h2, h3, h4, h5]
  | true =>
  cases h6 : (x.mx == y.mx) with
  | false =>
    refine AW.st teOk [] (by simp [h0, h1, h2, h3, h4, h5, h6, -Option.some.injEq] <;> rfl) ?_ ?_
    · first | trivial | skip
    refine AW.ret ⟨.inr rfl, _, Weak.refl _, ?_⟩
    simp [sameB, h0, h1, h2, h3, h4, h5, h6]
  | true =>
  cases h7 : (x.sum == y.sum) with
  | false =>
    refine AW.st teOk [] (by simp [h0, h1, h2, h3, h4, h5, h6, h7, -Option.some.injEq] <;> rfl) ?_ ?_
    · first | trivial | skip
    refine AW.ret ⟨.inr rfl, _, Weak.refl _, ?_⟩
    simp [sameB, h0, h1, h2, h3, h4, h5, h6, h7]
  | true =>
  cases h8 : decide (x.el = y.el) with
  | false =>
    refine AW.st teOk [.fz (.c (cB false))] (by simp [h0, h1, h2, h3, h4, h5, h6, h7, h8, -Option.some.injEq] <;> rfl) ?_ ?_
    · first | trivial | skip
      exact h8 ▸ eqS_pure false false x.el y.el hl
    refine AW.ret ⟨.inr rfl, _, Weak.refl _, ?_⟩
    simp [sameB, h0, h1, h2, h3, h4, h5, h6, h7, h8]
  | true =>
  cases h9 : (x.fl == y.fl) with
  | false =>
    refine AW.st teOk [.fz (.c (cB true))] (by simp [h0, h1, h2, h3, h4, h5, h6, h7, h8, h9, -Option.some.injEq] <;> rfl) ?_ ?_
    · first | trivial | skip
      exact h8 ▸ eqS_pure false false x.el y.el hl
    refine AW.ret ⟨.inr rfl, _, Weak.refl _, ?_⟩
    simp [sameB, h0, h1, h2, h3, h4, h5, h6, h7, h8, h9]
  | true =>
  refine AW.st teOk [.fz (.c (cB true))] (by simp [h0, h1, h2, h3, h4, h5, h6, h7, h8, h9, -Option.some.injEq] <;> rfl) ?_ ?_
  · first | trivial | skip
    exact h8 ▸ eqS_pure false false x.el y.el hl
  refine AW.ret ⟨.inr rfl, _, Weak.refl _, ?_⟩
  simp [sameB, h0, h1, h2, h3, h4, h5, h6, h7, h8, h9]
theorem sameB_iff {x y : HV} : sameB x y = true ↔ x = y := by
  unfold sameB
  simp only [str_beq, Bool.and_eq_true, decide_eq_true_eq, beq_iff_eq]
  obtain ⟨a1, a2, a3, a4, a5, a6, a7, a8, a9, a10⟩ := x
  obtain ⟨b1, b2, b3, b4, b5, b6, b7, b8, b9, b10⟩ := y
  simp only [HV.mk.injEq]
  constructor
  · rintro ⟨⟨⟨⟨⟨⟨⟨⟨⟨h1, h2⟩, h3⟩, h4⟩, h5⟩, h6⟩, h7⟩, h8⟩, h9⟩, h10⟩
    exact ⟨h1, h2, h3, h4, h5, h6, h7, h8, h9, h10⟩
  · rintro ⟨h1, h2, h3, h4, h5, h6, h7, h8, h9, h10⟩
    exact ⟨⟨⟨⟨⟨⟨⟨⟨⟨h1, h2⟩, h3⟩, h4⟩, h5⟩, h6⟩, h7⟩, h8⟩, h9⟩, h10⟩
end Go.Proofs.Ytphlhadgcfndhaa.Abs
end
section
namespace Go.Proofs.Ytphlhadgcfndhaa.Abs
open Go Go.RowKit
set_option linter.unusedVariables false
set_option linter.unusedSimpArgs false
set_option maxHeartbeats 4000000
def sameL : List HV → List HV → Bool
  | [], [] => true
  | x :: l, y :: r => sameB x y && sameL l r
  | _, _ => false
theorem sameL_iff : ∀ {l r : List HV}, sameL l r = true ↔ l = r
  | [], [] => by simp [sameL]
  | [], _ :: _ => by simp [sameL]
  | _ :: _, [] => by simp [sameL]
  | x :: l, y :: r => by simp [sameL, sameB_iff, sameL_iff (l := l) (r := r)]
theorem sameL_len {l r : List HV} (h : l.length ≠ r.length) : sameL l r = false := by
  cases hq : sameL l r with
  | false => rfl
  | true => exact absurd (by rw [sameL_iff.1 hq]) h
/-- Short lists of elements. -/
def ElB (l : List HV) : Prop := ∀ x ∈ l, x.el.length < 1000000000
theorem eqF_pure (t t' : Bool) (l r : List HV) (hl : l.length < 1000000000000) (hb : ElB l) : Pure Try.prog 36 [.c (.row 10 t (l.map encH)), .c (.row 10 t' (r.map encH)), .c fsV] (.c (cB (sameL l r))) := by
  refine pure_of teOk Try.func36 (by kernel_rfl) (c := _) rfl (N := 32) rfl (rs := [Go.ResultVar.tmp 6]) rfl (by simp) fun base A w0 hA => ?_
  refine AW.st teOk [] (by simp [-Option.some.injEq] <;> rfl) trivial ?_
  refine AW.seq ?_
  refine AW.st teOk [] (by simp [-Option.some.injEq] <;> rfl) trivial ?_
  refine AW.iff ((l.length : Int) != (r.length : Int)) (by simp) (fun h => ?_) (fun h => AW.skip ?_)
  · refine AW.st teOk [] (by simp [-Option.some.injEq] <;> rfl) trivial ?_
    refine AW.ret ⟨.inr rfl, _, Weak.refl _, ?_⟩
    have : sameL l r = false := sameL_len fun e => by rw [e] at h; simp at h
    simp [this]
  have hlen : l.length = r.length := by simp at h; omega
  refine AW.seq ?_
  refine AW.st teOk [] (by simp [-Option.some.injEq] <;> rfl) trivial ?_
  refine AW.block (AW.loop (fun m s => ∃ i : Nat, m = l.length - i ∧ i ≤ l.length ∧ l.take i = r.take i ∧ s = ⟨[(1, .c (.row 10 t' (r.map encH))), (2, .c fsV), (15, .c (.row 10 t (l.map encH))), (16, .c (cI l.length)), (17, .c (cI i))], [], 0⟩) _ (Weak.normT hA [1, 2, 15, 16, 17] [] [] 0 _ (by simp) (by simp) (by simp)) ⟨0, rfl, Nat.zero_le _, rfl, by simp⟩ ?_)
  rintro m s ⟨i, rfl, hi, htk, rfl⟩
  refine AW.st teOk [] (by simp [-Option.some.injEq] <;> rfl) trivial ?_
  refine AW.seq ?_
  refine AW.iff (decide (i < l.length)) (by simp) (fun h => AW.skip ?_) (fun h => AW.exit (x_then (x_then (blockA_exit ?_))))
  · rw [decide_eq_true_eq] at h
    obtain ⟨e, he⟩ : ∃ e, l[i]? = some e := ⟨_, List.getElem?_eq_getElem h⟩
    obtain ⟨e2, he2⟩ : ∃ e, r[i]? = some e := ⟨_, List.getElem?_eq_getElem (by omega)⟩
    have hel := hb e (List.mem_of_getElem? he)
    refine AW.seq (AW.block ?_)
    refine AW.st teOk [] (by simp [he, -Option.some.injEq] <;> rfl) ?_ ?_
    · omega
    refine AW.st teOk [] (by simp [he2, -Option.some.injEq] <;> rfl) ?_ ?_
    · omega
    refine AW.st teOk [.fz (.c (cB (sameB e e2)))] (by simp [-Option.some.injEq] <;> rfl) ?_ ?_
    · exact sameV_pure e e2 (by omega)
    refine AW.iff (!sameB e e2) (by simp) (fun g => ?_) (fun g => AW.skip ?_)
    · refine AW.st teOk [] (by simp [-Option.some.injEq] <;> rfl) trivial ?_
      refine AW.ret ⟨.inr rfl, _, Weak.refl _, ?_⟩
      have : sameL l r = false := by
        cases hq : sameL l r with
        | false => rfl
        | true =>
          have := sameL_iff.1 hq
          rw [this, he2] at he
          cases he
          rw [sameB_iff.2 rfl] at g
          cases g
      simp [this]
    · refine AW.text teOk (ans := []) (by simp [-Option.some.injEq] <;> rfl) ?_ ?_
      · trivial
      have g : e = e2 := sameB_iff.1 (by simpa using g)
      refine ⟨_, _, Weak.normT hA [1, 2, 15, 16, 17] [] [] 0 _ (by simp) (by simp) (by simp), ?_, i + 1, rfl, h, ?_, ?_⟩
      · omega
      · rw [List.take_add_one, List.take_add_one, htk, he, he2, g]
      · simp
        exact wrap_s i (by omega)
  · rw [decide_eq_false_iff_not] at h
    refine AW.st teOk [] (by simp [-Option.some.injEq] <;> rfl) trivial ?_
    refine AW.ret ⟨.inr rfl, _, Weak.refl _, ?_⟩
    have : sameL l r = true := by
      rw [List.take_of_length_le (by omega), List.take_of_length_le (by omega)] at htk
      exact sameL_iff.2 htk
    simp [this]
theorem sameVs_pure (t t' : Bool) (l r : List HV) (hl : l.length < 1000000000000) (hb : ElB l) : Pure Try.prog 21 [.c (.row 10 t (l.map encH)), .c (.row 10 t' (r.map encH))] (.c (cB (sameL l r))) := by
  refine pure_of teOk Try.func21 (by kernel_rfl) (c := _) rfl (N := 8) rfl (rs := [Go.ResultVar.tmp 4]) rfl (by simp) fun base A w0 hA => ?_
  refine AW.st teOk [] (by simp [-Option.some.injEq] <;> rfl) trivial ?_
  refine AW.st teOk [.fz (.c (cB (sameL l r)))] (by simp [-Option.some.injEq] <;> rfl) ?_ ?_
  · exact eqF_pure t t' l r hl hb
  refine AW.ret ⟨.inr rfl, _, Weak.refl _, ?_⟩
  simp
end Go.Proofs.Ytphlhadgcfndhaa.Abs
end
