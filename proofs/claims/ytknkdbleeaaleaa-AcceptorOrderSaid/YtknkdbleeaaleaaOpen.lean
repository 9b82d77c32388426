/- What the arguments of a law read as: the program's data, opened to lists and structs. -/
import Derived.Test.YtknkdbleeaaleaaPrint0
import Derived.Deep.Slices
import Derived.Deep.Fields
import Derived.OpenShut
import Derived.ChangeSame
import Derived.DataReads
namespace Go.Proofs.Ytknkdbleeaaleaa.Print
open Go.RowKit Go.ChangeShapes Go.WideShapes Go.Proofs.YtknkdbleeaaleaaW.PrintWords Go.Proofs.YtknkdbleeaaleaaW.PrintLast Go.Proofs.YtknkdbleeaaleaaW.PrintMore
set_option linter.unusedVariables false
set_option linter.unusedSimpArgs false

/-- What a value's cells say where a type's data can be read. -/
def Opens (P : Program) {α : Type} (k : Kd α) (t : TypeId) (wf : α → Prop) : Prop :=
  ∀ {H : Type} {enc : TypeId × Value → H} {w : World} {base : Nat} {spare : Nat → Bool} {held : Bool} {fuel : Nat} {cs : List Value} {x : DataW H × List MemPlace}, DataW.trod enc P w base spare held fuel t cs = some x → ∃ a : α, k.K w a cs ∧ wf a
section
variable {P : Program} {t e : TypeId}
theorem opens_int {k : IntKind} (ht : P.underlying t = some (.int k)) : Opens P (Kd.int k) t (fun a => (Lit.int k a).wf = true) := by
  intro H enc w base spare held fuel cs x h
  obtain ⟨n, rfl, _, hw⟩ := DataW.trod_int ht h
  exact ⟨n, rfl, hw⟩
theorem opens_bool (ht : P.underlying t = some .bool) : Opens P Kd.bool t (fun _ => True) := by
  intro H enc w base spare held fuel cs x h
  obtain ⟨b, rfl, _⟩ := DataW.trod_bool ht h
  exact ⟨b, rfl, trivial⟩
theorem opens_string (ht : P.underlying t = some .string) : Opens P Kd.string t (fun s => s.size ≤ maxLen) := by
  intro H enc w base spare held fuel cs x h
  obtain ⟨s, rfl, _, hs⟩ := DataW.trod_string ht h
  exact ⟨s, rfl, hs⟩
theorem opens_slice {α : Type} {k : Kd α} {wf : α → Prop} (ht : P.underlying t = some (.slice e)) (hC : P.cellsOf e = k.sz) (hk : Opens P k e wf) : Opens P (Kd.slice e k) t (fun l => l.length ≤ 9223372036854775807 ∧ ∀ x ∈ l, wf x) := by
  intro H enc w base spare held fuel cs x h
  rcases Go.Deep.open_slice ht h with ⟨rfl, _⟩ | ⟨a, len, cap, m, n, D, Pl, rfl, hb, hl, hm, hmm, hx, hi⟩
  · exact ⟨[], ⟨none, 0, rfl, Nat.le_refl _, Kd.C_nil _ _⟩, by simp, fun x hx => by cases hx⟩
  · have hlm : len ≤ m := by rw [hmm]; split <;> omega
    have build : ∀ q, q ≤ len → ∃ l : List α, l.length = q ∧ (∀ x ∈ l, wf x) ∧ ∀ j p, l[j]? = some p → ∃ c, c.length = k.sz ∧ k.K w p c ∧ ∀ i u, c[i]? = some u → w.cell? (a.add (j * k.sz + i)) = some u := by
      intro q
      induction q with
      | zero => exact fun _ => ⟨[], rfl, (fun x hx => by cases hx), (fun j p hj => by simp at hj)⟩
      | succ q ih =>
        intro hq
        obtain ⟨l, h1, h2, h3⟩ := ih (by omega)
        obtain ⟨cs', hc, ht'⟩ := hi q (by omega)
        obtain ⟨p, hp, hw⟩ := hk ht'
        obtain ⟨_, hcl, hat⟩ := World.cells?_some hc
        refine ⟨l ++ [p], by simp [h1], fun x hx => ?_, fun j p' hj => ?_⟩
        · rcases List.mem_append.1 hx with hx | hx
          · exact h2 x hx
          · rw [List.mem_singleton.1 hx]; exact hw
        · by_cases hjq : j < q
          · rw [List.getElem?_append_left (by omega)] at hj
            exact h3 j p' hj
          · have hjq2 : j = q := by
              rcases Nat.lt_or_ge j (q + 1) with h | h
              · omega
              · rw [List.getElem?_eq_none (by simp [h1]; omega)] at hj
                cases hj
            subst hjq2
            rw [List.getElem?_append_right (by omega), h1, Nat.sub_self] at hj
            obtain rfl : p = p' := by simpa using hj
            refine ⟨cs', by rw [hcl, hC], hp, fun i u hu => ?_⟩
            have hil : i < cs'.length := (List.getElem?_eq_some_iff.1 hu).1
            have := hat i (by omega)
            rw [hu, Go.Deep.add_add, hC] at this
            exact this
    obtain ⟨l, h1, h2, h3⟩ := build len (Nat.le_refl _)
    have hm' : len ≤ 9223372036854775807 := by simp only [maxLen] at hm; omega
    refine ⟨l, ⟨some a, cap, by rw [h1], by omega, by rw [h1], ?_, fun _ => ⟨a, rfl, h3⟩⟩, by omega, h2⟩
    simp only [maxLen] at hm
    omega
/-- A slice among the arguments. -/
theorem arg_slice {α : Type} {k : Kd α} {wf : α → Prop} (ho : Opens P (Kd.slice e k) t (fun l => l.length ≤ 9223372036854775807 ∧ ∀ x ∈ l, wf x)) {H : Type} {enc : TypeId × Value → H} {w : World} {base : Nat} {spare : Nat → Bool} {held : Bool} {a : Option Addr} {len cap : Nat} {d : DataW H} {ps : List MemPlace} (h : DataW.Trod enc P w base spare held t (.slice a len cap) d ps) :
    ∃ l : List α, len = l.length ∧ l.length ≤ cap ∧ k.C w a l.length l ∧ (l.length ≤ 9223372036854775807 ∧ ∀ x ∈ l, wf x) := by
  obtain ⟨fuel, hf⟩ := h
  obtain ⟨l, ⟨A, c, he, hl, hc⟩, hw⟩ := ho hf
  have he' : Value.slice a len cap = .slice A l.length c := by simpa [Value.cells] using he
  injection he' with e1 e2 e3
  subst e1 e2 e3
  exact ⟨l, rfl, hl, hc, hw⟩
end

end Go.Proofs.Ytknkdbleeaaleaa.Print
