/- The arguments of a row, opened to values told without addresses. -/
import Derived.Test.YtphlhadgcfndhaaGreatAbsS
import Derived.Deep.Slices
import Derived.Deep.Fields
import Derived.OpenShut
import Derived.ChangeSame
import Derived.DataReads
namespace Go.Proofs.YtphlhadgcfndhaaGreat.Abs
open Go Go.RowKit Go.ChangeShapes Go.WideShapes
set_option linter.unusedVariables false
set_option linter.unusedSimpArgs false

def inW (w : World) (b : Nat) : Prop := b < w.heap.size
def RepFs (w : World) (cs : List Cell) (vs : List Value) : Prop := cs.length = vs.length ∧ ∀ (i : Nat) (c : Cell) (v : Value), cs[i]? = some c → vs[i]? = some v → RepF w (inW w) c v
/-- What a value's cells say where a type's data can be read. -/
def OpF (P : Program) {α : Type} (en : α → List Cell) (t : TypeId) (wf : α → Prop) : Prop :=
  ∀ {H : Type} {enc : TypeId × Value → H} {w : World} {base : Nat} {spare : Nat → Bool} {held : Bool} {fuel : Nat} {cs : List Value} {x : DataW H × List MemPlace}, DataW.trod enc P w base spare held fuel t cs = some x → ∃ a : α, RepFs w (en a) cs ∧ wf a
section
variable {P : Program} {t e : TypeId}
theorem RepFs.one {w : World} {c : Cell} {v : Value} (h : RepF w (inW w) c v) : RepFs w [c] [v] := ⟨rfl, fun i c' v' hc hv => by
  cases i with
  | zero => cases hc; cases hv; exact h
  | succ i => simp at hc⟩
theorem opF_int {k : IntKind} (ht : P.underlying t = some (.int k)) : OpF P (fun n : Int => [.sc (.int k n)]) t (fun a => (Lit.int k a).wf = true) := by
  intro H enc w base spare held fuel cs x h
  obtain ⟨n, rfl, _, hw⟩ := DataW.trod_int ht h
  exact ⟨n, .one (.sc _ rfl), hw⟩
theorem opF_bool (ht : P.underlying t = some .bool) : OpF P (fun b : Bool => [.sc (.bool b)]) t (fun _ => True) := by
  intro H enc w base spare held fuel cs x h
  obtain ⟨b, rfl, _⟩ := DataW.trod_bool ht h
  exact ⟨b, .one (.sc _ rfl), trivial⟩
theorem opF_slice {α : Type} {en : α → List Cell} {sz : Nat} {wf : α → Prop} (ht : P.underlying t = some (.slice e)) (hC : P.cellsOf e = sz) (hpos : 0 < sz) (hsz : ∀ a, (en a).length = sz) (hk : OpF P en e wf) : OpF P (fun l : List α => [.row sz false (l.map en)]) t (fun l => l.length ≤ 9223372036854775807 ∧ ∀ x ∈ l, wf x) := by
  intro H enc w base spare held fuel cs x h
  have h0 := h
  rcases Go.Deep.open_slice ht h with ⟨rfl, _⟩ | ⟨a, len, cap, m, n, D, Pl, rfl, hb, hl, hm, hmm, hx, hi⟩
  · exact ⟨[], .one (.row (es := []) (cap := 0) (fun _ _ => undef) (Nat.le_refl _) (fun h => by cases h) (by simp) (by simp) (fun ad _ i e h => by simp at h) (fun i e h => by simp at h)), by simp, fun x hx => by cases hx⟩
  · have hlm : len ≤ m := by rw [hmm]; split <;> omega
    have build : ∀ q, q ≤ len → ∃ l : List α, l.length = q ∧ (∀ x ∈ l, wf x) ∧ ∀ j p, l[j]? = some p → ∃ c : List Value, c.length = sz ∧ RepFs w (en p) c ∧ ∀ i u, c[i]? = some u → w.cell? (a.add (j * sz + i)) = some u := by
      intro q
      induction q with
      | zero => exact fun _ => ⟨[], rfl, (fun x hx => by cases hx), (fun j p hj => by simp at hj)⟩
      | succ q ih =>
        intro hq
        obtain ⟨l, h1, h2, h3⟩ := ih (by omega)
        obtain ⟨cs', hc, ht'⟩ := hi q (by omega)
        obtain ⟨p, hp, hw⟩ := hk ht'
        obtain ⟨_, hcl, hat⟩ := World.cells?_some hc
        refine ⟨l ++ [p], by simp [h1], fun x hx => ?_, fun j p' hj => ?_⟩
        · rcases List.mem_append.1 hx with hx | hx
          · exact h2 x hx
          · rw [List.mem_singleton.1 hx]; exact hw
        · by_cases hjq : j < q
          · rw [List.getElem?_append_left (by omega)] at hj
            exact h3 j p' hj
          · have hjq2 : j = q := by
              rcases Nat.lt_or_ge j (q + 1) with h | h
              · omega
              · rw [List.getElem?_eq_none (by simp [h1]; omega)] at hj
                cases hj
            subst hjq2
            rw [List.getElem?_append_right (by omega), h1, Nat.sub_self] at hj
            obtain rfl : p = p' := by simpa using hj
            refine ⟨cs', by rw [hcl, hC], hp, fun i u hu => ?_⟩
            have hil : i < cs'.length := (List.getElem?_eq_some_iff.1 hu).1
            have := hat i (by omega)
            rw [hu, Go.Deep.add_add, hC] at this
            exact this
    obtain ⟨l, h1, h2, h3⟩ := build len (Nat.le_refl _)
    have hm' : len ≤ 9223372036854775807 := by simp only [maxLen] at hm; omega
    refine ⟨l, .one ?_, by omega, h2⟩
    have hlen : (l.map en).length = len := by rw [List.length_map, h1]
    have at_ : ∀ (i : Nat) (q : List Cell), (l.map en)[i]? = some q → ∃ p c, l[i]? = some p ∧ q = en p ∧ c.length = sz ∧ RepFs w (en p) c ∧ ∀ r u, c[r]? = some u → w.cell? (a.add (i * sz + r)) = some u := fun i q hq => by
      rw [List.getElem?_map] at hq
      cases hp : l[i]? with
      | none => rw [hp] at hq; cases hq
      | some p =>
        rw [hp] at hq
        cases hq
        obtain ⟨c, hc1, hc2, hc3⟩ := h3 i p hp
        exact ⟨p, c, rfl, rfl, hc1, hc2, hc3⟩
    have := RepF.row (w := w) (ok := inW w) (k := sz) (t := false) (es := l.map en) (A := some a) (cap := cap) (fun i j => (w.cell? (a.add (i * sz + j))).getD undef) (by omega) (fun h => by cases h) (fun q hq => by
        obtain ⟨p, _, rfl⟩ := List.mem_map.1 hq
        exact hsz p) (fun hne => ⟨a, rfl, by
        obtain ⟨q, hq⟩ : ∃ q, (l.map en)[0]? = some q := ⟨_, List.getElem?_eq_getElem (List.length_pos_iff.2 hne)⟩
        obtain ⟨p, c, _, _, hc1, _, hc3⟩ := at_ 0 q hq
        have h5 := hc3 0 _ (List.getElem?_eq_getElem (by omega))
        unfold World.cell? at h5
        rw [add_block] at h5
        show a.block < w.heap.size
        rcases Nat.lt_or_ge a.block w.heap.size with hlt | hge
        · exact hlt
        · rw [Array.getElem?_eq_none hge] at h5
          cases h5⟩) (fun ad had i q hq j hj => by
        cases had
        obtain ⟨p, c, _, _, hc1, _, hc3⟩ := at_ i q hq
        rw [hc3 j _ (List.getElem?_eq_getElem (by omega))]
        rfl) (fun i q hq j d hd => by
        obtain ⟨p, c, _, rfl, hc1, hc2, hc3⟩ := at_ i q hq
        have hj : j < c.length := by rw [← hc2.1]; exact (List.getElem?_eq_some_iff.1 hd).1
        rw [hc3 j _ (List.getElem?_eq_getElem hj)]
        exact hc2.2 j d _ hd (List.getElem?_eq_getElem hj))
    rw [hlen] at this
    exact this
theorem opF_str (ht : P.underlying t = some .string) : OpF P (fun s : ByteArray => [.sc (.string s)]) t (fun s => s.size ≤ maxLen) := by
  intro H enc w base spare held fuel cs x h
  obtain ⟨s, rfl, _, hs⟩ := DataW.trod_string ht h
  exact ⟨s, .one (.sc _ rfl), hs⟩
theorem repAs_nil {w : World} {ok : Nat → Prop} {β : Nat → Bnd} : RepAs w ok β [] #[] := ⟨rfl, fun i a v h => by simp at h⟩
theorem repAs_cons {w : World} {ok : Nat → Prop} {β : Nat → Bnd} {a : AVal} {v : Value} {bs : List AVal} {vs : List Value} (h : RepV w ok β a v) (hs : RepAs w ok β bs vs.toArray) : RepAs w ok β (a :: bs) (v :: vs).toArray :=
  ⟨by simpa using hs.1, fun i b u hb hu => by
    cases i with
    | zero =>
      simp at hb hu
      subst hb hu
      exact h
    | succ i => exact hs.2 i b u (by simpa using hb) (by simpa using hu)⟩
theorem repV_agg {w : World} {β : Nat → Bnd} {cs : List Cell} {vs : Array Value} (h : RepFs w cs vs.toList) : RepV w (inW w) β (.agg cs) (.agg vs) := .agg ⟨h.1, fun i c v hc hv => .fz (h.2 i c v hc hv)⟩
end
/-- What a slice of words weighs bounds its length. -/
theorem len_of_weight {P : Program} {t e : TypeId} (ht : P.underlying t = some (.slice e)) (hb : P.bytesOf e = 8) {H : Type} {enc : TypeId × Value → H} {w : World} {base : Nat} {spare : Nat → Bool} {held : Bool} {fuel : Nat} {a : Option Addr} {len cap : Nat} {d : DataW H} {q : List MemPlace}
    (h : DataW.trod enc P w base spare held fuel t [.slice a len cap] = some (d, q)) (hw : (d.weights P t).all (· ≤ reachBytes) = true) : len < 4000000000000000000 := by
  rcases Go.Deep.open_slice ht h with ⟨hcs, _⟩ | ⟨a', len', cap', m, n, D, Pl, hcs, hbs, hl, hm, hmm, hx, hi⟩
  · cases hcs
    omega
  · cases hcs
    have hd : d = .slice ((List.range len).map D) ((List.range (m - len)).map fun j => D (len + j)) := congrArg Prod.fst hx
    subst hd
    rw [DataW.weights, ht] at hw
    simp only [List.all_cons, Bool.and_eq_true, decide_eq_true_eq, List.length_map, List.length_range, hb] at hw
    have := hw.1
    unfold reachBytes at this
    omega
theorem row_len {w : World} {ok : Nat → Prop} {k : Nat} {t : Bool} {es : List (List Cell)} {a : Option Addr} {len cap : Nat} (h : RepF w ok (.row k t es) (.slice a len cap)) : es.length = len := by
  cases h with
  | row => rfl
end Go.Proofs.YtphlhadgcfndhaaGreat.Abs
