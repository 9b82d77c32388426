/- Each operation's plan is what the machine does: literals. -/
import Derived.Test.YtphlhadgcfndhaaGreatAbs8
namespace Go.Proofs.YtphlhadgcfndhaaGreat.Abs
open Go Go.RowKit
set_option linter.unusedVariables false
set_option linter.unusedSimpArgs false

section
variable {P : Program} {base : Nat} {A : Nat → Prop} {w0 w : World} {β : Nat → Bnd} {σ : Sig} {n : Nat}

theorem foldl_set (off : Nat) : ∀ (vs : List Value) (k : Nat) (cells : Array Value) (q : Nat),
    ((vs.zipIdx k).foldl (fun cs (x : Value × Nat) => cs.setIfInBounds (off + x.2) x.1) cells)[q]? = (if off + k ≤ q ∧ q < off + k + vs.length ∧ q < cells.size then vs[q - off - k]? else cells[q]?) ∧ ((vs.zipIdx k).foldl (fun cs (x : Value × Nat) => cs.setIfInBounds (off + x.2) x.1) cells).size = cells.size
  | [], k, cells, q => by
    refine ⟨?_, rfl⟩
    rw [if_neg (by simp; omega)]
    rfl
  | v :: vs, k, cells, q => by
    rw [List.zipIdx_cons, List.foldl_cons]
    obtain ⟨h1, h2⟩ := foldl_set off vs (k + 1) (cells.setIfInBounds (off + k) v) q
    refine ⟨?_, by rw [h2, Array.size_setIfInBounds]⟩
    rw [h1, Array.size_setIfInBounds, Array.getElem?_setIfInBounds, List.length_cons]
    by_cases c1 : off + (k + 1) ≤ q ∧ q < off + (k + 1) + vs.length ∧ q < cells.size
    · rw [if_pos c1, if_pos (by omega)]
      rw [show q - off - k = (q - off - (k + 1)) + 1 from by omega]
      simp
    · rw [if_neg c1]
      by_cases c2 : off + k = q
      · rw [if_pos c2]
        by_cases c3 : q < cells.size
        · rw [if_pos (show off + k < cells.size by omega), if_pos (show off + k ≤ q ∧ q < off + k + (vs.length + 1) ∧ q < cells.size by omega)]
          rw [show q - off - k = 0 from by omega]
          rfl
        · rw [if_neg (show ¬ off + k < cells.size by omega), if_neg (show ¬ (off + k ≤ q ∧ q < off + k + (vs.length + 1) ∧ q < cells.size) by omega)]
          rw [Array.getElem?_eq_none (by omega)]
      · rw [if_neg c2, if_neg (show ¬ (off + k ≤ q ∧ q < off + k + (vs.length + 1) ∧ q < cells.size) by omega)]
theorem fill_step {ok : Nat → Prop} {cs p : List Cell} {cells : Array Value} {v : Value} (h : RepL w ok β cs cells.toList) (hp : RepL w ok β p v.cells.toList) {off : Nat} (hf : off + p.length ≤ cs.length) :
    RepL w ok β (cs.take off ++ p ++ cs.drop (off + p.length)) (v.cells.zipIdx.foldl (fun cs (x : Value × Nat) => cs.setIfInBounds (off + x.2) x.1) cells).toList := by
  have hz : v.cells.zipIdx.foldl (fun cs (x : Value × Nat) => cs.setIfInBounds (off + x.2) x.1) cells = (v.cells.toList.zipIdx 0).foldl (fun cs (x : Value × Nat) => cs.setIfInBounds (off + x.2) x.1) cells := by
    rw [← Array.foldl_toList, Array.toList_zipIdx]
  rw [hz]
  have hs := fun q => foldl_set off v.cells.toList 0 cells q
  have hcl : cs.length = cells.size := by rw [h.1, Array.length_toList]
  have hpl : p.length = v.cells.toList.length := hp.1
  refine ⟨?_, fun q c u hc hu => ?_⟩
  · have := (hs 0).2
    generalize ((v.cells.toList.zipIdx 0).foldl (fun cs (x : Value × Nat) => cs.setIfInBounds (off + x.2) x.1) cells) = X at this ⊢
    have hX : X.toList.length = X.size := Array.length_toList
    simp only [List.length_append, List.length_take, List.length_drop]
    omega
  · rw [Array.getElem?_toList, (hs q).1] at hu
    by_cases c1 : q < off
    · rw [List.append_assoc, List.getElem?_append_left (by rw [List.length_take]; omega), List.getElem?_take_of_lt c1] at hc
      rw [if_neg (by omega)] at hu
      exact h.2 q c u hc (by rw [Array.getElem?_toList]; exact hu)
    · by_cases c2 : q < off + p.length
      · rw [List.append_assoc, List.getElem?_append_right (by rw [List.length_take]; omega), List.length_take, List.getElem?_append_left (by omega), show q - min off cs.length = q - off from by omega] at hc
        rw [if_pos (by omega), show q - off - 0 = q - off from by omega] at hu
        exact hp.2 _ c u hc hu
      · rw [List.getElem?_append_right (by rw [List.length_append, List.length_take]; omega), List.getElem?_drop, List.length_append, List.length_take, show off + p.length + (q - (min off cs.length + p.length)) = q from by omega] at hc
        rw [if_neg (by omega)] at hu
        exact h.2 q c u hc (by rw [Array.getElem?_toList]; exact hu)
/-- Parts that are filled in. -/
theorem fill_sound {ok : Nat → Prop} {place : Nat → Option (Nat × Nat)} : ∀ (ps : List (Nat × Value)) (l : List (Nat × List Cell)) (cs cs' : List Cell) (cells : Array Value), RepL w ok β cs cells.toList →
    ps.length = l.length → (∀ (q : Nat) (i : Nat) (v : Value) (off : Nat) (p : List Cell), ps[q]? = some (i, v) → l[q]? = some (off, p) → place i = some (off, p.length) ∧ RepL w ok β p v.cells.toList) → fillC cs l = some cs' →
    ∃ cells', Instr.fill place cells ps = some cells' ∧ RepL w ok β cs' cells'.toList
  | [], [], cs, cs', cells, h, _, _, hf => by
    cases hf
    exact ⟨cells, rfl, h⟩
  | (i, v) :: ps, (off, p) :: l, cs, cs', cells, h, hl, hall, hf => by
    unfold fillC at hf
    split at hf
    case isFalse => cases hf
    rename_i hfit
    obtain ⟨h1, h2⟩ := hall 0 i v off p rfl rfl
    have hst := fill_step h h2 hfit
    obtain ⟨cells', h3, h4⟩ := fill_sound ps l _ cs' _ hst (by simpa using hl) (fun q i v off p a b => hall (q + 1) i v off p (by simpa using a) (by simpa using b)) hf
    refine ⟨cells', ?_, h4⟩
    have hsz : v.cells.size = p.length := by rw [h2.1, Array.length_toList]
    have hcs : cells.size = cs.length := by rw [h.1, Array.length_toList]
    unfold Instr.fill
    simp only [h1]
    rw [if_neg (by
      simp only [hsz, hcs, ne_eq, not_true_eq_false, decide_false, Bool.false_or, decide_eq_true_eq]
      omega)]
    exact h3
  | [], _ :: _, _, _, _, _, hl, _, _ => by simp at hl
  | _ :: _, [], _, _, _, _, hl, _, _ => by simp at hl
theorem partsF_sound {T : TyEnv} {ok : Nat → Prop} {fs : Array Field} {ρ : Operand → AVal} {ev : Operand → Value} (hρ : ∀ x, RepV w ok β (ρ x) (ev x)) : ∀ (ps : List (Nat × Operand)) (l : List (Nat × List Cell)), partsF T fs ρ ps = some l →
    ps.length = l.length ∧ ∀ (q : Nat) (i : Nat) (x : Operand) (off : Nat) (p : List Cell), ps[q]? = some (i, x) → l[q]? = some (off, p) → ∃ f tf, fs[i]? = some f ∧ look f.type T = some tf ∧ f.offset = off ∧ p.length = tf.size ∧ RepL w ok β p (ev x).cells.toList
  | [], l, h => by
    cases h
    exact ⟨rfl, fun q i x off p hq => by simp at hq⟩
  | (i, x) :: r, l, h => by
    unfold partsF at h
    split at h
    · rename_i f cs l' hf hc hr
      split at h
      · rename_i tf htf
        split at h
        · rename_i hlen
          cases h
          obtain ⟨h1, h2⟩ := partsF_sound hρ r l' hr
          refine ⟨by simp [h1], fun q i' x' off p hq hl => ?_⟩
          cases q with
          | zero =>
            simp at hq hl
            obtain ⟨rfl, rfl⟩ := hq
            obtain ⟨rfl, rfl⟩ := hl
            exact ⟨f, tf, hf, htf, rfl, hlen, cells_of hc (hρ x)⟩
          | succ q => exact h2 q i' x' off p (by simpa using hq) (by simpa using hl)
        · cases h
      · cases h
    · cases h
theorem placesM {T : TyEnv} (hT : TOk P T) : ∀ fs : List Field, (∀ f ∈ fs, (look f.type T).isSome = true) → ∃ places, fs.mapM (fun f => (P.info? f.type).map fun i => (f.offset, i.size)) = some places ∧ ∀ (i : Nat) (f : Field) (tf : TI), fs[i]? = some f → look f.type T = some tf → places[i]? = some (f.offset, tf.size)
  | [], _ => ⟨[], rfl, fun i f tf h => by simp at h⟩
  | f :: fs, h => by
    obtain ⟨places, h1, h2⟩ := placesM hT fs fun g hg => h g (by simp [hg])
    cases hf : look f.type T with
    | none => have := h f (by simp); rw [hf] at this; cases this
    | some tf =>
      obtain ⟨i, hi, _, hs, _⟩ := info_of (hT _ _ hf)
      refine ⟨(f.offset, tf.size) :: places, by simp [List.mapM_cons, hi, h1, hs], fun q g tg hq hg => ?_⟩
      cases q with
      | zero =>
        simp at hq
        subst hq
        rw [hf] at hg
        cases hg
        rfl
      | succ q => simpa using h2 q g tg (by simpa using hq) hg
theorem build_sound {T : TyEnv} (hT : TOk P T) (I : Inv base A w0 β σ w) {t : Nat} {ti : TI} (h : TyOk P t ti) {ρ : Operand → AVal} {ev : Operand → Value} (hρ : ∀ x, RepV w (okOf base A w β) β (ρ x) (ev x)) {ps : Array (Nat × Operand)} {e : Eff} {p : Prop} (he : (planBuild T ti ρ ps.toList).run σ = some (e, p)) :
    SO P base A w0 β w σ n e (do pure (.value (← Instr.build t (ps.map fun (i, x) => (i, ev x))))) := by
  unfold planBuild at he
  split at he
  case h_2 => cases he
  rename_i fs hd
  split at he
  case isFalse => cases he
  rename_i hall
  split at he
  case h_2 => cases he
  rename_i l hl
  split at he
  case h_2 => cases he
  rename_i cs hcs
  cases he
  obtain ⟨h1, h2⟩ := partsF_sound hρ _ l hl
  obtain ⟨places, hpl, hpat⟩ := placesM hT fs.toList (fun f hf => by
    rw [List.all_eq_true] at hall
    exact hall f hf)
  obtain ⟨i, hi, hz, hs, _⟩ := info_of h
  have hu := h.1
  rw [hd] at hu
  obtain ⟨cells', h3, h4⟩ := fill_sound (place := fun x => places.toArray[x]?) (ps.toList.map fun (i, x) => (i, ev x)) l ti.zeros cs ti.zero.cells (zeros_rep h) (by simp [h1]) (fun q i v off p hq hl => by
    rw [List.getElem?_map] at hq
    cases hpq : ps.toList[q]? with
    | none => rw [hpq] at hq; cases hq
    | some ix =>
      rw [hpq] at hq
      obtain ⟨i0, x0⟩ := ix
      simp at hq
      obtain ⟨rfl, rfl⟩ := hq
      obtain ⟨f, tf, g1, g2, g3, g4, g5⟩ := h2 q i0 x0 off p hpq hl
      refine ⟨?_, g5⟩
      have := hpat i0 f tf (by simpa using g1) g2
      simp only [List.getElem?_toArray]
      rw [this, g3, g4]) hcs
  refine SO.val I (u := .agg cells') ?_ (.agg h4)
  refine run_build w t _ cells' ?_
  unfold Program.built
  simp only [hi, hu, hz, hpl]
  simpa using h3
end
end Go.Proofs.YtphlhadgcfndhaaGreat.Abs
