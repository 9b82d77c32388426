/- Each operation's plan is what the machine does: reads and writes. -/
import Derived.Test.YtphlhadgcfndhaaGreatAbs3
namespace Go.Proofs.YtphlhadgcfndhaaGreat.Abs
open Go Go.RowKit
set_option linter.unusedVariables false
set_option linter.unusedSimpArgs false

def Turn (base : Nat) (A : Nat → Prop) (w0 : World) (β : Nat → Bnd) (w : World) (σ : Sig) (n : Nat) (e : Eff) (nx : Next) (w' : World) : Prop :=
  ∃ u β', (nx = .value u ∨ (nx = .skip ∧ u = undef)) ∧ Inv base A w0 β' (e.sig n σ) w' ∧ (∀ i, BLe (β i) (β' i)) ∧ (∀ x, okOf base A w β x → okOf base A w' β' x ∧ w'.heap[x]? = w.heap[x]?) ∧ (∀ i, i ≠ n → β i = .no → β' i = .no) ∧ RepV w' (okOf base A w' β') β' (e.aval n) u
def SO (P : Program) (base : Nat) (A : Nat → Prop) (w0 : World) (β : Nat → Bnd) (w : World) (σ : Sig) (n : Nat) (e : Eff) (s : Sem Next) : Prop :=
  ∃ nx w', s.run P w = .ok nx w' ∧ Turn base A w0 β w σ n e nx w'

section
variable {P : Program} {base : Nat} {A : Nat → Prop} {w0 w : World} {β : Nat → Bnd} {σ : Sig} {n : Nat}

/-- A value, the world as it was. -/
theorem SO.val (I : Inv base A w0 β σ w) {s : Sem Value} {v : AVal} {u : Value} (hr : s.run P w = .ok u w) (hv : RepV w (okOf base A w β) β v u) :
    SO P base A w0 β w σ n (.val v) (do pure (.value (← s))) := by
  refine ⟨.value u, w, ?_, u, β, .inl rfl, I, fun i => .same _, fun x h => ⟨h, rfl⟩, fun _ _ h => h, hv⟩
  simp [hr]
theorem info_of {t : Nat} {ti : TI} (h : TyOk P t ti) : ∃ i, P.info? t = some i ∧ i.zero = some ti.zero ∧ i.size = ti.size ∧ i.bytes = ti.bytes := by
  cases hi : P.info? t with
  | none => have := h.2.1; rw [hi] at this; cases this
  | some i =>
    have := h.2.1
    rw [hi] at this
    simp only [Option.map_some, Option.some.injEq, Prod.mk.injEq] at this
    exact ⟨i, rfl, this.1, this.2.1, this.2.2⟩
theorem run_isAgg {t : Nat} {ti : TI} (h : TyOk P t ti) (w : World) : (isAgg t).run P w = .ok ti.agg w := by
  have := run_underlying (w := w) h.1
  unfold isAgg TI.agg
  simp only [Sem.run_bind, this, Result.andThen_ok]
  cases ti.d <;> rfl
theorem run_sizeOf {t : Nat} {ti : TI} (h : TyOk P t ti) (w : World) : (sizeOf t).run P w = .ok ti.size w := by
  obtain ⟨i, hi, _, hs, _⟩ := info_of h
  simp [sizeOf, typeInfo, hi, hs]
theorem run_zeroValue {t : Nat} {ti : TI} (h : TyOk P t ti) (w : World) : (zeroValue t).run P w = .ok ti.zero w := by
  obtain ⟨i, hi, hz, hs, _⟩ := info_of h
  simp [zeroValue, typeInfo, hi, hz]
theorem run_loadAt_agg {t : Nat} {ti : TI} (h : TyOk P t ti) (ha : ti.agg = true) {ad : Addr} (f : Nat → Value) (hf : ∀ j, j < ti.size → w.cell? (ad.add j) = some (f j)) :
    (Instr.loadAt t (.pointer (some ad))).run P w = .ok (.agg ((List.range ti.size).map f).toArray) w := by
  simp [Instr.loadAt, Instr.sureAddr, loadVar, run_isAgg h, ha, run_sizeOf h, run_loadCells w ad ti.size f hf]
theorem run_loadAt_one {t : Nat} {ti : TI} (h : TyOk P t ti) (ha : ti.agg = false) {ad : Addr} {v : Value} (hf : w.cell? ad = some v) :
    (Instr.loadAt t (.pointer (some ad))).run P w = .ok v w := by
  simp [Instr.loadAt, Instr.sureAddr, loadVar, run_isAgg h, ha, hf]
/-- Reading: from cells that stand for cs. -/
theorem read_sound {ok : Nat → Prop} {t : Nat} {ti : TI} (h : TyOk P t ti) {ad : Addr} {cs : List Cell} (f : Nat → Value) (hf : ∀ j, j < cs.length → w.cell? (ad.add j) = some (f j)) (hr : ∀ (j : Nat) (c : Cell), cs[j]? = some c → RepC w ok β c (f j)) {v : AVal} (hv : readA ti cs = some v) :
    ∃ u, (Instr.loadAt t (.pointer (some ad))).run P w = .ok u w ∧ RepV w ok β v u := by
  unfold readA at hv
  split at hv
  · rename_i ha
    split at hv
    · rename_i hl
      cases hv
      refine ⟨_, run_loadAt_agg h ha f (fun j hj => hf j (by omega)), .agg ⟨by simp [List.length_take]; omega, fun i c u hc hu => ?_⟩⟩
      have hi : i < ti.size := by
        have := (List.getElem?_eq_some_iff.1 hc).1
        rw [List.length_take] at this
        omega
      rw [List.getElem?_take_of_lt hi] at hc
      simp [hi] at hu
      subst hu
      exact hr i c hc
    · cases hv
  · rename_i ha
    cases cs with
    | nil => cases hv
    | cons c cs =>
      cases hv
      refine ⟨f 0, run_loadAt_one h (by simpa using ha) ?_, .c (hr 0 c rfl)⟩
      have := hf 0 (by simp)
      rwa [Addr.add_zero'] at this
theorem objCell (I : Inv base A w0 β σ w) {id b k cap : Nat} (hb : β id = .live b k cap) {o : AObj} (ho : look id σ = some o) {i : Nat} {e : List Cell} (he : o.es[i]? = some e) {j : Nat} {c : Cell} (hc : e[j]? = some c) :
    ∃ v, w.cell? ⟨b, i * k + j, none⟩ = some v ∧ RepC w (okOf base A w β) β c v := by
  obtain ⟨arr, ty, h1, h2, h3, h4⟩ := (I.obj id b k cap o hb ho).hat
  obtain ⟨v, hv, hr⟩ := h4 i e he j c hc
  refine ⟨v, ?_, hr⟩
  unfold World.cell?
  rw [h1]
  exact hv
theorem live_of (I : Inv base A w0 β σ w) {id : Nat} {o : AObj} (ho : look id σ = some o) : (∃ b k cap, β id = .live b k cap) ∨ (β id = .virt ∧ o.es = []) := by
  rcases (I.dom id).1 (by rw [ho]; rfl) with h | h
  · exact .inl h
  · exact .inr ⟨h, I.virt id o h ho⟩
theorem live_at (I : Inv base A w0 β σ w) {id : Nat} {o : AObj} (ho : look id σ = some o) {i : Nat} {e : List Cell} (he : o.es[i]? = some e) : ∃ b k cap, β id = .live b k cap := by
  rcases live_of I ho with h | ⟨_, h⟩
  · exact h
  · rw [h] at he
    simp at he
theorem load_sound (I : Inv base A w0 β σ w) {t : Nat} {ti : TI} (h : TyOk P t ti) {x : AVal} {u : Value} (hx : RepV w (okOf base A w β) β x u) {e : Eff} {p : Prop} (he : (planLoad ti x).run σ = some (e, p)) :
    SO P base A w0 β w σ n e (do pure (.value (← Instr.loadAt t u))) := by
  unfold planLoad at he
  split at he
  · rename_i cs
    split at he
    · rename_i v hv
      cases he
      cases hx with
      | c hx =>
      cases hx with
      | fz hx =>
      cases hx with
      | fad vs h1 h2 h3 =>
      obtain ⟨u, h4, h5⟩ := read_sound h vs h2 (fun j c hc => .fz (h3 j c hc)) hv
      exact SO.val I h4 h5
    · cases he
  · rename_i id i off
    simp only [Plan.run, looks] at he
    split at he
    · cases he
    · rename_i os hos
      cases ho : look id σ with
      | none => rw [ho] at hos; cases hos
      | some o =>
        rw [ho] at hos
        simp only [Option.map_some, Option.some.injEq] at hos
        subst hos
        simp only at he
        split at he
        · rename_i e' he'
          split at he
          · rename_i v hv
            cases he
            obtain ⟨b, k, cap, hb⟩ := live_at I ho he'
            cases hx with
            | c hx =>
            cases hx with
            | fz hx => cases hx
            | gonep hd _ => rw [hb] at hd; cases hd
            | ptr hb' =>
            rw [hb] at hb'
            cases hb'
            have hc : ∀ (j : Nat) (c : Cell), (e'.drop off)[j]? = some c → ∃ v, w.cell? (Addr.add ⟨b, i * k + off, none⟩ j) = some v ∧ RepC w (okOf base A w β) β c v := fun j c hc => by
              rw [List.getElem?_drop] at hc
              obtain ⟨v, hv, hr⟩ := objCell I hb ho he' hc
              refine ⟨v, ?_, hr⟩
              rw [Addr.add_lit, Nat.add_assoc]
              exact hv
            obtain ⟨u, h4, h5⟩ := read_sound h (ad := ⟨b, i * k + off, none⟩) (cs := e'.drop off) (fun j => (w.cell? (Addr.add ⟨b, i * k + off, none⟩ j)).getD undef)
              (fun j hj => by
                obtain ⟨v, hv, _⟩ := hc j _ (List.getElem?_eq_getElem hj)
                rw [hv]; rfl)
              (fun j c hj => by
                obtain ⟨v, hv, hr⟩ := hc j c hj
                rw [hv]; exact hr) hv
            exact SO.val I h4 h5
          · cases he
        · cases he
  · cases he
end
end Go.Proofs.YtphlhadgcfndhaaGreat.Abs
