/- Each operation's plan is what the machine does: literals, append. -/
import Derived.Test.YtphlhadgcfndhaaGreatAbs6
namespace Go.Proofs.YtphlhadgcfndhaaGreat.Abs
open Go Go.RowKit
set_option linter.unusedVariables false
set_option linter.unusedSimpArgs false

section
variable {P : Program} {base : Nat} {A : Nat → Prop} {w0 w : World} {β : Nat → Bnd} {σ : Sig} {n : Nat}

/-! ### an append -/
theorem zero_one {t : Nat} {ti : TI} (h : TyOk P t ti) (m : Nat) : ∀ v ∈ (Builtin.zeroCells ti.zero.cells m).toList, v.oneCell' = true := by
  intro v hv
  simp only [Builtin.zeroCells, Array.toList_map, List.mem_map] at hv
  obtain ⟨i, _, rfl⟩ := hv
  have hz := h.2.2.1
  rw [Array.all_eq_true_iff_forall_mem] at hz
  by_cases h0 : ti.zero.cells.size = 0
  · have : ti.zero.cells = #[] := Array.eq_empty_of_size_eq_zero h0
    rw [this]
    rfl
  · have hlt : i % ti.zero.cells.size < ti.zero.cells.size := Nat.mod_lt _ (by omega)
    rw [getElem!_pos ti.zero.cells _ hlt]
    exact hz _ (Array.getElem_mem hlt)
theorem zero_size {t : Nat} {ti : TI} (h : TyOk P t ti) (m : Nat) : (Builtin.zeroCells ti.zero.cells m).size = m * ti.size := by
  simp [Builtin.zeroCells, h.2.2.2.1]
/-- Elements' cells, one behind the other. -/
def Flat (R : Cell → Value → Prop) (k : Nat) (es : List (List Cell)) (vs : List Value) : Prop :=
  vs.length = es.length * k ∧ (∀ e ∈ es, e.length = k) ∧ ∀ (i : Nat) (e : List Cell), es[i]? = some e → ∀ (j : Nat) (c : Cell), e[j]? = some c → ∃ v, vs[i * k + j]? = some v ∧ R c v
theorem Flat.nil (R : Cell → Value → Prop) (k : Nat) : Flat R k [] [] := ⟨by simp, by simp, fun i e h => by simp at h⟩
theorem Flat.append {R : Cell → Value → Prop} {k : Nat} {es es' : List (List Cell)} {vs vs' : List Value} (h : Flat R k es vs) (h' : Flat R k es' vs') : Flat R k (es ++ es') (vs ++ vs') := by
  refine ⟨by rw [List.length_append, List.length_append, h.1, h'.1, Nat.add_mul], fun e he => ?_, fun i e he j c hc => ?_⟩
  · rcases List.mem_append.1 he with he | he
    · exact h.2.1 e he
    · exact h'.2.1 e he
  · by_cases hi : i < es.length
    · rw [List.getElem?_append_left hi] at he
      obtain ⟨v, hv, hr⟩ := h.2.2 i e he j c hc
      exact ⟨v, by rw [List.getElem?_append_left (List.getElem?_eq_some_iff.1 hv).1]; exact hv, hr⟩
    · rw [List.getElem?_append_right (by omega)] at he
      obtain ⟨v, hv, hr⟩ := h'.2.2 _ e he j c hc
      refine ⟨v, ?_, hr⟩
      have : (i - es.length) * k + es.length * k = i * k := by rw [← Nat.add_mul, Nat.sub_add_cancel (by omega)]
      rw [List.getElem?_append_right (by rw [h.1]; omega), h.1]
      rw [show i * k + j - es.length * k = (i - es.length) * k + j from by omega]
      exact hv
theorem Flat.mono {R R' : Cell → Value → Prop} (hR : ∀ c v, R c v → R' c v) {k : Nat} {es : List (List Cell)} {vs : List Value} (h : Flat R k es vs) : Flat R' k es vs :=
  ⟨h.1, h.2.1, fun i e he j c hc => by obtain ⟨v, hv, hr⟩ := h.2.2 i e he j c hc; exact ⟨v, hv, hR c v hr⟩⟩
/-- What an append's second argument yields. -/
theorem src_sound (I : Inv base A w0 β σ w) {x : AVal} {u : Value} (hx : RepV w (okOf base A w β) β x u) {ids : List Nat} {src : List AObj → Option (List (List Cell))} (hs : srcEs x = some (ids, src)) {os : List AObj} (ho : looks σ ids = some os) {es : List (List Cell)} (he : src os = some es) {k : Nat} (hk : ∀ e ∈ es, e.length = k)
    {tx : TypeId} (hty : ∃ e', P.underlying tx = some (.slice e')) : ∃ news, Src P k tx u es.length news w ∧ Flat (RepC w (okOf base A w β) β) k es news := by
  obtain ⟨e', hty⟩ := hty
  have make : ∀ (ad : Addr) (c : Nat), (∀ (i : Nat) (e : List Cell), es[i]? = some e → ∀ (j : Nat) (c : Cell), e[j]? = some c → ∃ v, w.cell? (ad.add (i * k + j)) = some v ∧ RepC w (okOf base A w β) β c v) →
      ∃ news, Src P k tx (.slice (some ad) es.length c) es.length news w ∧ Flat (RepC w (okOf base A w β) β) k es news := by
    intro ad c hc
    have at_ : ∀ m, m < es.length * k → ∃ (c : Cell) (v : Value), w.cell? (ad.add m) = some v ∧ RepC w (okOf base A w β) β c v ∧ ∃ e, es[m / k]? = some e ∧ e[m % k]? = some c := by
      intro m hm
      have hk0 : 0 < k := by
        rcases Nat.eq_zero_or_pos k with h | h
        · rw [h] at hm; simp at hm
        · exact h
      have hi : m / k < es.length := by rw [Nat.div_lt_iff_lt_mul hk0]; exact hm
      have hj : m % k < (es[m / k]).length := by rw [hk _ (List.getElem_mem hi)]; exact Nat.mod_lt _ hk0
      obtain ⟨v, hv, hr⟩ := hc (m / k) _ (List.getElem?_eq_getElem hi) (m % k) _ (List.getElem?_eq_getElem hj)
      rw [Nat.div_add_mod' m k] at hv
      exact ⟨_, v, hv, hr, _, List.getElem?_eq_getElem hi, List.getElem?_eq_getElem hj⟩
    have hget : ∀ j u, ((List.range (es.length * k)).map fun m => (w.cell? (ad.add m)).getD undef)[j]? = some u → w.cell? (ad.add j) = some u := by
      intro j u hu
      rw [List.getElem?_map] at hu
      have hj : j < es.length * k := by
        rcases Nat.lt_or_ge j (es.length * k) with h | h
        · exact h
        · rw [List.getElem?_eq_none (by simpa using h)] at hu; cases hu
      obtain ⟨c, v, hv, _⟩ := at_ j hj
      rw [List.getElem?_range hj, Option.map_some, hv] at hu
      cases hu
      exact hv
    refine ⟨(List.range (es.length * k)).map fun m => (w.cell? (ad.add m)).getD undef, Src.ofSlice w hty ad es.length c _ (by simp) hget (fun u hu => ?_), by simp, hk, fun i e he j c hcj => ?_⟩
    · obtain ⟨j, hj, rfl⟩ := List.mem_iff_getElem.1 hu
      have hj' : j < es.length * k := by simpa using hj
      obtain ⟨c, v, hv, hr, _⟩ := at_ j hj'
      have := hget j _ (List.getElem?_eq_getElem hj)
      rw [hv] at this
      rw [← Option.some.inj this]
      exact hr.one
    · obtain ⟨v, hv, hr⟩ := hc i e he j c hcj
      refine ⟨v, ?_, hr⟩
      have hi := (List.getElem?_eq_some_iff.1 he).1
      have hj : j < k := by
        have := (List.getElem?_eq_some_iff.1 hcj).1
        rw [hk e (List.mem_of_getElem? he)] at this
        exact this
      have hm : i * k + j < es.length * k := by
        have : (i + 1) * k ≤ es.length * k := Nat.mul_le_mul_right k (by omega)
        rw [Nat.succ_mul] at this
        omega
      rw [List.getElem?_map, List.getElem?_range hm, Option.map_some, hv]
      rfl
  unfold srcEs at hs
  split at hs
  · rename_i kk t es0
    cases hs
    cases he
    cases hx with
    | c hx => cases hx with
      | fz hx => cases hx with
        | @row _ _ _ Ad cap vs g1 g2 g3 g4 g5 g6 =>
        by_cases hne : es = []
        · subst hne
          cases Ad with
          | none => exact ⟨[], Src.ofNil w hty cap, Flat.nil _ _⟩
          | some ad => exact make ad cap (fun i e h => by simp at h)
        · obtain ⟨ad, rfl, hok⟩ := g4 hne
          have hkk : kk = k := by
            obtain ⟨e, he⟩ := List.exists_mem_of_ne_nil _ hne
            rw [← g3 e he, hk e he]
          subst hkk
          refine make ad cap (fun i e he j c hc => ⟨vs i j, g5 ad rfl i e he j ?_, .fz (g6 i e he j c hc)⟩)
          have := (List.getElem?_eq_some_iff.1 hc).1
          rw [g3 e (List.mem_of_getElem? he)] at this
          exact this
  · cases hs
    cases he
    obtain ⟨rfl, _⟩ := sc_of hx
    exact ⟨[], Src.ofNil w hty 0, Flat.nil _ _⟩
  · rename_i id lo m
    cases hs
    simp only [looks] at ho
    cases hl : look id σ with
    | none => rw [hl] at ho; cases ho
    | some o =>
    rw [hl] at ho
    cases ho
    simp only at he
    split at he
    case isFalse => cases he
    rename_i hle
    cases he
    rcases ref_live I hl hx with ⟨b, kk, cap, hb, hcap, rfl⟩ | ⟨_, _, rfl, rfl, ad, rfl⟩
    case inr =>
      cases ad with
      | none => exact ⟨[], Src.ofNil w hty 0, Flat.nil _ _⟩
      | some ad =>
        have := make ad 0 (fun i e h => by simp at h)
        simpa using this
    have O := I.obj id b kk cap o hb hl
    have hlen : ((o.es.drop lo).take m).length = m := by rw [List.length_take, List.length_drop]; omega
    by_cases hm0 : m = 0
    · subst hm0
      have := make ⟨b, lo * kk, none⟩ (cap - lo) (fun i e h => by simp at h)
      simpa using this
    · have hkk : kk = k := by
        have h0 : 0 < ((o.es.drop lo).take m).length := by omega
        rw [← hk _ (List.getElem_mem h0)]
        exact (O.hlen _ (List.mem_of_mem_drop (List.mem_of_mem_take (List.getElem_mem h0)))).symm
      subst hkk
      have := make ⟨b, lo * kk, none⟩ (cap - lo) (fun i e he j c hc => by
        have hi : i < m := by have := (List.getElem?_eq_some_iff.1 he).1; omega
        rw [List.getElem?_take_of_lt hi, List.getElem?_drop] at he
        obtain ⟨v, hv, hr⟩ := objCell I hb hl he hc
        refine ⟨v, ?_, hr⟩
        rw [Addr.add_lit, ← hv]
        congr 2
        rw [Nat.add_mul]
        omega)
      rw [hlen] at this ⊢
      exact this
  · cases hs
theorem cap_ok {need old : Nat} (h : old < need) {by_ : Nat} (hg : need * by_ < 140737488355328) (hg2 : need < 140737488355328) : Builtin.nextslicecap need old * by_ ≤ 281474976710656 := by
  have hb : Builtin.nextslicecap need old ≤ 2 * need := by
    unfold Builtin.nextslicecap
    split
    · omega
    · split
      · omega
      · have : ∀ (r c : Nat), c ≤ 2 * need → Builtin.growBy need r c ≤ 2 * need := by
          intro r
          induction r with
          | zero => intro c hc; exact hc
          | succ r ih =>
            intro c hc
            unfold Builtin.growBy
            split
            · exact hc
            · exact ih _ (by omega)
        exact this 4 old (by omega)
  calc _ ≤ (2 * need) * by_ := Nat.mul_le_mul_right _ hb
    _ = 2 * (need * by_) := Nat.mul_assoc _ _ _
    _ ≤ _ := by omega
/-- An append that makes a new row. -/
theorem grow_new (I : Inv base A w0 β σ w) (hn : β n = .no) {t tx ty el : Nat} {tie : TI} (ht : P.underlying t = some (.slice el)) (he : TyOk P el tie) {u x : Value} {old es : List (List Cell)} {olds news : List Value} {bs : Option Addr} {cp : Nat} (hu : u = .slice bs old.length cp) (hcp : cp < old.length + es.length)
    (hold : Flat (RepC w (okOf base A w β) β) tie.size old olds) (ho1 : ∀ v ∈ olds, v.oneCell' = true) (hfirst : ∀ w' : World, w'.heap = w.heap → (Builtin.firstCells tie.size old.length (.slice bs old.length cp)).run P w' = .ok olds.toArray w')
    (hs : Src P tie.size tx x es.length news w) (hnew : Flat (RepC w (okOf base A w β) β) tie.size es news) (hg : growOk tie (old ++ es).length) :
    SO P base A w0 β w σ n (.new ⟨tie.size, old ++ es⟩ fun id => .c (.ref id 0 (old ++ es).length)) (do pure (.value (← Builtin.append_ #[t, tx] ty #[u, x]))) := by
  obtain ⟨i, hi, hz, hsz, hby⟩ := info_of he
  subst hu
  have hlen : (old ++ es).length = old.length + es.length := List.length_append
  rw [hlen] at hg
  have hrun := run_append_grow_src w t tx ty el i tie.zero ht hi hz bs old.length cp olds (by rw [hsz]; exact hfirst w.drew rfl) x es.length news (by rw [hsz]; exact hs) hcp (by have := hg.2; omega) (by rw [hby]; exact cap_ok hcp hg.1 hg.2)
  obtain ⟨cap, hcap⟩ : ∃ cap, cap = grownCap w (old.length + es.length) cp el := ⟨_, rfl⟩
  have hge : old.length + es.length ≤ cap := by rw [hcap]; exact grownCap_ge w _ _ _
  rw [← hcap] at hrun
  have hflat := hold.append hnew
  obtain ⟨I', hok⟩ := new_inv (n := n) I hn (o := ⟨tie.size, old ++ es⟩) (arr := (olds ++ news).toArray ++ Builtin.zeroCells tie.zero.cells (cap - (old.length + es.length))) (ty := el) (cap := cap) (w1 := w.drew) rfl (Below.drew (Below.refl _ _)) (by simp only [hlen]; exact hge) hflat.2.1
    (by rw [Array.size_append, zero_size he, List.size_toArray, hflat.1, hlen, ← Nat.add_mul, Nat.add_sub_cancel' hge]) (fun v hv => by
      rw [Array.toList_append, List.mem_append] at hv
      rcases hv with hv | hv
      · rcases List.mem_append.1 hv with hv | hv
        · exact ho1 v hv
        · exact hs.one v hv
      · exact zero_one he _ v hv) (fun i e he j c hc => by
      obtain ⟨v, hv, hr⟩ := hflat.2.2 i e he j c hc
      refine ⟨v, ?_, hr⟩
      rw [Array.getElem?_append_left (by simpa using (List.getElem?_eq_some_iff.1 hv).1), List.getElem?_toArray]
      exact hv)
  refine ⟨_, _, ?_, .slice (some ⟨w.heap.size, 0, none⟩) (old.length + es.length) cap, _, .inl rfl, I', updB_le (by rw [hn]; exact .no _), hok, fun i hi h => by rw [updB_ne _ _ hi]; exact h, .c ?_⟩
  · simp only [Sem.run_bind, hrun, Result.andThen_ok, Sem.run_pure]
  · have := RepC.ref (w := w.drew.alloc (.cells ((olds ++ news).toArray ++ Builtin.zeroCells tie.zero.cells (cap - (old.length + es.length))) el)) (ok := okOf base A (w.drew.alloc (.cells ((olds ++ news).toArray ++ Builtin.zeroCells tie.zero.cells (cap - (old.length + es.length))) el)) (updB β n (.live w.heap.size tie.size cap))) (id := n) (lo := 0) (n := old.length + es.length) (updB_self β n (.live w.heap.size tie.size cap)) (by omega)
    rw [hlen]
    simpa using this
end
end Go.Proofs.YtphlhadgcfndhaaGreat.Abs
