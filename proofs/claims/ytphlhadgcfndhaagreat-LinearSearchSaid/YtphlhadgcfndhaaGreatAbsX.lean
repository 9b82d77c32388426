/- Each operation's plan is what the machine does: made slices, functions, fields, appends in place, clearing. -/
import Derived.Test.YtphlhadgcfndhaaGreatAbs10
import Derived.Laws.MakeOwn
namespace Go.Proofs.YtphlhadgcfndhaaGreat.Abs
open Go Go.RowKit
set_option linter.unusedVariables false
set_option linter.unusedSimpArgs false

section
variable {P : Program} {base : Nat} {A : Nat → Prop} {w0 w : World} {β : Nat → Bnd} {σ : Sig} {n : Nat}

theorem Inv.same (I : Inv base A w0 β σ w) {id : Nat} {o : AObj} (ho : look id σ = some o) : Inv base A w0 β (putA id o σ) w := by
  have h : ∀ i, look i (putA id o σ) = look i σ := fun i => by
    rw [look_put]
    split
    · rename_i e; rw [e, ho]
    · rfl
  exact ⟨I.below, I.hbase, I.old, fun id => by rw [h]; exact I.dom id, fun id o hv hl => I.virt id o hv (by rw [← h]; exact hl), I.fin, I.lo, I.inj, fun id b k cap o hb hl => I.obj id b k cap o hb (by rw [← h]; exact hl)⟩
theorem scs_sound {ok : Nat → Prop} {ρ : Operand → AVal} {ev : Operand → Value} (hρ : ∀ x, RepV w ok β (ρ x) (ev x)) : ∀ (l : List Operand) (vs : List Value), scs ρ l = some vs → l.map ev = vs
  | [], vs, h => by cases h; rfl
  | x :: xs, vs, h => by
    unfold scs at h
    split at h
    · rename_i v vs' hv hvs
      cases h
      have hx := hρ x
      rw [hv] at hx
      obtain ⟨h1, _⟩ := sc_of hx
      rw [List.map_cons, h1, scs_sound hρ xs vs' hvs]
    · cases h
theorem capsOf_sound {ρ : Operand → AVal} {ev : Operand → Value} (hρ : ∀ x, RepV w (okOf base A w β) β (ρ x) (ev x)) : ∀ (l : List Operand) (cs : List Cell), capsOf ρ l = some cs → cs.length = l.length ∧ ∀ (j : Nat) (c : Cell) (v : Value), cs[j]? = some c → (l.map ev)[j]? = some v → RepF w (okOf base A w β) c v
  | [], cs, h => by
    cases h
    exact ⟨rfl, fun j c v h => by simp at h⟩
  | x :: l, cs, h => by
    unfold capsOf at h
    split at h
    · rename_i c cs' hx hcs
      split at h
      case isFalse => cases h
      rename_i hf
      cases h
      obtain ⟨h1, h2⟩ := capsOf_sound hρ l cs' hcs
      refine ⟨by simp [h1], fun j d v hd hv => ?_⟩
      cases j with
      | zero =>
        cases hd
        cases hv
        have := hρ x
        rw [hx] at this
        cases this with
        | c h => exact h.frozen hf
      | succ j => exact h2 j d v (by simpa using hd) (by simpa using hv)
    · cases h
theorem makeFunc_sound (I : Inv base A w0 β σ w) {ρ : Operand → AVal} {ev : Operand → Value} (hρ : ∀ x, RepV w (okOf base A w β) β (ρ x) (ev x)) {fn : Fn} {first captured : Array Operand} {e : Eff} {p : Prop} (he : (planMakeFunc ρ fn first.toList captured.toList).run σ = some (e, p)) :
    SO P base A w0 β w σ n e (do pure (.value (← Instr.makeFunc fn (first.map ev) (captured.map ev)))) := by
  unfold planMakeFunc at he
  split at he
  · rename_i g vs hs
    have h1 := scs_sound hρ _ _ hs
    have h3 : first.map ev = vs.toArray := by
      rw [← h1]
      cases first
      simp
    rw [h3]
    split at he
    · rename_i hc
      cases he
      have h2 : captured = #[] := by
        cases captured
        simp at hc
        rw [hc]
      subst h2
      exact SO.val I (by simp [Instr.makeFunc]) (scv _ rfl)
    · split at he
      · rename_i hv
        have hv : vs = [] := List.isEmpty_iff.1 hv
        subst hv
        split at he
        · rename_i cs hcs
          cases he
          obtain ⟨g1, g2⟩ := capsOf_sound hρ _ _ hcs
          refine SO.val I (u := .func (.func g) #[] (captured.map ev)) (by simp [Instr.makeFunc]) (.c (.fz (.fn _ (by simpa using g1) fun j c v hc hv => g2 j c v hc ?_)))
          rw [← Array.getElem?_toList, Array.toList_map] at hv
          exact hv
        · cases he
      · cases he
  · cases he
theorem field_sound {T : TyEnv} (hT : TOk P T) (I : Inv base A w0 β σ w) {t : Nat} {ti : TI} (h : TyOk P t ti) {f : Nat} {x : AVal} {u : Value} (hx : RepV w (okOf base A w β) β x u) {e : Eff} {p : Prop} (he : (planField T ti f x).run σ = some (e, p)) :
    SO P base A w0 β w σ n e (do pure (.value (← Instr.field t u f))) := by
  have hu := h.1
  unfold planField at he
  split at he
  case h_2 => cases he
  rename_i fs hd
  rw [hd] at hu
  split at he
  case h_2 => cases he
  rename_i fd hfd
  split at he
  case h_2 => cases he
  rename_i tf htf
  split at he
  case h_2 => cases he
  rename_i cs
  split at he
  case h_2 => cases he
  rename_i v hv
  cases he
  cases hx with
  | @agg _ vs hr =>
  have htf' := hT _ _ htf
  have hl : cs.length = vs.size := by rw [← Array.length_toList]; exact hr.1
  refine SO.val I (u := if tf.agg = true then .agg (vs.extract fd.offset (fd.offset + tf.size)) else vs.getD fd.offset undef) ?_ ?_
  · unfold readA at hv
    cases ha : tf.agg with
    | true => simp [Instr.field, run_underlying hu, hfd, asAgg, part, run_isAgg htf', ha, run_sizeOf htf']
    | false =>
      rw [ha] at hv
      simp only [if_false, Bool.false_eq_true] at hv
      have hlt : fd.offset < vs.size := by
        split at hv
        · rename_i c r hc
          have := congrArg List.length hc
          rw [List.length_drop, List.length_cons] at this
          omega
        · cases hv
      simp [Instr.field, run_underlying hu, hfd, asAgg, part, run_isAgg htf', ha, hlt]
  · unfold readA at hv
    cases ha : tf.agg with
    | true =>
      rw [ha] at hv
      simp only [if_true] at hv ⊢
      split at hv
      case isFalse => cases hv
      rename_i hle
      cases hv
      rw [List.length_drop] at hle
      refine .agg ⟨?_, fun i c v hc hv => ?_⟩
      · have h3 : (vs.extract fd.offset (fd.offset + tf.size)).toList.length = (vs.extract fd.offset (fd.offset + tf.size)).size := Array.length_toList
        rw [h3, Array.size_extract, List.length_take, List.length_drop]
        omega
      · have hi : i < tf.size := by have := (List.getElem?_eq_some_iff.1 hc).1; rw [List.length_take] at this; omega
        rw [List.getElem?_take_of_lt hi, List.getElem?_drop] at hc
        refine hr.2 _ c v hc ?_
        rw [Array.getElem?_toList] at hv ⊢
        rw [Array.getElem?_extract] at hv
        split at hv
        · exact hv
        · cases hv
    | false =>
      rw [ha] at hv
      simp only [if_false, Bool.false_eq_true] at hv ⊢
      split at hv
      · rename_i c r hc
        cases hv
        have hc0 : cs[fd.offset]? = some c := by
          have := congrArg (·[0]?) hc
          simpa using this
        have hlt : fd.offset < vs.size := by
          have := (List.getElem?_eq_some_iff.1 hc0).1
          omega
        have : vs.getD fd.offset undef = vs[fd.offset] := by simp [hlt]
        rw [this]
        exact .c (hr.2 fd.offset c _ hc0 (by rw [Array.getElem?_toList]; exact Array.getElem?_eq_getElem hlt))
      · cases hv
theorem min_sound (I : Inv base A w0 β σ w) {at_ : Array TypeId} {ty : TypeId} {x y : AVal} {u v : Value} (hx : RepV w (okOf base A w β) β x u) (hy : RepV w (okOf base A w β) β y v) {e : Eff} {p : Prop} (he : (planMin x y).run σ = some (e, p)) :
    SO P base A w0 β w σ n e (do pure (.value (← Builtin.min_ at_ ty #[u, v]))) := by
  unfold planMin at he
  split at he
  · cases he
    obtain ⟨rfl, _⟩ := sc_of hx
    obtain ⟨rfl, _⟩ := sc_of hy
    exact SO.val I (by simp [Builtin.min_, Builtin.min2]) (scv _ rfl)
  · cases he
theorem max_sound (I : Inv base A w0 β σ w) {at_ : Array TypeId} {ty : TypeId} {x y : AVal} {u v : Value} (hx : RepV w (okOf base A w β) β x u) (hy : RepV w (okOf base A w β) β y v) {e : Eff} {p : Prop} (he : (planMax x y).run σ = some (e, p)) :
    SO P base A w0 β w σ n e (do pure (.value (← Builtin.max_ at_ ty #[u, v]))) := by
  unfold planMax at he
  split at he
  · cases he
    obtain ⟨rfl, _⟩ := sc_of hx
    obtain ⟨rfl, _⟩ := sc_of hy
    exact SO.val I (by simp [Builtin.max_, Builtin.max2]) (scv _ rfl)
  · cases he
theorem made_at {t : Nat} {ti : TI} (h : TyOk P t ti) {ok : Nat → Prop} {N i j : Nat} {c : Cell} (hi : i * ti.size + j < N) (hc : ti.zeros[j]? = some c) : ∃ v, (madeCells ti.zero.cells N)[i * ti.size + j]? = some v ∧ RepC w ok β c v := by
  have hz := zeros_rep (w := w) (β := β) (ok := ok) h
  have hj : j < ti.zero.cells.size := by
    have := (List.getElem?_eq_some_iff.1 hc).1
    rw [hz.1, Array.length_toList] at this
    exact this
  have hs := h.2.2.2.1
  refine ⟨ti.zero.cells[j], ?_, hz.2 j c _ hc (by rw [Array.getElem?_toList]; exact Array.getElem?_eq_getElem hj)⟩
  rw [madeCells, Array.getElem?_map, Array.getElem?_range, if_pos hi]
  simp only [Option.map_some]
  have hm : (i * ti.size + j) % ti.zero.cells.size = j := by
    rw [hs, Nat.add_comm, Nat.add_mul_mod_self_right]
    exact Nat.mod_eq_of_lt (by omega)
  rw [hm, getElem!_pos ti.zero.cells _ hj]
theorem zero_at {t : Nat} {ti : TI} (h : TyOk P t ti) {ok : Nat → Prop} {m i j : Nat} {c : Cell} (hi : i < m) (hc : ti.zeros[j]? = some c) : ∃ v, (Builtin.zeroCells ti.zero.cells m)[i * ti.size + j]? = some v ∧ RepC w ok β c v := by
  have hz := zeros_rep (w := w) (β := β) (ok := ok) h
  have hj : j < ti.zero.cells.size := by
    have := (List.getElem?_eq_some_iff.1 hc).1
    rw [hz.1, Array.length_toList] at this
    exact this
  have hs := h.2.2.2.1
  have hlt : i * ti.size + j < m * ti.size := by
    have : (i + 1) * ti.size ≤ m * ti.size := Nat.mul_le_mul_right _ hi
    rw [Nat.succ_mul] at this
    omega
  obtain ⟨v, hv, hr⟩ := made_at (w := w) (β := β) (ok := ok) h (N := m * ti.size) hlt hc
  refine ⟨v, ?_, hr⟩
  rw [← hv, madeCells, Builtin.zeroCells, hs]
theorem zeros_len {t : Nat} {ti : TI} (h : TyOk P t ti) : ti.zeros.length = ti.size := by
  rw [← h.2.2.2.1, ← Array.length_toList]
  simp [TI.zeros]
theorem makeSlice_sound (I : Inv base A w0 β σ w) (hn : β n = .no) {t el : Nat} {tie : TI} (ht : P.underlying t = some (.slice el)) (hte : TyOk P el tie) {l c : AVal} {ul uc : Value} (hl : RepV w (okOf base A w β) β l ul) (hc : RepV w (okOf base A w β) β c uc) {e : Eff} {p : Prop} (he : (planMakeSlice tie l c).run σ = some (e, p)) (hp : p) :
    SO P base A w0 β w σ n e (do pure (.value (← Instr.makeSlice t ul uc))) := by
  unfold planMakeSlice at he
  split at he
  case h_2 => cases he
  rename_i kl l kc c
  cases he
  obtain ⟨h0, h1, h2, h3⟩ := hp
  obtain ⟨rfl, _⟩ := sc_of hl
  obtain ⟨rfl, _⟩ := sc_of hc
  obtain ⟨i, hi, hz, hsz, hby⟩ := info_of hte
  have hr := run_make (P := P) w t el i tie.zero ht hi hz kl kc l c h0 h1 (by rw [hby]; exact h2) h3
  rw [hsz] at hr
  have hlc : l.toNat ≤ c.toNat := by omega
  obtain ⟨I', hok⟩ := new_inv (n := n) I hn (o := ⟨tie.size, List.replicate l.toNat tie.zeros⟩) (arr := madeCells tie.zero.cells (c.toNat * tie.size)) (ty := el) (cap := c.toNat) (w1 := w) rfl (Below.refl _ _) (by simpa using hlc) (fun e he => by rw [List.eq_of_mem_replicate he]; exact zeros_len hte) (size_madeCells _ _) (fun v hv => by
      simp only [madeCells, Array.toList_map, List.mem_map] at hv
      obtain ⟨q, _, rfl⟩ := hv
      have hz := hte.2.2.1
      rw [Array.all_eq_true_iff_forall_mem] at hz
      by_cases h0 : tie.zero.cells.size = 0
      · have : tie.zero.cells = #[] := Array.eq_empty_of_size_eq_zero h0
        rw [this]; rfl
      · have hlt : q % tie.zero.cells.size < tie.zero.cells.size := Nat.mod_lt _ (by omega)
        rw [getElem!_pos tie.zero.cells _ hlt]
        exact hz _ (Array.getElem_mem hlt))
    (fun q e he j d hd => by
      have hq : q < l.toNat := by have := (List.getElem?_eq_some_iff.1 he).1; simpa using this
      rw [List.getElem?_replicate, if_pos hq] at he
      cases he
      have hj : j < tie.size := by rw [← zeros_len hte]; exact (List.getElem?_eq_some_iff.1 hd).1
      refine made_at hte ?_ hd
      have : (q + 1) * tie.size ≤ c.toNat * tie.size := Nat.mul_le_mul_right _ (by omega)
      rw [Nat.succ_mul] at this
      omega)
  refine ⟨.value (.slice (some ⟨w.heap.size, 0, none⟩) l.toNat c.toNat), _, by simp only [Sem.run_bind, hr, Result.andThen_ok, Sem.run_pure], _, _, .inl rfl, I', updB_le (by rw [hn]; exact .no _), hok, fun i hi h => by rw [updB_ne _ _ hi]; exact h, .c ?_⟩
  have := RepC.ref (w := w.alloc (.cells (madeCells tie.zero.cells (c.toNat * tie.size)) el)) (ok := okOf base A (w.alloc (.cells (madeCells tie.zero.cells (c.toNat * tie.size)) el)) (updB β n (.live w.heap.size tie.size c.toNat))) (β := updB β n (.live w.heap.size tie.size c.toNat)) (id := n) (lo := 0) (n := l.toNat) (updB_self _ _ _) (by omega)
  simpa using this
/-- Elements of an object are written, one behind the other. -/
theorem put_run {R : Cell → Value → Prop} {k cap lo : Nat} {old new : List (List Cell)} {arr news : List Value} (hlen : ∀ e ∈ old, e.length = k) (hsz : arr.length = cap * k) (hcap : old.length ≤ cap) (hfit : lo + new.length ≤ old.length)
    (hat : ∀ (i : Nat) (e : List Cell), old[i]? = some e → ∀ (j : Nat) (c : Cell), e[j]? = some c → ∃ v, arr[i * k + j]? = some v ∧ R c v) (hF : Flat R k new news) :
    lo * k + news.length ≤ arr.length ∧ ∀ (i : Nat) (e : List Cell), (old.take lo ++ new ++ old.drop (lo + new.length))[i]? = some e → ∀ (j : Nat) (c : Cell), e[j]? = some c → ∃ v, (arr.take (lo * k) ++ news ++ arr.drop (lo * k + news.length))[i * k + j]? = some v ∧ R c v := by
  have hnl := hF.1
  have h1 : (lo + new.length) * k ≤ cap * k := Nat.mul_le_mul_right _ (by omega)
  rw [Nat.add_mul] at h1
  refine ⟨by omega, fun i e he j c hc => ?_⟩
  have hal : (arr.take (lo * k)).length = lo * k := by rw [List.length_take]; omega
  have hol : (old.take lo).length = lo := by rw [List.length_take]; omega
  by_cases hi : i < lo
  · have hi1 : (i + 1) * k ≤ lo * k := Nat.mul_le_mul_right _ hi
    rw [Nat.succ_mul] at hi1
    rw [List.append_assoc, List.getElem?_append_left (by omega), List.getElem?_take_of_lt hi] at he
    have hj : j < k := by rw [← hlen e (List.mem_of_getElem? he)]; exact (List.getElem?_eq_some_iff.1 hc).1
    obtain ⟨v, hv, hr⟩ := hat i e he j c hc
    refine ⟨v, ?_, hr⟩
    rw [List.append_assoc, List.getElem?_append_left (by omega), List.getElem?_take_of_lt (by omega)]
    exact hv
  · by_cases hi2 : i < lo + new.length
    · rw [List.append_assoc, List.getElem?_append_right (by omega), hol, List.getElem?_append_left (by omega)] at he
      obtain ⟨v, hv, hr⟩ := hF.2.2 _ e he j c hc
      refine ⟨v, ?_, hr⟩
      have : (i - lo) * k + lo * k = i * k := by rw [← Nat.add_mul, Nat.sub_add_cancel (by omega)]
      have hlt := (List.getElem?_eq_some_iff.1 hv).1
      rw [List.append_assoc, List.getElem?_append_right (by omega), hal, List.getElem?_append_left (by omega), ← hv]
      congr 1
      omega
    · rw [List.getElem?_append_right (by rw [List.length_append]; omega), List.getElem?_drop] at he
      have he' : old[i]? = some e := by
        rw [← he]
        congr 1
        rw [List.length_append]
        omega
      have hj : j < k := by rw [← hlen e (List.mem_of_getElem? he')]; exact (List.getElem?_eq_some_iff.1 hc).1
      obtain ⟨v, hv, hr⟩ := hat i e he' j c hc
      refine ⟨v, ?_, hr⟩
      have h2 : (lo + new.length) * k ≤ i * k := Nat.mul_le_mul_right _ (by omega)
      rw [Nat.add_mul] at h2
      rw [List.getElem?_append_right (by rw [List.length_append]; omega), List.getElem?_drop, ← hv]
      congr 1
      rw [List.length_append]
      omega
theorem rewrite_inv (I : Inv base A w0 β σ w) {id b k cap : Nat} (hb : β id = .live b k cap) {o : AObj} (ho : look id σ = some o) {arr : Array Value} {ty : TypeId} (hh : w.heap[b]? = some (.cells arr ty (0, 0))) (hsz : arr.size = cap * k) (hone : ∀ v ∈ arr.toList, v.oneCell' = true)
    (hat : ∀ (i : Nat) (e : List Cell), o.es[i]? = some e → ∀ (j : Nat) (c : Cell), e[j]? = some c → ∃ v, arr[i * k + j]? = some v ∧ RepC w (okOf base A w β) β c v) {lo : Nat} {new : List (List Cell)} {news : List Value} (hF : Flat (RepC w (okOf base A w β) β) k new news) (h1 : ∀ v ∈ news, v.oneCell' = true) (hfit : lo + new.length ≤ o.es.length) :
    Inv base A w0 β (putA id { o with es := o.es.take lo ++ new ++ o.es.drop (lo + new.length) } σ) (w.setRow b (arr.toList.take (lo * k) ++ news ++ arr.toList.drop (lo * k + news.length)).toArray) ∧ (∀ x, okOf base A w β x → okOf base A (w.setRow b (arr.toList.take (lo * k) ++ news ++ arr.toList.drop (lo * k + news.length)).toArray) β x ∧ (w.setRow b (arr.toList.take (lo * k) ++ news ++ arr.toList.drop (lo * k + news.length)).toArray).heap[x]? = w.heap[x]?) ∧
      (storeCells ⟨b, lo * k, none⟩ news).run P w = .ok () (w.setRow b (arr.toList.take (lo * k) ++ news ++ arr.toList.drop (lo * k + news.length)).toArray) := by
  have O := I.obj id b k cap o hb ho
  obtain ⟨g1, g2⟩ := put_run (arr := arr.toList) (cap := cap) O.hlen (by rw [Array.length_toList]; exact hsz) O.hcap hfit (fun i e he j c hc => by
    obtain ⟨v, hv, hr⟩ := hat i e he j c hc
    exact ⟨v, by rw [Array.getElem?_toList]; exact hv, hr⟩) hF
  have hal0 : arr.toList.length = arr.size := Array.length_toList
  rw [hal0] at g1
  obtain ⟨I', hok⟩ := write_inv I hb ho (o' := { o with es := o.es.take lo ++ new ++ o.es.drop (lo + new.length) }) (arr' := (arr.toList.take (lo * k) ++ news ++ arr.toList.drop (lo * k + news.length)).toArray) O.hk (by have := O.hcap; simp only [List.length_append, List.length_take, List.length_drop]; omega) (fun e he => by
      simp only [List.mem_append] at he
      rcases he with (he | he) | he
      · exact O.hlen e (List.mem_of_mem_take he)
      · exact hF.2.1 e he
      · exact O.hlen e (List.mem_of_mem_drop he)) (by
      have hal : arr.toList.length = arr.size := Array.length_toList
      rw [← hsz]
      simp only [List.size_toArray, List.length_append, List.length_take, List.length_drop]
      omega) (fun v hv => by
      simp only [List.mem_append] at hv
      rcases hv with (hv | hv) | hv
      · exact hone v (List.mem_of_mem_take hv)
      · exact h1 v hv
      · exact hone v (List.mem_of_mem_drop hv)) (fun i e he j c hc => by
      rw [List.getElem?_toArray]
      exact g2 i e he j c hc)
  have hst := run_storeCells_at P b (lo * k) ty news 0 arr w hh (by simpa using g1) h1
  simp only [Nat.add_zero] at hst
  exact ⟨I', hok, hst⟩
theorem clear_sound (I : Inv base A w0 β σ w) {t ty el : Nat} {tie : TI} (ht : P.underlying t = some (.slice el)) (hte : TyOk P el tie) {x : AVal} {u : Value} (hx : RepV w (okOf base A w β) β x u) {e : Eff} {p : Prop} (he : (planClear tie x).run σ = some (e, p)) (hp : p) :
    SO P base A w0 β w σ n e (do pure (.value (← Builtin.clear_ #[t] ty #[u]))) := by
  unfold planClear at he
  split at he
  case h_2 => cases he
  rename_i id lo m
  obtain ⟨o, ho, he⟩ := use1 he
  cases he
  obtain ⟨hfit, hok'⟩ := hp
  have rt : ∀ {w'}, RepV w' (okOf base A w' β) β (.tup []) (.tuple #[]) := fun {w'} => .tup rfl (fun i a u h => by simp at h)
  have nothing : m = 0 → SO P base A w0 β w σ n (.wr id { o with es := o.es.take lo ++ List.replicate m tie.zeros ++ o.es.drop (lo + m) } (.tup [])) (do pure (.value (.tuple #[]))) := fun h0 => by
    subst h0
    have : ({ o with es := o.es.take lo ++ List.replicate 0 tie.zeros ++ o.es.drop (lo + 0) } : AObj) = o := by simp
    rw [this]
    exact ⟨.value (.tuple #[]), w, rfl, _, β, .inl rfl, I.same ho, BLe.refl' β, fun x h => ⟨h, rfl⟩, fun _ _ h => h, rt⟩
  rcases ref_live I ho hx with ⟨b, k, cap, hb, hcap, rfl⟩ | ⟨_, hoe, rfl, rfl, ad, rfl⟩
  · by_cases h0 : m = 0
    · have := nothing h0
      obtain ⟨nx, w', hr, h⟩ := this
      refine ⟨nx, w', ?_, h⟩
      rw [← hr]
      subst h0
      simp [Builtin.clear_, run_underlying ht]
    · have O := I.obj id b k cap o hb ho
      have hk : tie.size = k := by rw [← hok', O.hk]
      subst hk
      obtain ⟨arr, tyo, hh, hsz, hone, hat⟩ := O.hat
      obtain ⟨i, hi, hz, hsz', hby⟩ := info_of hte
      have hF : Flat (RepC w (okOf base A w β) β) tie.size (List.replicate m tie.zeros) (Builtin.zeroCells tie.zero.cells m).toList := by
        refine ⟨by rw [Array.length_toList, zero_size hte, List.length_replicate], fun e he => by rw [List.eq_of_mem_replicate he]; exact zeros_len hte, fun q e he j c hc => ?_⟩
        have hq : q < m := by have := (List.getElem?_eq_some_iff.1 he).1; simpa using this
        rw [List.getElem?_replicate, if_pos hq] at he
        cases he
        rw [Array.getElem?_toList]
        exact zero_at hte hq hc
      obtain ⟨I', hk', hst⟩ := rewrite_inv (P := P) I hb ho hh hsz hone hat (lo := lo) hF (zero_one hte m) (by rw [List.length_replicate]; exact hfit)
      rw [List.length_replicate] at I'
      refine ⟨.value (.tuple #[]), _, ?_, _, β, .inl rfl, I', BLe.refl' β, hk', fun _ _ h => h, rt⟩
      cases m with
      | zero => exact absurd rfl h0
      | succ m =>
        simp only [Sem.run_bind, Builtin.clear_, List.getElem?_toArray, List.getElem?_cons_zero, run_underlying ht, Result.andThen_ok, zeroValue, typeInfo, hi, hz, Sem.run_pure, hst]
        simp [run_underlying ht, zeroValue, typeInfo, hi, hz, hst]
  · have := nothing rfl
    obtain ⟨nx, w', hr, h⟩ := this
    refine ⟨nx, w', ?_, h⟩
    rw [← hr]
    cases ad <;> simp [Builtin.clear_, run_underlying ht]
/-- The first elements alone. -/
theorem src_pre (I : Inv base A w0 β σ w) {x : AVal} {u : Value} (hx : RepV w (okOf base A w β) β x u) {ids : List Nat} {src : List AObj → Option (List (List Cell))} (hs : srcEs x = some (ids, src)) {os : List AObj} (ho : looks σ ids = some os) {es : List (List Cell)} (he : src os = some es) {k : Nat} (hk : ∀ e ∈ es, e.length = k)
    {tx : TypeId} (hty : ∃ e', P.underlying tx = some (.slice e')) (m : Nat) (hm : m ≤ es.length) : ∃ news, (∀ w' : World, (Builtin.lenOf u).run P w' = .ok es.length w') ∧ (Builtin.firstCells k m u).run P w = .ok news.toArray w ∧ (∀ v ∈ news, v.oneCell' = true) ∧ Flat (RepC w (okOf base A w β) β) k (es.take m) news := by
  have hlen : (es.take m).length = m := by rw [List.length_take]; omega
  have hk' : ∀ e ∈ es.take m, e.length = k := fun e h => hk e (List.mem_of_mem_take h)
  obtain ⟨_, hS0, _⟩ := src_sound I hx hs ho he hk hty
  unfold srcEs at hs
  split at hs
  · rename_i kk t es0
    cases hs
    cases he
    cases hx with
    | c hx => cases hx with
      | fz hx => cases hx with
        | @row _ _ _ Ad cap vs g1 g2 g3 g4 g5 g6 =>
        have hx' : RepV w (okOf base A w β) β (.c (.row kk false (es.take m))) (.slice Ad m cap) := by
          have : RepF w (okOf base A w β) (.row kk false (es.take m)) (.slice Ad (es.take m).length cap) := .row vs (by rw [hlen]; omega) (fun h => by cases h) (fun e h => g3 e (List.mem_of_mem_take h)) (fun hne => g4 fun h0 => hne (by rw [h0, List.take_nil])) (fun ad had i e hi j hj => by
              have hlt : i < m := by have := (List.getElem?_eq_some_iff.1 hi).1; omega
              rw [List.getElem?_take_of_lt hlt] at hi
              exact g5 ad had i e hi j hj) (fun i e hi j c hc => by
              have hlt : i < m := by have := (List.getElem?_eq_some_iff.1 hi).1; omega
              rw [List.getElem?_take_of_lt hlt] at hi
              exact g6 i e hi j c hc)
          rw [hlen] at this
          exact .c (.fz this)
        obtain ⟨news, hS, hF⟩ := src_sound I hx' (ids := []) (src := fun _ => some (es.take m)) rfl (os := []) rfl (es := es.take m) rfl hk' hty
        rw [hlen] at hS
        exact ⟨news, hS0.len, by have := hS.cells; cases Ad <;> exact this, hS.one, hF⟩
  · cases hs
    cases he
    have : m = 0 := by simpa using hm
    subst this
    obtain ⟨rfl, _⟩ := sc_of hx
    exact ⟨[], hS0.len, firstCells_nil _ _ _, by simp, Flat.nil _ _⟩
  · rename_i id lo n2
    cases hs
    have ho2 := ho
    simp only [looks] at ho
    cases hl : look id σ with
    | none => rw [hl] at ho; cases ho
    | some o =>
    rw [hl] at ho
    cases ho
    simp only at he
    split at he
    case isFalse => cases he
    rename_i hle
    cases he
    have hl2 : ((o.es.drop lo).take n2).length = n2 := by rw [List.length_take, List.length_drop]; omega
    rw [hl2] at hm
    have htk : ((o.es.drop lo).take n2).take m = (o.es.drop lo).take m := by rw [List.take_take, Nat.min_eq_left hm]
    rw [htk] at hlen hk' ⊢
    rcases ref_live I hl hx with ⟨b, kk, cap, hb, hcap, rfl⟩ | ⟨hv, hoe, rfl, rfl, ad, rfl⟩
    · have hx' : RepV w (okOf base A w β) β (.c (.ref id lo m)) (.slice (some ⟨b, lo * kk, none⟩) m (cap - lo)) := .c (.ref hb (by omega))
      obtain ⟨news, hS, hF⟩ := src_sound I hx' (ids := [id]) (src := fun | [o] => if lo + m ≤ o.es.length then some ((o.es.drop lo).take m) else none | _ => none) rfl ho2 (es := (o.es.drop lo).take m) (by simp only [if_pos (show lo + m ≤ o.es.length by omega)]) hk' hty
      rw [hlen] at hS
      exact ⟨news, hS0.len, hS.cells, hS.one, hF⟩
    · have : m = 0 := by omega
      subst this
      exact ⟨[], hS0.len, firstCells_zero _ _ _ _, by simp, Flat.nil _ _⟩
  · cases hs
theorem copy_sound (I : Inv base A w0 β σ w) {t tx ty el : Nat} {tie : TI} (ht : P.underlying t = some (.slice el)) (hte : TyOk P el tie) (htx : ∃ e', P.underlying tx = some (.slice e')) {s x : AVal} {us ux : Value} (hs : RepV w (okOf base A w β) β s us) (hx : RepV w (okOf base A w β) β x ux)
    {e : Eff} {p : Prop} (he : (planCopy tie s x).run σ = some (e, p)) (hp : p) : SO P base A w0 β w σ n e (do pure (.value (← Builtin.copy_ #[t, tx] ty #[us, ux]))) := by
  unfold planCopy at he
  split at he
  case h_1 => cases he
  rename_i ids src hsrc
  split at he
  case h_3 => cases he
  case h_2 =>
    rename_i kk tt
    simp only [Plan.run] at he
    cases hos : looks σ ids with
    | none => rw [hos] at he; cases he
    | some os =>
    rw [hos] at he
    simp only at he
    split at he
    case h_2 => cases he
    rename_i es hes
    cases he
    obtain ⟨news, hlen, hcells, hone1, hF⟩ := src_pre (P := P) (tx := tx) I hx hsrc hos hes hp htx 0 (Nat.zero_le _)
    obtain ⟨i, hi, hz, hsz', hby⟩ := info_of hte
    have hn0 : news = [] := by
      have := hF.1
      exact List.eq_nil_of_length_eq_zero (by simpa using this)
    subst hn0
    cases hs with
    | c hs => cases hs with
      | fz hs => cases hs with
        | row =>
          rename_i ad cap _ _ _ _ _ _ _
          refine SO.val I (u := goInt 0) ?_ (scv _ rfl)
          have hmin : Nat.min es.length 0 = 0 := Nat.min_zero _
          cases ad <;> simp [Builtin.copy_, run_underlying ht, sizeOf, typeInfo, hi, hsz', hlen, hmin, hcells, storeCells]
  rename_i id lo m
  simp only [Plan.run, looks] at he
  cases ho : look id σ with
  | none => rw [ho] at he; cases he
  | some o =>
  rw [ho] at he
  cases hos : looks σ ids with
  | none => rw [hos] at he; cases he
  | some os =>
  rw [hos] at he
  simp only [Option.map_some] at he
  split at he
  case h_2 => cases he
  rename_i es hes
  cases he
  obtain ⟨hfit, hok', hk⟩ := hp
  obtain ⟨news, hlen, hcells, hone1, hF⟩ := src_pre (P := P) (tx := tx) I hx hsrc hos hes hk htx (min es.length m) (Nat.min_le_left _ _)
  obtain ⟨i, hi, hz, hsz', hby⟩ := info_of hte
  have htk : es.take (min es.length m) = es.take m := by
    rcases Nat.le_total es.length m with h | h
    · rw [Nat.min_eq_left h, List.take_of_length_le (Nat.le_refl _), List.take_of_length_le h]
    · rw [Nat.min_eq_right h]
  rw [htk] at hF
  have htl : (es.take m).length = min es.length m := by rw [List.length_take, Nat.min_comm]
  have rv : ∀ {w'}, RepV w' (okOf base A w' β) β (.c (.sc (.int .i64 ((min es.length m : Nat) : Int)))) (goInt ((min es.length m : Nat) : Int)) := fun {w'} => scv _ rfl
  rcases ref_live I ho hs with ⟨b, k, cap, hb, hcap, rfl⟩ | ⟨_, hoe, rfl, rfl, ad, rfl⟩
  · have O := I.obj id b k cap o hb ho
    have hkk : tie.size = k := by rw [← hok', O.hk]
    subst hkk
    obtain ⟨arr, tyo, hh, hsz, hone, hat⟩ := O.hat
    obtain ⟨I', hk', hst⟩ := rewrite_inv (P := P) I hb ho hh hsz hone hat (lo := lo) hF hone1 (by rw [htl]; omega)
    rw [htl] at I'
    refine ⟨.value (goInt ((min es.length m : Nat) : Int)), _, ?_, _, β, .inl rfl, I', BLe.refl' β, hk', fun _ _ h => h, rv⟩
    have hmin : Nat.min es.length m = min es.length m := rfl
    simp [Builtin.copy_, run_underlying ht, sizeOf, typeInfo, hi, hsz', hlen, hmin, hcells, hst]
  · have h0 : min es.length 0 = 0 := Nat.min_zero _
    rw [h0] at hcells htl
    have hn0 : news = [] := by
      have := hF.1
      rw [htl] at this
      exact List.eq_nil_of_length_eq_zero (by simpa using this)
    subst hn0
    have heq : ({ o with es := o.es.take 0 ++ es.take 0 ++ o.es.drop (0 + min es.length 0) } : AObj) = o := by simp
    rw [heq]
    refine ⟨.value (goInt ((min es.length 0 : Nat) : Int)), w, ?_, _, β, .inl rfl, I.same ho, BLe.refl' β, fun x h => ⟨h, rfl⟩, fun _ _ h => h, rv⟩
    have hmin : Nat.min es.length 0 = 0 := Nat.min_zero _
    cases ad <;> simp [Builtin.copy_, run_underlying ht, sizeOf, typeInfo, hi, hsz', hlen, hmin, hcells, storeCells]
theorem appendIn_sound (I : Inv base A w0 β σ w) {t tx ty el : Nat} {tie : TI} (ht : P.underlying t = some (.slice el)) (hte : TyOk P el tie) (htx : ∃ e', P.underlying tx = some (.slice e')) {id lo m lo' m' : Nat} {us ux : Value} (hs : RepV w (okOf base A w β) β (.c (.ref id lo m)) us) (hx : RepV w (okOf base A w β) β (.c (.ref id lo' m')) ux)
    {e : Eff} {p : Prop} (he : (planAppendIn tie id lo m lo' m').run σ = some (e, p)) (hp : p) : SO P base A w0 β w σ n e (do pure (.value (← Builtin.append_ #[t, tx] ty #[us, ux]))) := by
  unfold planAppendIn at he
  obtain ⟨o, ho, he⟩ := use1 he
  cases he
  obtain ⟨hf', hfit, hok'⟩ := hp
  have hlk : looks σ [id] = some [o] := by simp [looks, ho]
  have hsl : ((o.es.drop lo').take m').length = m' := by rw [List.length_take, List.length_drop]; omega
  rcases ref_live I ho hs with ⟨b, k, cap, hb, hcap, rfl⟩ | ⟨_, hoe, rfl, rfl, ad, rfl⟩
  · have O := I.obj id b k cap o hb ho
    have hk : tie.size = k := by rw [← hok', O.hk]
    subst hk
    obtain ⟨news, hS, hF⟩ := src_sound I hx (ids := [id]) (src := fun | [o] => if lo' + m' ≤ o.es.length then some ((o.es.drop lo').take m') else none | _ => none) rfl hlk (es := (o.es.drop lo').take m') (by simp only [if_pos hf']) (fun e he => O.hlen e (List.mem_of_mem_drop (List.mem_of_mem_take he))) htx
    rw [hsl] at hS
    obtain ⟨arr, tyo, hh, hsz, hone, hat⟩ := O.hat
    obtain ⟨i, hi, hz, hsz', hby⟩ := info_of hte
    obtain ⟨I', hk', hst⟩ := rewrite_inv (P := P) I hb ho hh hsz hone hat (lo := lo + m) hF hS.one (by rw [hsl]; exact hfit)
    rw [hsl] at I'
    obtain ⟨e', htx'⟩ := htx
    have hc := O.hcap
    have hle : lo + (m + m') ≤ cap := by omega
    have hst' : (storeCells ⟨b, lo * tie.size + m * tie.size, none⟩ news).run P w = .ok () (w.setRow b (arr.toList.take ((lo + m) * tie.size) ++ news ++ arr.toList.drop ((lo + m) * tie.size + news.length)).toArray) := by
      rw [← Nat.add_mul]
      exact hst
    have hrun : (Builtin.append_ #[t, tx] ty #[.slice (some ⟨b, lo * tie.size, none⟩) m (cap - lo), ux]).run P w = .ok (.slice (some ⟨b, lo * tie.size, none⟩) (m + m') (cap - lo)) (w.setRow b (arr.toList.take ((lo + m) * tie.size) ++ news ++ arr.toList.drop ((lo + m) * tie.size + news.length)).toArray) := by
      simp [Builtin.append_, run_underlying ht, run_underlying htx', sizeOf, typeInfo, hi, hsz', hS.len, show m + m' ≤ cap - lo from by omega, hS.cells, Addr.add_lit, hst']
    exact ⟨.value (.slice (some ⟨b, lo * tie.size, none⟩) (m + m') (cap - lo)), _, by simp only [Sem.run_bind, hrun, Result.andThen_ok, Sem.run_pure], _, β, .inl rfl, I', BLe.refl' β, hk', fun _ _ h => h, .c (.ref hb hle)⟩
  · have hl0 : o.es.length = 0 := by rw [hoe]; rfl
    have hm0 : m' = 0 := by omega
    subst hm0
    obtain ⟨news, hS, hF⟩ := src_sound (k := tie.size) I hx (ids := [id]) (src := fun | [o] => if lo' + 0 ≤ o.es.length then some ((o.es.drop lo').take 0) else none | _ => none) rfl hlk (es := (o.es.drop lo').take 0) (by simp only [if_pos hf']) (fun e he => by simp at he) htx
    rw [hsl] at hS
    have : ({ o with es := o.es.take (0 + 0) ++ (o.es.drop lo').take 0 ++ o.es.drop (0 + 0 + 0) } : AObj) = o := by simp
    rw [this]
    refine ⟨.value (.slice ad 0 0), w, by simp [append_nothing ht hte (Nat.le_refl 0) hS], _, β, .inl rfl, I.same ho, BLe.refl' β, fun x h => ⟨h, rfl⟩, fun _ _ h => h, hs⟩
theorem append_sound (I : Inv base A w0 β σ w) (hn : β n = .no) {t tx ty el : Nat} {tie : TI} (ht : P.underlying t = some (.slice el)) (hte : TyOk P el tie) (htx : ∃ e', P.underlying tx = some (.slice e')) {s x : AVal} {us ux : Value} (hs : RepV w (okOf base A w β) β s us) (hx : RepV w (okOf base A w β) β x ux)
    {e : Eff} {p : Prop} (he : (planAppend tie s x).run σ = some (e, p)) (hp : p) : SO P base A w0 β w σ n e (do pure (.value (← Builtin.append_ #[t, tx] ty #[us, ux]))) := by
  unfold planAppend at he
  split at he
  · rename_i id lo m
    split at he
    · rename_i id' lo' m'
      split at he
      · rename_i hid
        subst hid
        exact appendIn_sound I ht hte htx hs hx he hp
      · exact appendM_sound I hn ht hte hs (fun h1 h2 h3 h4 => src_sound I hx h1 h2 h3 h4 htx) he hp
    · rename_i k tt es
      split at he
      · rename_i hes
        obtain ⟨o, ho, he⟩ := use1 he
        cases he
        have he0 : es = [] := List.isEmpty_iff.1 hes
        subst he0
        obtain ⟨news, hS, hF⟩ := src_sound (k := tie.size) I hx (ids := []) (src := fun _ => some []) rfl (os := []) rfl (es := []) rfl (fun e he => by cases he) htx
        rcases ref_live I ho hs with ⟨b, k, cap, hb, hcap, rfl⟩ | ⟨_, hoe, rfl, rfl, ad, rfl⟩
        · exact SO.val I (append_nothing ht hte (by omega) hS) hs
        · exact SO.val I (append_nothing ht hte (Nat.le_refl 0) hS) hs
      · exact appendM_sound I hn ht hte hs (fun h1 h2 h3 h4 => src_sound I hx h1 h2 h3 h4 htx) he hp
    · exact appendM_sound I hn ht hte hs (fun h1 h2 h3 h4 => src_sound I hx h1 h2 h3 h4 htx) he hp
  · exact appendM_sound I hn ht hte hs (fun h1 h2 h3 h4 => src_sound I hx h1 h2 h3 h4 htx) he hp
theorem appendStr_sound (I : Inv base A w0 β σ w) (hn : β n = .no) {t tx ty el : Nat} {tie : TI} (ht : P.underlying t = some (.slice el)) (hte : TyOk P el tie) (h1 : tie.size = 1) (htx : P.underlying tx = some .string) {s x : AVal} {us ux : Value} (hs : RepV w (okOf base A w β) β s us) (hx : RepV w (okOf base A w β) β x ux)
    {e : Eff} {p : Prop} (he : (planAppendS tie s x).run σ = some (e, p)) (hp : p) : SO P base A w0 β w σ n e (do pure (.value (← Builtin.append_ #[t, tx] ty #[us, ux]))) := by
  unfold planAppendS at he
  split at he
  case h_2 => cases he
  rename_i b
  obtain ⟨rfl, _⟩ := sc_of hx
  refine appendM_sound I hn ht hte hs (fun hs' ho he' hk => ?_) he hp
  cases hs'
  cases he'
  rw [h1]
  have hl : (strEs b).length = b.size := by
    unfold strEs
    rw [List.length_map, Array.length_toList]
    rfl
  rw [hl]
  refine ⟨byteCells b, Src.ofString _ htx b, ?_, fun e he => ?_, fun i e he j c hc => ?_⟩
  · rw [byteCells_length, hl, Nat.mul_one]
  · obtain ⟨y, _, rfl⟩ := List.mem_map.1 he
    rfl
  · unfold strEs at he
    rw [List.getElem?_map] at he
    cases hy : b.data.toList[i]? with
    | none => rw [hy] at he; cases he
    | some y =>
      rw [hy] at he
      cases he
      have hj : j = 0 := by
        have := (List.getElem?_eq_some_iff.1 hc).1
        simp at this
        exact this
      subst hj
      cases hc
      refine ⟨.int .u8 y.toNat, ?_, .fz (.sc _ rfl)⟩
      rw [Nat.mul_one, Nat.add_zero]
      unfold byteCells
      rw [List.getElem?_map, hy]
      rfl
theorem grow_sound (I : Inv base A w0 β σ w) (hn : β n = .no) {t tx ty el : Nat} {tie : TI} (ht : P.underlying t = some (.slice el)) (hte : TyOk P el tie) {kx : IntKind} (htx : P.underlying tx = some (.int kx)) {s x : AVal} {us ux : Value} (hs : RepV w (okOf base A w β) β s us) (hx : RepV w (okOf base A w β) β x ux)
    {e : Eff} {p : Prop} (he : (planGrow tie s x).run σ = some (e, p)) (hp : p) : SO P base A w0 β w σ n e (do pure (.value (← Builtin.append_ #[t, tx] ty #[us, ux]))) := by
  unfold planGrow at he
  split at he
  case h_3 => cases he
  case h_2 =>
    rename_i k c es kk m
    cases he
    obtain ⟨h0, rfl, hc, h1⟩ := hp
    obtain ⟨rfl, _⟩ := sc_of hx
    cases hs with
    | @cut _ _ _ ad hs =>
    obtain ⟨olds, hfo, ho1, hfirst⟩ := firstCells_rep (P := P) (β := β) hs
    obtain ⟨i, hi, hz, hsz, hby⟩ := info_of hte
    obtain ⟨q, rfl⟩ : ∃ q : Nat, m = q := ⟨m.toNat, by omega⟩
    simp only [Int.toNat_natCast] at h1 hc ⊢
    have hg1 := h1.1
    have hg2 := h1.2
    have hw : IntKind.i64.wrap (q : Int) = q := by rw [IntKind.wrap_i64]; omega
    have hne : ¬ (q : Int) < 0 := by omega
    have hqb : q * tie.bytes ≤ (es.length + q) * tie.bytes := Nat.mul_le_mul_right _ (by omega)
    have h48 : ¬ (281474976710656 : Int) < (q : Int) * i.bytes := by
      rw [hby]
      have hq2 : q * tie.bytes < 140737488355328 := by omega
      have h : ((q * tie.bytes : Nat) : Int) < 140737488355328 := Int.ofNat_lt.2 hq2
      rw [Int.natCast_mul] at h
      omega
    have h63 : ¬ (9223372036854775807 : Int) < (es.length : Int) + (q : Int) := by omega
    have hcap := cap_ok hc hg1 hg2
    have h48' : ¬ 281474976710656 < Builtin.nextslicecap (es.length + q) c * i.bytes := by rw [hby]; omega
    have hnr : ¬ es.length + q ≤ c := by omega
    obtain ⟨C, hC⟩ : ∃ C, C = grownCap w (es.length + q) c el := ⟨_, rfl⟩
    have hge : es.length + q ≤ C := by rw [hC]; exact grownCap_ge w _ _ _
    have hzq : (if q * tie.size = 0 then #[] else Builtin.zeroCells tie.zero.cells q) = Builtin.zeroCells tie.zero.cells q := by
      split
      · rename_i h
        symm
        apply Array.eq_empty_of_size_eq_zero
        rw [zero_size hte]
        exact h
      · rfl
    have hfd := hfirst w.drew rfl
    have hrun : (Builtin.append_ #[t, tx] ty #[.slice ad es.length c, .int kk q]).run P w = .ok (.slice (some ⟨w.heap.size, 0, none⟩) (es.length + q) C) (w.drew.alloc (.cells (olds.toArray ++ Builtin.zeroCells tie.zero.cells q ++ Builtin.zeroCells tie.zero.cells (C - (es.length + q))) el)) := by
      rw [hC]
      by_cases hzs : q * tie.size = 0
      · rw [if_pos hzs] at hzq
        rw [← hzq]
        simp [Builtin.append_, run_underlying ht, run_underlying htx, asInt, asIntOf, hw, hne, h48, h63, h48', hnr, sizeOf, typeInfo, zeroValue, hi, hz, hsz, hzs, Question.forced, newRow, grownCap, hfd]
      · simp [Builtin.append_, run_underlying ht, run_underlying htx, asInt, asIntOf, hw, hne, h48, h63, h48', hnr, sizeOf, typeInfo, zeroValue, hi, hz, hsz, hzs, Question.forced, newRow, grownCap, hfd]
    obtain ⟨I', hok⟩ := new_inv (n := n) I hn (o := ⟨tie.size, es ++ List.replicate q tie.zeros⟩) (arr := olds.toArray ++ Builtin.zeroCells tie.zero.cells q ++ Builtin.zeroCells tie.zero.cells (C - (es.length + q))) (ty := el) (cap := C) (w1 := w.drew) rfl (Below.drew (Below.refl _ _)) (by simpa using hge) (fun e he => by
        rcases List.mem_append.1 he with he | he
        · exact hfo.2.1 e he
        · rw [List.eq_of_mem_replicate he]; exact zeros_len hte)
      (by rw [Array.size_append, Array.size_append, zero_size hte, zero_size hte, List.size_toArray, hfo.1, ← Nat.add_mul, ← Nat.add_mul, Nat.add_sub_cancel' hge]) (fun v hv => by
        rw [Array.toList_append, List.mem_append, Array.toList_append, List.mem_append] at hv
        rcases hv with (hv | hv) | hv
        · exact ho1 v (by simpa using hv)
        · exact zero_one hte _ v hv
        · exact zero_one hte _ v hv) (fun i e he j c hc => by
        by_cases hi : i < es.length
        · rw [List.getElem?_append_left hi] at he
          obtain ⟨v, hv, hr⟩ := hfo.2.2 i e he j c hc
          refine ⟨v, ?_, hr⟩
          have hlt := (List.getElem?_eq_some_iff.1 hv).1
          rw [Array.getElem?_append_left (by simp only [Array.size_append, List.size_toArray]; omega), Array.getElem?_append_left (by simp only [List.size_toArray]; omega), List.getElem?_toArray]
          exact hv
        · rw [List.getElem?_append_right (by omega)] at he
          have hi2 : i - es.length < q := by have := (List.getElem?_eq_some_iff.1 he).1; simpa using this
          rw [List.getElem?_replicate, if_pos hi2] at he
          cases he
          obtain ⟨v, hv, hr⟩ := zero_at (w := w) (β := β) (ok := okOf base A w β) hte hi2 hc
          refine ⟨v, ?_, hr⟩
          have hlt := (Array.getElem?_eq_some_iff.1 hv).1
          have he1 : (i - es.length) * tie.size + es.length * tie.size = i * tie.size := by rw [← Nat.add_mul, Nat.sub_add_cancel (by omega)]
          have hidx : i * tie.size + j - es.length * tie.size = (i - es.length) * tie.size + j := by omega
          rw [Array.getElem?_append_left (by simp only [Array.size_append, List.size_toArray, hfo.1]; omega), Array.getElem?_append_right (by simp only [List.size_toArray, hfo.1]; omega), List.size_toArray, hfo.1, hidx]
          exact hv)
    refine ⟨_, _, ?_, .slice (some ⟨w.heap.size, 0, none⟩) (es.length + q) C, _, .inl rfl, I', updB_le (by rw [hn]; exact .no _), hok, fun i hi h => by rw [updB_ne _ _ hi]; exact h, .c ?_⟩
    · simp only [Sem.run_bind, hrun, Result.andThen_ok, Sem.run_pure]
    · have := RepC.ref (w := w.drew.alloc (.cells (olds.toArray ++ Builtin.zeroCells tie.zero.cells q ++ Builtin.zeroCells tie.zero.cells (C - (es.length + q))) el)) (ok := okOf base A (w.drew.alloc (.cells (olds.toArray ++ Builtin.zeroCells tie.zero.cells q ++ Builtin.zeroCells tie.zero.cells (C - (es.length + q))) el)) (updB β n (.live w.heap.size tie.size C))) (id := n) (lo := 0) (n := es.length + q) (updB_self β n (.live w.heap.size tie.size C)) (by omega)
      simpa using this
  rename_i k m
  cases he
  obtain ⟨h0, h1⟩ := hp
  obtain ⟨rfl, _⟩ := sc_of hs
  obtain ⟨rfl, _⟩ := sc_of hx
  obtain ⟨i, hi, hz, hsz, hby⟩ := info_of hte
  obtain ⟨q, rfl⟩ : ∃ q : Nat, m = q := ⟨m.toNat, by omega⟩
  simp only [Int.toNat_natCast] at h1 ⊢
  have hq : 0 < q := by omega
  have hg1 := h1.1
  have hg2 := h1.2
  have hw : IntKind.i64.wrap (q : Int) = q := by rw [IntKind.wrap_i64]; omega
  have hne : ¬ (q : Int) < 0 := by omega
  have h48 : ¬ (281474976710656 : Int) < (q : Int) * i.bytes := by
    rw [hby]
    have h : ((q * tie.bytes : Nat) : Int) < 140737488355328 := Int.ofNat_lt.2 hg1
    rw [Int.natCast_mul] at h
    omega
  have h63 : ¬ (9223372036854775807 : Int) < (q : Int) := by omega
  have hns : Builtin.nextslicecap q 0 = q := nextslicecap_zero hq
  have h48' : ¬ 281474976710656 < Builtin.nextslicecap q 0 * i.bytes := by rw [hns, hby]; omega
  obtain ⟨C, hC⟩ : ∃ C, C = grownCap w q 0 el := ⟨_, rfl⟩
  have hge : q ≤ C := by rw [hC]; exact grownCap_ge w _ _ _
  have hzq : (if q * tie.size = 0 then #[] else Builtin.zeroCells tie.zero.cells q) = Builtin.zeroCells tie.zero.cells q := by
    split
    · rename_i h
      symm
      apply Array.eq_empty_of_size_eq_zero
      rw [zero_size hte]
      exact h
    · rfl
  have hrun : (Builtin.append_ #[t, tx] ty #[.slice none 0 0, .int k q]).run P w = .ok (.slice (some ⟨w.heap.size, 0, none⟩) q C) (w.drew.alloc (.cells (Builtin.zeroCells tie.zero.cells q ++ Builtin.zeroCells tie.zero.cells (C - q)) el)) := by
    have hq0 : q ≠ 0 := by omega
    rw [hC]
    by_cases hzs : q * tie.size = 0
    · rw [if_pos hzs] at hzq
      rw [← hzq]
      have hzs' : tie.size = 0 := by rcases Nat.mul_eq_zero.1 hzs with h | h <;> omega
      simp [Builtin.append_, run_underlying ht, run_underlying htx, asInt, asIntOf, hw, hne, h48, h63, h48', sizeOf, typeInfo, zeroValue, hi, hz, hsz, hzs', hq0, Question.forced, Builtin.firstCells, newRow, grownCap]
    · have hzs' : tie.size ≠ 0 := fun h => by rw [h] at hzs; simp at hzs
      simp [Builtin.append_, run_underlying ht, run_underlying htx, asInt, asIntOf, hw, hne, h48, h63, h48', sizeOf, typeInfo, zeroValue, hi, hz, hsz, hzs', hq0, Question.forced, Builtin.firstCells, newRow, grownCap]
      exact fun h => absurd h hzs
  obtain ⟨I', hok⟩ := new_inv (n := n) I hn (o := ⟨tie.size, List.replicate q tie.zeros⟩) (arr := Builtin.zeroCells tie.zero.cells q ++ Builtin.zeroCells tie.zero.cells (C - q)) (ty := el) (cap := C) (w1 := w.drew) rfl (Below.drew (Below.refl _ _)) (by simpa using hge) (fun e he => by rw [List.eq_of_mem_replicate he]; exact zeros_len hte)
    (by rw [Array.size_append, zero_size hte, zero_size hte, ← Nat.add_mul, Nat.add_sub_cancel' hge]) (fun v hv => by
      rw [Array.toList_append, List.mem_append] at hv
      rcases hv with hv | hv
      · exact zero_one hte _ v hv
      · exact zero_one hte _ v hv) (fun i e he j c hc => by
      have hi : i < q := by have := (List.getElem?_eq_some_iff.1 he).1; simpa using this
      rw [List.getElem?_replicate, if_pos hi] at he
      cases he
      obtain ⟨v, hv, hr⟩ := zero_at (w := w) (β := β) (ok := okOf base A w β) hte hi hc
      refine ⟨v, ?_, hr⟩
      rw [Array.getElem?_append_left (by exact (Array.getElem?_eq_some_iff.1 hv).1)]
      exact hv)
  refine ⟨_, _, ?_, .slice (some ⟨w.heap.size, 0, none⟩) q C, _, .inl rfl, I', updB_le (by rw [hn]; exact .no _), hok, fun i hi h => by rw [updB_ne _ _ hi]; exact h, .c ?_⟩
  · simp only [Sem.run_bind, hrun, Result.andThen_ok, Sem.run_pure]
  · have := RepC.ref (w := w.drew.alloc (.cells (Builtin.zeroCells tie.zero.cells q ++ Builtin.zeroCells tie.zero.cells (C - q)) el)) (ok := okOf base A (w.drew.alloc (.cells (Builtin.zeroCells tie.zero.cells q ++ Builtin.zeroCells tie.zero.cells (C - q)) el)) (updB β n (.live w.heap.size tie.size C))) (id := n) (lo := 0) (n := q) (updB_self β n (.live w.heap.size tie.size C)) (by omega)
    simpa using this
theorem cap_sound (I : Inv base A w0 β σ w) {t ty el : Nat} (ht : P.underlying t = some (.slice el)) {x : AVal} {u : Value} (hx : RepV w (okOf base A w β) β x u) {e : Eff} {p : Prop} (he : (planCap x).run σ = some (e, p)) :
    SO P base A w0 β w σ n e (do pure (.value (← Builtin.cap_ #[t] ty #[u]))) := by
  unfold planCap at he
  split at he
  · cases he
    obtain ⟨rfl, _⟩ := sc_of hx
    exact SO.val I (by simp [Builtin.cap_, run_underlying ht, goInt]) (scv _ rfl)
  · cases he
    cases hx with
    | c hx => cases hx with
      | fz hx => cases hx with
        | @row _ _ _ Ad cap vs g1 g2 g3 g4 g5 g6 =>
        have := g2 rfl
        subst this
        exact SO.val I (by simp [Builtin.cap_, run_underlying ht, goInt]) (scv _ rfl)
  · cases he
end
end Go.Proofs.YtphlhadgcfndhaaGreat.Abs
