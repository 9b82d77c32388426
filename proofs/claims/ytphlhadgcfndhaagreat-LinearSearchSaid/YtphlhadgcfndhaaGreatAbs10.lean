/- Each operation's plan is what the machine does: slices' literals, cuts. -/
import Derived.Test.YtphlhadgcfndhaaGreatAbs9
namespace Go.Proofs.YtphlhadgcfndhaaGreat.Abs
open Go Go.RowKit
set_option linter.unusedVariables false
set_option linter.unusedSimpArgs false

section
variable {P : Program} {base : Nat} {A : Nat → Prop} {w0 w : World} {β : Nat → Bnd} {σ : Sig} {n : Nat}

/-- New blocks besides: the world keeps what was there. -/
theorem Inv.more (I : Inv base A w0 β σ w) {w' : World} (h : Below w.heap.size w w') : Inv base A w0 β σ w' ∧ ∀ x, okOf base A w β x → okOf base A w' β x ∧ w'.heap[x]? = w.heap[x]? := by
  have hok : ∀ x, okOf base A w β x → okOf base A w' β x ∧ w'.heap[x]? = w.heap[x]? := fun x hx => ⟨⟨hx.1, by have := hx.2.1; have := h.size; omega, hx.2.2⟩, h.block x hx.2.1⟩
  exact ⟨⟨I.below.trans (h.mono I.hbase), by have := I.hbase; have := h.size; omega, I.old, I.dom, I.virt, I.fin, fun i b k c hb => by have := I.lo i b k c hb; have := h.size; omega, I.inj,
    fun i b k c o hb hl => (I.obj i b k c o hb hl).mono hok (fun i => .same _) (h.block b (I.lo i b k c hb).2)⟩, hok⟩
theorem RepC.frozen {ok : Nat → Prop} {c : Cell} {v : Value} (h : RepC w ok β c v) (hf : frozenC c = true) : RepF w ok c v := by
  cases h with
  | fz h => exact h
  | ref => cases hf
  | refv => cases hf
  | gone => cases hf
  | ptr => cases hf
  | gonep => cases hf
theorem fill_all (size : Nat) : ∀ (es : List (List Cell)) (done : List Cell) (m : Nat), done.length = m * size → (∀ e ∈ es, e.length = size) →
    fillC (done ++ List.replicate (es.length * size) .any) (es.zipIdx m |>.map fun (e, i) => (i * size, e)) = some (done ++ es.flatten)
  | [], done, m, _, _ => by simp [fillC]
  | e :: es, done, m, hd, he => by
    have hel := he e (by simp)
    rw [List.zipIdx_cons, List.map_cons]
    unfold fillC
    have hlen : (done ++ List.replicate ((e :: es).length * size) Cell.any).length = m * size + (es.length * size + size) := by
      rw [List.length_append, List.length_replicate, hd, List.length_cons, Nat.add_mul, Nat.one_mul]
    rw [if_pos (by rw [hlen, hel]; omega)]
    have h1 : (done ++ List.replicate ((e :: es).length * size) Cell.any).take (m * size) = done := by rw [← hd, List.take_left]
    have h2 : (done ++ List.replicate ((e :: es).length * size) Cell.any).drop (m * size + e.length) = List.replicate (es.length * size) Cell.any := by
      rw [← hd, hel, ← List.drop_drop, List.drop_left, List.drop_replicate, List.length_cons, Nat.add_mul, Nat.one_mul]
      congr 1
      omega
    rw [h1, h2]
    have := fill_all size es (done ++ e) (m + 1) (by rw [List.length_append, hd, hel, Nat.add_mul, Nat.one_mul]) (fun x hx => he x (by simp [hx]))
    rw [this, List.flatten_cons, List.append_assoc]
theorem flat_get (k : Nat) : ∀ (es : List (List Cell)) (i : Nat) (e : List Cell) (j : Nat) (c : Cell), (∀ e ∈ es, e.length = k) → es[i]? = some e → e[j]? = some c → es.flatten[i * k + j]? = some c
  | e0 :: es, 0, e, j, c, hk, he, hc => by
    simp at he
    subst he
    rw [Nat.zero_mul, Nat.zero_add, List.flatten_cons, List.getElem?_append_left (List.getElem?_eq_some_iff.1 hc).1]
    exact hc
  | e0 :: es, i + 1, e, j, c, hk, he, hc => by
    have h0 := hk e0 (by simp)
    rw [List.flatten_cons, List.getElem?_append_right (by rw [h0, Nat.add_mul]; omega)]
    have := flat_get k es i e j c (fun x hx => hk x (by simp [hx])) (by simpa using he) hc
    rw [← this]
    congr 1
    rw [h0, Nat.add_mul]
    omega
  | [], _, _, _, _, _, he, _ => by simp at he
theorem partsS_sound {ok : Nat → Prop} {size : Nat} {ρ : Operand → AVal} {ev : Operand → Value} (hρ : ∀ x, RepV w ok β (ρ x) (ev x)) : ∀ (m : Nat) (ps : List (Nat × Operand)) (es : List (List Cell)), partsS size ρ m ps = some es →
    ps.length = es.length ∧ (∀ e ∈ es, e.length = size ∧ e.all frozenC = true) ∧ ∀ (q i : Nat) (x : Operand) (e : List Cell), ps[q]? = some (i, x) → es[q]? = some e → i = m + q ∧ RepL w ok β e (ev x).cells.toList
  | m, [], es, h => by
    cases h
    exact ⟨rfl, by simp, fun q i x e hq => by simp at hq⟩
  | m, (i, x) :: r, es, h => by
    unfold partsS at h
    split at h
    case isFalse => cases h
    rename_i him
    split at h
    case h_2 => cases h
    rename_i cs l hc hr
    split at h
    case isFalse => cases h
    rename_i hlen
    cases h
    obtain ⟨h1, h2, h3⟩ := partsS_sound hρ (m + 1) r l hr
    refine ⟨by simp [h1], fun e he => ?_, fun q i' x' e hq he => ?_⟩
    · rcases List.mem_cons.1 he with rfl | he
      · exact hlen
      · exact h2 e he
    · cases q with
      | zero =>
        simp at hq he
        obtain ⟨rfl, rfl⟩ := hq
        subst he
        exact ⟨by omega, cells_of hc (hρ x)⟩
      | succ q =>
        obtain ⟨g1, g2⟩ := h3 q i' x' e (by simpa using hq) (by simpa using he)
        exact ⟨by omega, g2⟩
theorem partsN_sound {ok : Nat → Prop} {size : Nat} {ρ : Operand → AVal} {ev : Operand → Value} (hρ : ∀ x, RepV w ok β (ρ x) (ev x)) : ∀ (m : Nat) (ps : List (Nat × Operand)) (es : List (List Cell)), partsN size ρ m ps = some es →
    ps.length = es.length ∧ (∀ e ∈ es, e.length = size) ∧ ∀ (q i : Nat) (x : Operand) (e : List Cell), ps[q]? = some (i, x) → es[q]? = some e → i = m + q ∧ RepL w ok β e (ev x).cells.toList
  | m, [], es, h => by
    cases h
    exact ⟨rfl, by simp, fun q i x e hq => by simp at hq⟩
  | m, (i, x) :: r, es, h => by
    unfold partsN at h
    split at h
    case isFalse => cases h
    rename_i him
    split at h
    case h_2 => cases h
    rename_i cs l hc hr
    split at h
    case isFalse => cases h
    rename_i hlen
    cases h
    obtain ⟨h1, h2, h3⟩ := partsN_sound hρ (m + 1) r l hr
    refine ⟨by simp [h1], fun e he => ?_, fun q i' x' e hq he => ?_⟩
    · rcases List.mem_cons.1 he with rfl | he
      · exact hlen
      · exact h2 e he
    · cases q with
      | zero =>
        simp at hq he
        obtain ⟨rfl, rfl⟩ := hq
        subst he
        exact ⟨by omega, cells_of hc (hρ x)⟩
      | succ q =>
        obtain ⟨g1, g2⟩ := h3 q i' x' e (by simpa using hq) (by simpa using he)
        exact ⟨by omega, g2⟩
theorem partsS_N {size : Nat} {ρ : Operand → AVal} : ∀ (m : Nat) (ps : List (Nat × Operand)) (es : List (List Cell)), partsS size ρ m ps = some es → partsN size ρ m ps = some es
  | m, [], es, h => h
  | m, (i, x) :: r, es, h => by
    unfold partsS at h
    unfold partsN
    split at h
    case isFalse => cases h
    rename_i him
    rw [if_pos him]
    split at h
    case h_2 => cases h
    rename_i cs l hc hr
    split at h
    case isFalse => cases h
    rename_i hlen
    cases h
    simp only [hc, partsS_N (m + 1) r l hr, hlen.1, if_true]
theorem buildS_core {t el : Nat} {tie : TI} (ht : P.underlying t = some (.slice el)) (hte : TyOk P el tie) {ρ : Operand → AVal} {ev : Operand → Value} (hρ : ∀ x, RepV w (okOf base A w β) β (ρ x) (ev x)) {ps : Array (Nat × Operand)} {es : List (List Cell)} (hes : partsN tie.size ρ 0 ps.toList = some es) (hsmall : es.length * tie.size ≤ 16777216) :
    (∀ e ∈ es, e.length = tie.size) ∧ ∃ cells' : Array Value, RepL w (okOf base A w β) β es.flatten cells'.toList ∧ (Instr.buildSlice t es.length (ps.map fun (i, x) => (i, ev x))).run P w = .ok (.slice (some ⟨w.heap.size, 0, none⟩) es.length es.length) (w.alloc (.cells cells' el)) := by
  obtain ⟨h1, h2, h3⟩ := partsN_sound hρ 0 _ es hes
  have hk : ∀ e ∈ es, e.length = tie.size := h2
  obtain ⟨i, hi, hz, hs, hby⟩ := info_of hte
  obtain ⟨zs, hzs⟩ : ∃ zs : Array Value, zs = (Array.range (es.length * tie.size)).map (fun q => (if es.length * tie.size = 0 then (#[] : Array Value) else tie.zero.cells)[q % (if es.length * tie.size = 0 then (#[] : Array Value) else tie.zero.cells).size]!) := ⟨_, rfl⟩
  have hzrep : RepL w (okOf base A w β) β (List.replicate (es.length * tie.size) Cell.any) zs.toList := by
    refine ⟨by simp [hzs], fun q c v hc hv => ?_⟩
    rw [List.getElem?_replicate] at hc
    split at hc
    case isFalse => cases hc
    rename_i hq
    cases hc
    refine .fz (.any v ?_)
    rw [hzs, Array.getElem?_toList, Array.getElem?_map, Array.getElem?_range, if_pos hq, Option.map_some] at hv
    cases hv
    have h0 : ¬ es.length * tie.size = 0 := by omega
    simp only [if_neg h0]
    have hz0 : 0 < tie.zero.cells.size := by
      rw [hte.2.2.2.1]
      rcases Nat.eq_zero_or_pos tie.size with h | h
      · rw [h] at h0; simp at h0
      · exact h
    have hlt : q % tie.zero.cells.size < tie.zero.cells.size := Nat.mod_lt _ hz0
    have hall := hte.2.2.1
    rw [Array.all_eq_true_iff_forall_mem] at hall
    rw [getElem!_pos tie.zero.cells _ hlt]
    exact hall _ (Array.getElem_mem hlt)
  obtain ⟨cells', h4, h5⟩ := fill_sound (place := fun i => some (i * tie.size, tie.size)) (ps.toList.map fun (i, x) => (i, ev x)) (es.zipIdx 0 |>.map fun (e, i) => (i * tie.size, e)) (List.replicate (es.length * tie.size) Cell.any) es.flatten zs hzrep (by simp [h1])
    (fun q i v off p hq hl => by
      rw [List.getElem?_map] at hq hl
      cases hpq : ps.toList[q]? with
      | none => rw [hpq] at hq; cases hq
      | some ix =>
        rw [hpq] at hq
        obtain ⟨i0, x0⟩ := ix
        simp at hq
        obtain ⟨rfl, rfl⟩ := hq
        rw [List.getElem?_zipIdx] at hl
        cases heq : es[q]? with
        | none => rw [heq] at hl; cases hl
        | some e0 =>
          rw [heq] at hl
          simp at hl
          obtain ⟨rfl, rfl⟩ := hl
          obtain ⟨g1, g2⟩ := h3 q i0 x0 e0 hpq heq
          refine ⟨?_, g2⟩
          rw [hk e0 (List.mem_of_getElem? heq), g1, Nat.zero_add]) (by
      have := fill_all tie.size es [] 0 (by simp) hk
      simpa using this)
  have hrun : (Instr.buildSlice t es.length (ps.map fun (i, x) => (i, ev x))).run P w = .ok (.slice (some ⟨w.heap.size, 0, none⟩) es.length es.length) (w.alloc (.cells cells' el)) := by
    have hsm : ¬ (16777216 < es.length * tie.size) := by omega
    have hfill : Instr.fill (fun i => some (i * tie.size, tie.size)) zs (ps.toList.map fun x => (x.fst, ev x.snd)) = some cells' := h4
    by_cases h0 : es.length * tie.size = 0
    · simp only [if_pos h0] at hzs
      have hz1 : zs = #[] := by rw [hzs, h0]; simp
      rw [hz1] at hfill
      simp [Instr.buildSlice, run_underlying ht, run_sizeOf hte, hsm, h0, Array.range_zero', hfill, newRow]
    · simp only [if_neg h0] at hzs
      rw [hzs] at hfill
      simp [Instr.buildSlice, run_underlying ht, run_sizeOf hte, hsm, h0, run_zeroValue hte, hfill, newRow]
  exact ⟨hk, cells', h5, hrun⟩
theorem buildS_sound (I : Inv base A w0 β σ w) (hn : β n = .no) {t el : Nat} {tie : TI} (ht : P.underlying t = some (.slice el)) (hte : TyOk P el tie) {ρ : Operand → AVal} {ev : Operand → Value} (hρ : ∀ x, RepV w (okOf base A w β) β (ρ x) (ev x)) {len : Nat} {ps : Array (Nat × Operand)} {e : Eff} {p : Prop} (he : (planBuildS tie len ρ ps.toList).run σ = some (e, p)) :
    SO P base A w0 β w σ n e (do pure (.value (← Instr.buildSlice t len (ps.map fun (i, x) => (i, ev x))))) := by
  unfold planBuildS at he
  split at he
  case h_2 =>
    split at he
    case h_2 => cases he
    rename_i es hes
    split at he
    case isFalse => cases he
    rename_i hlen
    cases he
    obtain ⟨hl, hsmall⟩ := hlen
    subst hl
    obtain ⟨hk, cells', h5, hrun⟩ := buildS_core ht hte hρ hes hsmall
    have hcz : cells'.toList.length = es.flatten.length := h5.1.symm
    have hfl : es.flatten.length = es.length * tie.size := by
      clear hrun h5 hcz hsmall hes
      induction es with
      | nil => simp
      | cons e l ih =>
        rw [List.flatten_cons, List.length_append, ih (fun x hx => hk x (by simp [hx])), hk e (by simp), List.length_cons, Nat.succ_mul, Nat.add_comm]
    obtain ⟨I', hok⟩ := new_inv (n := n) I hn (o := ⟨tie.size, es⟩) (arr := cells') (ty := el) (cap := es.length) (w1 := w) rfl (Below.refl _ _) (Nat.le_refl _) hk (by rw [← hfl, ← hcz]; simp) h5.one (fun i e he j c hc => by
      have hf := flat_get tie.size es i e j c hk he hc
      have hlt : i * tie.size + j < cells'.toList.length := by rw [hcz]; exact (List.getElem?_eq_some_iff.1 hf).1
      refine ⟨cells'.toList[i * tie.size + j], ?_, h5.2 _ c _ hf (List.getElem?_eq_getElem hlt)⟩
      rw [← Array.getElem?_toList]
      exact List.getElem?_eq_getElem hlt)
    refine ⟨.value (.slice (some ⟨w.heap.size, 0, none⟩) es.length es.length), w.alloc (.cells cells' el), ?_, _, _, .inl rfl, I', updB_le (by rw [hn]; exact .no _), hok, fun i hi h => by rw [updB_ne _ _ hi]; exact h, .c ?_⟩
    · simp only [Sem.run_bind, hrun, Result.andThen_ok, Sem.run_pure]
    · have := RepC.ref (w := w.alloc (.cells cells' el)) (ok := okOf base A (w.alloc (.cells cells' el)) (updB β n (.live w.heap.size tie.size es.length))) (β := updB β n (.live w.heap.size tie.size es.length)) (id := n) (lo := 0) (n := es.length) (updB_self _ _ _) (by omega)
      simpa using this
  rename_i es hes
  split at he
  case isFalse => cases he
  rename_i hlen
  cases he
  obtain ⟨hl, hsmall⟩ := hlen
  subst hl
  obtain ⟨hk, cells', h5, hrun⟩ := buildS_core ht hte hρ (partsS_N 0 _ es hes) hsmall
  have h2 := (partsS_sound hρ 0 _ es hes).2.1
  have hB : Below w.heap.size w (w.alloc (.cells cells' el)) := Below.alloc (Below.refl _ _) (Nat.le_refl _) _
  obtain ⟨I', hok⟩ := I.more hB
  have hnewok : okOf base A (w.alloc (.cells cells' el)) β w.heap.size := ⟨fun h => by have := I.hbase; omega, by simp, fun i b k c hb e => by have := (I.lo i b k c hb).2; omega⟩
  have hcz : cells'.toList.length = es.flatten.length := h5.1.symm
  refine ⟨_, _, ?_, .slice (some ⟨w.heap.size, 0, none⟩) es.length es.length, β, .inl rfl, I', BLe.refl' β, hok, fun _ _ h => h, .c (.fz ?_)⟩
  · simp only [Sem.run_bind, hrun, Result.andThen_ok, Sem.run_pure]
  · have at_ : ∀ (i : Nat) (e : List Cell), es[i]? = some e → ∀ (j : Nat) (c : Cell), e[j]? = some c → ∃ v, cells'.toList[i * tie.size + j]? = some v ∧ RepF (w.alloc (.cells cells' el)) (okOf base A (w.alloc (.cells cells' el)) β) c v := by
      intro i e he j c hc
      have hfl := flat_get tie.size es i e j c hk he hc
      have hlt : i * tie.size + j < cells'.toList.length := by rw [hcz]; exact (List.getElem?_eq_some_iff.1 hfl).1
      refine ⟨_, List.getElem?_eq_getElem hlt, ?_⟩
      have hr := h5.2 _ c _ hfl (List.getElem?_eq_getElem hlt)
      refine (hr.mono hok (BLe.refl' β)).frozen ?_
      have hall := (h2 e (List.mem_of_getElem? he)).2
      rw [List.all_eq_true] at hall
      exact hall c (List.mem_of_getElem? hc)
    refine .row (fun i j => (cells'.toList[i * tie.size + j]?).getD undef) (Nat.le_refl _) (fun _ => rfl) hk (fun _ => ⟨_, rfl, hnewok⟩) (fun ad had i e he j hj => ?_) (fun i e he j c hc => ?_)
    · cases had
      have hj' : j < e.length := by rw [hk e (List.mem_of_getElem? he)]; exact hj
      obtain ⟨v, hv, _⟩ := at_ i e he j _ (List.getElem?_eq_getElem hj')
      rw [Addr.add_lit, Nat.zero_add, World.cell?_alloc_at (hn := rfl), ← Array.getElem?_toList, hv]
      rfl
    · obtain ⟨v, hv, hr⟩ := at_ i e he j c hc
      rw [hv]
      exact hr
theorem bytesOf_sound : ∀ (es : List (List Cell)) (xs : List Int), bytesOf es = some xs → es.length = xs.length ∧ ∀ (i : Nat) (e : List Cell), es[i]? = some e → ∃ n : Int, e = [Cell.sc (.int .u8 n)] ∧ xs[i]? = some n := by
  intro es
  induction es with
  | nil =>
    intro xs h
    cases h
    exact ⟨rfl, fun i e h => by simp at h⟩
  | cons e es ih =>
    intro xs h
    unfold bytesOf at h
    split at h
    · rename_i hh; cases hh
    · rename_i n r hr
      split at h
      case h_2 => cases h
      rename_i l hl
      cases h
      cases hr
      obtain ⟨h1, h2⟩ := ih l hl
      refine ⟨by simp [h1], fun i e h => ?_⟩
      cases i with
      | zero => cases h; exact ⟨n, rfl, rfl⟩
      | succ i => simpa using h2 i e (by simpa using h)
    · cases h
theorem isU8_ok {T : TyEnv} (hT : TOk P T) {e : Nat} (h : isU8 T e = true) : P.underlying e = some (.int .u8) := by
  unfold isU8 at h
  split at h
  · rename_i te hte
    split at h
    · rename_i hd
      have := (hT _ _ hte).1
      rwa [hd] at this
    · cases h
  · cases h
theorem conv_sound {T : TyEnv} (hT : TOk P T) (I : Inv base A w0 β σ w) {s t : Nat} {tis ti : TI} (h : TyOk P t ti) (hs : TyOk P s tis) {x : AVal} {u : Value} (hx : RepV w (okOf base A w β) β x u) {e : Eff} {p : Prop} (he : (planConv T tis ti x).run σ = some (e, p)) :
    SO P base A w0 β w σ n e (do pure (.value (← convert s t u))) := by
  have h1 := h.1
  have h0 := hs.1
  unfold planConv at he
  split at he
  · rename_i k hd
    split at he
    case h_2 => cases he
    obtain ⟨rfl, _⟩ := sc_of hx
    cases he
    rw [hd] at h1
    exact SO.val I (by simp [convert, run_underlying h0, run_underlying h1, Conv.intToInt]) (scv _ rfl)
  · rename_i hd
    rw [hd] at h1
    split at he
    · cases he
      obtain ⟨rfl, _⟩ := sc_of hx
      exact SO.val I (by simp [convert, run_underlying h0, run_underlying h1]) (scv _ rfl)
    · split at he
      case h_2 => cases he
      rename_i el hds
      split at he
      case isFalse => cases he
      rename_i hu8
      cases he
      obtain ⟨rfl, _⟩ := sc_of hx
      rw [hds] at h0
      refine SO.val I ?_ (scv _ rfl)
      exact run_convert_bytes_nil w s el h0 (isU8_ok hT hu8) 0 0 t h1
    · rename_i k tt es
      split at he
      case h_2 => cases he
      rename_i el hds
      split at he
      case isFalse => cases he
      rename_i hu8
      split at he
      case h_2 => cases he
      rename_i xs hxs
      cases he
      rw [hds] at h0
      refine SO.val I ?_ (scv _ rfl)
      obtain ⟨b1, b2⟩ := bytesOf_sound es xs hxs
      cases hx with
      | c hx => cases hx with
        | fz hx => cases hx with
          | @row _ _ _ Ad cap vs g1 g2 g3 g4 g5 g6 =>
          cases Ad with
          | none =>
            have h00 : es = [] := by
              cases es with
              | nil => rfl
              | cons q r => obtain ⟨_, hh, _⟩ := g4 (by simp); cases hh
            subst h00
            cases hxs
            exact run_convert_bytes_nil w s el h0 (isU8_ok hT hu8) _ cap t h1
          | some ad =>
            have hload : (loadCells ad es.length).run P w = .ok (xs.map (Value.int .u8)).toArray w := by
              have := run_loadCells_list (P := P) w ad (xs.map (Value.int .u8)) (fun j v hj => by
                rw [List.getElem?_map] at hj
                cases hq : xs[j]? with
                | none => rw [hq] at hj; cases hj
                | some m =>
                  rw [hq] at hj
                  cases hj
                  have hjl : j < es.length := by rw [b1]; exact (List.getElem?_eq_some_iff.1 hq).1
                  obtain ⟨m', e1, e2⟩ := b2 j _ (List.getElem?_eq_getElem hjl)
                  rw [hq] at e2
                  cases e2
                  have hk : k = 1 := by
                    have := g3 _ (List.getElem_mem hjl)
                    rw [e1] at this
                    exact this.symm
                  subst hk
                  have := g5 ad rfl j _ (List.getElem?_eq_getElem hjl) 0 (by omega)
                  rw [Nat.mul_one, Nat.add_zero] at this
                  rw [this]
                  have g := g6 j _ (List.getElem?_eq_getElem hjl) 0 (.sc (.int .u8 m)) (by rw [e1]; rfl)
                  generalize vs j 0 = q at g
                  cases g
                  rfl)
              rwa [List.length_map, ← b1] at this
            show (convert s t _).run P w = _
            rw [run_convert_bytes_string w s t el _ _ cap h0 (isU8_ok hT hu8) h1, run_bytesToString w ad _ cap xs hload, foldl_push_bytes]
            simp [strOfNums, ByteArray.empty, ByteArray.emptyWithCapacity]
            rfl
    · cases he
  · rename_i el hd
    rw [hd] at h1
    split at he
    case h_2 => cases he
    rename_i str
    split at he
    case h_2 => cases he
    rename_i hds
    split at he
    case isFalse => cases he
    rename_i hu8
    cases he
    obtain ⟨rfl, _⟩ := sc_of hx
    rw [hds] at h0
    have hrun := run_bytes_of_string (P := P) w s t el str h0 h1 (isU8_ok hT hu8)
    obtain ⟨C, hC⟩ : ∃ C, C = grownCap w str.size 0 el := ⟨_, rfl⟩
    rw [← hC] at hrun
    have hge : str.size ≤ C := by rw [hC]; exact grownCap_ge w _ _ _
    have hat : ∀ j (hj : j < str.data.size), (bytesRow str C)[j]? = some (.int .u8 (str.data[j].toNat : Int)) := fun j hj => bytesRow_at str C j hj
    obtain ⟨R, hR⟩ : ∃ R, R = bytesRow str C := ⟨_, rfl⟩
    rw [← hR] at hrun hat
    have hB : Below w.heap.size w (w.drew.alloc (.cells R el (R.size, R.size + 1))) := Below.alloc (Below.drew (Below.refl _ _)) (Nat.le_refl _) _
    obtain ⟨I', hok⟩ := I.more hB
    have hnewok : okOf base A (w.drew.alloc (.cells R el (R.size, R.size + 1))) β w.heap.size := ⟨fun h => by have := I.hbase; omega, by show w.heap.size < (w.heap.push _).size; rw [Array.size_push]; omega, fun i b k c hb e => by have := (I.lo i b k c hb).2; omega⟩
    refine ⟨_, _, ?_, .slice (some ⟨w.heap.size, 0, none⟩) str.size C, β, .inl rfl, I', BLe.refl' β, hok, fun _ _ h => h, .c (.fz ?_)⟩
    · simp only [Sem.run_bind, hrun, Result.andThen_ok, Sem.run_pure]
    · have hsz : (str.data.toList.map fun b => [Cell.sc (.int .u8 b.toNat)]).length = str.size := by rw [List.length_map, Array.length_toList]; rfl
      have := RepF.row (w := w.drew.alloc (.cells R el (R.size, R.size + 1))) (ok := okOf base A (w.drew.alloc (.cells R el (R.size, R.size + 1))) β) (k := 1) (t := false) (es := str.data.toList.map fun b => [Cell.sc (.int .u8 b.toNat)]) (A := some ⟨w.heap.size, 0, none⟩) (cap := C) (fun i j => (R[i]?).getD undef) (by rw [hsz]; exact hge) (fun h => by cases h) (fun e he => by
          obtain ⟨x, _, rfl⟩ := List.mem_map.1 he
          rfl) (fun _ => ⟨_, rfl, hnewok⟩) (fun ad had i e he j hj => by
          cases had
          obtain rfl : j = 0 := by omega
          have hi : i < str.data.size := by
            have := (List.getElem?_eq_some_iff.1 he).1
            rw [hsz] at this
            exact this
          have hheap : (w.drew.alloc (.cells R el (R.size, R.size + 1))).heap[w.heap.size]? = some (.cells R el (R.size, R.size + 1)) := by
            show (w.heap.push _)[w.heap.size]? = _
            rw [Array.getElem?_push_size]
          rw [Addr.add_lit, Nat.zero_add, Nat.mul_one, Nat.add_zero]
          unfold World.cell?
          simp only [hheap]
          simp [hat i hi]) (fun i e he j c hc => by
          have hi : i < str.data.size := by
            have := (List.getElem?_eq_some_iff.1 he).1
            rw [hsz] at this
            exact this
          rw [List.getElem?_map, List.getElem?_eq_getElem (by rw [Array.length_toList]; exact hi)] at he
          cases he
          cases j with
          | succ j => simp at hc
          | zero =>
            cases hc
            rw [hat i hi]
            exact .sc _ rfl)
      rw [hsz] at this
      exact this
  · cases he
end
end Go.Proofs.YtphlhadgcfndhaaGreat.Abs
