/- Each operation's plan is what the machine does: a store, a new variable. -/
import Derived.Test.YtphlhadgcfndhaaGreatAbs4
import Derived.Laws.CopyRow
namespace Go.Proofs.YtphlhadgcfndhaaGreat.Abs
open Go Go.RowKit
set_option linter.unusedVariables false
set_option linter.unusedSimpArgs false

section
variable {P : Program} {base : Nat} {A : Nat → Prop} {w0 w : World} {β : Nat → Bnd} {σ : Sig} {n : Nat}

theorem below_row {w : World} (g : Nat) (cs : Array Value) {B : Nat} (hB : B ≤ g) : Below B w (w.setRow g cs) := ⟨rfl, rfl, rfl, by simp, fun k hk => setRow_other w g k cs (by omega)⟩
theorem lt_of_heap {w : World} {b : Nat} {o : Obj} (h : w.heap[b]? = some o) : b < w.heap.size := (Array.getElem?_eq_some_iff.1 h).1
theorem cells_of {ok : Nat → Prop} {x : AVal} {cs : List Cell} (hc : cellsOf x = some cs) {v : Value} (hx : RepV w ok β x v) : RepL w ok β cs v.cells.toList := by
  cases hx with
  | any => cases hc
  | tup => cases hc
  | cut => cases hc
  | agg h =>
    cases hc
    exact h
  | c h =>
    cases hc
    have h1 := h.one
    have : v.cells = #[v] := by cases v <;> first | rfl | (cases h1)
    rw [this]
    refine ⟨rfl, fun i c u hc hu => ?_⟩
    cases i with
    | zero =>
      simp at hc hu
      subst hc hu
      exact h
    | succ i => simp at hc
theorem RepL.one {ok : Nat → Prop} {cs : List Cell} {vs : List Value} (h : RepL w ok β cs vs) : ∀ v ∈ vs, v.oneCell' = true := by
  intro v hv
  obtain ⟨i, hi, rfl⟩ := List.mem_iff_getElem.1 hv
  have hi' : i < cs.length := by rw [h.1]; exact hi
  exact (h.2 i _ _ (List.getElem?_eq_getElem hi') (List.getElem?_eq_getElem hi)).one
/-- An element's cells replaced. -/
theorem put_at {arr : Array Value} {es : List (List Cell)} {k i off : Nat} {e cs : List Cell} {vs : List Value} {cap : Nat} (hlen : ∀ e ∈ es, e.length = k) (hcap : es.length ≤ cap) (hsz : arr.size = cap * k) (he : es[i]? = some e) (hl : cs.length = vs.length) (hoff : off + cs.length ≤ e.length)
    {R : Cell → Value → Prop} (hold : ∀ (i : Nat) (e : List Cell), es[i]? = some e → ∀ (j : Nat) (c : Cell), e[j]? = some c → ∃ v, arr[i * k + j]? = some v ∧ R c v) (hnew : ∀ (j : Nat) (c : Cell) (v : Value), cs[j]? = some c → vs[j]? = some v → R c v) :
    i * k + off + vs.length ≤ arr.size ∧ ∀ (i' : Nat) (e' : List Cell), (es.set i (e.take off ++ cs ++ e.drop (off + cs.length)))[i']? = some e' → ∀ (j : Nat) (c : Cell), e'[j]? = some c →
      ∃ v, (arr.toList.take (i * k + off) ++ vs ++ arr.toList.drop (i * k + off + vs.length)).toArray[i' * k + j]? = some v ∧ R c v := by
  have hil : i < es.length := (List.getElem?_eq_some_iff.1 he).1
  have hek : e.length = k := hlen e (List.mem_of_getElem? he)
  have hik : i * k + k ≤ cap * k := by
    have : (i + 1) * k ≤ cap * k := Nat.mul_le_mul_right k (by omega)
    rw [Nat.succ_mul] at this
    exact this
  have hfit : i * k + off + vs.length ≤ arr.size := by omega
  refine ⟨hfit, fun i' e' he' j c hc => ?_⟩
  rw [List.getElem?_toArray]
  have hout : ∀ m : Nat, (m < i * k + off ∨ i * k + off + vs.length ≤ m) → (arr.toList.take (i * k + off) ++ vs ++ arr.toList.drop (i * k + off + vs.length))[m]? = arr[m]? := by
    intro m hm
    have hal : arr.toList.length = arr.size := Array.length_toList
    rcases hm with hm | hm
    · rw [List.append_assoc, List.getElem?_append_left (by rw [List.length_take]; omega), List.getElem?_take_of_lt hm, Array.getElem?_toList]
    · rw [List.getElem?_append_right (by rw [List.length_append, List.length_take]; omega), List.getElem?_drop, List.length_append, List.length_take, Array.getElem?_toList]
      congr 1
      omega
  have hin : ∀ m : Nat, m < vs.length → (arr.toList.take (i * k + off) ++ vs ++ arr.toList.drop (i * k + off + vs.length))[i * k + off + m]? = vs[m]? := by
    intro m hm
    have hal : arr.toList.length = arr.size := Array.length_toList
    rw [List.append_assoc, List.getElem?_append_right (by rw [List.length_take]; omega), List.length_take, List.getElem?_append_left (by omega)]
    congr 1
    omega
  by_cases hii : i' = i
  · subst hii
    rw [List.getElem?_set_self hil] at he'
    cases he'
    by_cases h1 : j < off
    · rw [List.append_assoc, List.getElem?_append_left (by rw [List.length_take]; omega), List.getElem?_take_of_lt h1] at hc
      rw [hout _ (by omega)]
      exact hold i' e he j c hc
    · by_cases h2 : j < off + cs.length
      · rw [List.append_assoc, List.getElem?_append_right (by rw [List.length_take]; omega), List.length_take, List.getElem?_append_left (by omega), show j - min off e.length = j - off from by omega] at hc
        have hj : j - off < vs.length := by omega
        rw [show i' * k + j = i' * k + off + (j - off) from by omega, hin _ hj]
        exact ⟨_, List.getElem?_eq_getElem hj, hnew _ _ _ hc (List.getElem?_eq_getElem hj)⟩
      · rw [List.getElem?_append_right (by rw [List.length_append, List.length_take]; omega), List.getElem?_drop, List.length_append, List.length_take, show off + cs.length + (j - (min off e.length + cs.length)) = j from by omega] at hc
        rw [hout _ (by omega)]
        exact hold i' e he j c hc
  · rw [List.getElem?_set_ne (by omega)] at he'
    have hjk : j < k := by
      have := (List.getElem?_eq_some_iff.1 hc).1
      rw [hlen e' (List.mem_of_getElem? he')] at this
      exact this
    rw [hout]
    · exact hold i' e' he' j c hc
    · rcases Nat.lt_or_gt_of_ne hii with h | h
      · left
        have : (i' + 1) * k ≤ i * k := Nat.mul_le_mul_right k (by omega)
        rw [Nat.succ_mul] at this
        omega
      · right
        have : (i + 1) * k ≤ i' * k := Nat.mul_le_mul_right k (by omega)
        rw [Nat.succ_mul] at this
        omega
theorem BLe.refl' (β : Nat → Bnd) : ∀ i, BLe (β i) (β i) := fun i => .same _
theorem updB_id {β : Nat → Bnd} {id : Nat} {x : Bnd} (h : β id = x) : updB β id x = β := by
  funext i
  by_cases hi : i = id
  · subst hi; rw [updB_self, h]
  · rw [updB_ne _ _ hi]
/-- An object is written. -/
theorem write_inv (I : Inv base A w0 β σ w) {id b k cap : Nat} (hb : β id = .live b k cap) {o : AObj} (ho : look id σ = some o) {o' : AObj} {arr' : Array Value} (hk : o'.k = k) (hcap : o'.es.length ≤ cap) (hlen : ∀ e ∈ o'.es, e.length = k) (hsz : arr'.size = cap * k) (h1 : ∀ v ∈ arr'.toList, v.oneCell' = true)
    (hat : ∀ (i : Nat) (e : List Cell), o'.es[i]? = some e → ∀ (j : Nat) (c : Cell), e[j]? = some c → ∃ v, arr'[i * k + j]? = some v ∧ RepC w (okOf base A w β) β c v) :
    Inv base A w0 β (putA id o' σ) (w.setRow b arr') ∧ ∀ x, okOf base A w β x → okOf base A (w.setRow b arr') β x ∧ (w.setRow b arr').heap[x]? = w.heap[x]? := by
  obtain ⟨arr, ty, hh, _⟩ := (I.obj id b k cap o hb ho).hat
  have hlo := I.lo id b k cap hb
  have := I.turn (w' := w.setRow b arr') (id := id) (b := b) (k := k) (cap := cap) (o := o') (by rw [hb]; exact .same _) (I.below.trans (below_row b arr' hlo.1)) (by simp) hlo.1 (by simp; exact hlo.2)
    (fun i hi hne => setRow_other w b i arr' hne) (I.notOk hb) (fun i b' k' cap' hne hi e => hne (I.inj i id b k' cap' k cap (e ▸ hi) hb))
    (fun hok => ⟨hk, hcap, hlen, arr', ty, setRow_heap w b arr arr' ty (0, 0) hh, hsz, h1, fun i e he j c hc => by
      obtain ⟨v, hv, hr⟩ := hat i e he j c hc
      exact ⟨v, hv, hr.mono hok (updB_le (by rw [hb]; exact .same _))⟩⟩)
  rwa [updB_id hb] at this
theorem store_sound (I : Inv base A w0 β σ w) {t : Nat} {ti : TI} (h : TyOk P t ti) {a x : AVal} {ua ux : Value} (ha : RepV w (okOf base A w β) β a ua) (hx : RepV w (okOf base A w β) β x ux) {e : Eff} {p : Prop} (he : (planStore ti a x).run σ = some (e, p)) :
    SO P base A w0 β w σ n e (do Instr.storeAt t ua ux; pure .skip) := by
  unfold planStore at he
  split at he
  case h_2 => cases he
  rename_i id i off
  split at he
  case h_2 => cases he
  rename_i cs hcs
  simp only [Plan.run, looks] at he
  split at he
  case h_1 => cases he
  rename_i os hos
  cases ho : look id σ with
  | none => rw [ho] at hos; cases hos
  | some o =>
  rw [ho] at hos
  simp only [Option.map_some, Option.some.injEq] at hos
  subst hos
  simp only at he
  split at he
  case h_2 => cases he
  rename_i e' he'
  split at he
  case isFalse => cases he
  rename_i hl
  cases he
  obtain ⟨b, k, cap, hb⟩ := live_at I ho he'
  cases ha with
  | c ha =>
  cases ha with
  | fz ha => cases ha
  | gonep hd _ => rw [hb] at hd; cases hd
  | ptr hb' =>
  rw [hb] at hb'
  cases hb'
  have O := I.obj id b k cap o hb ho
  obtain ⟨arr, ty, hh, hsz, hone, hat⟩ := O.hat
  have hr := cells_of hcs hx
  obtain ⟨hfit, hput⟩ := put_at (R := RepC w (okOf base A w β) β) O.hlen O.hcap hsz he' hr.1 hl.2 hat hr.2
  have hcz : ux.cells.size = ti.size := by rw [← hl.1, hr.1, Array.length_toList]
  obtain ⟨i', hi', _, hs', _⟩ := info_of h
  have hst := run_storeCells_at P b (i * k + off) ty ux.cells.toList 0 arr w hh (by simpa using hfit) hr.one
  have hrun : (Instr.storeAt t (.pointer (some ⟨b, i * k + off, none⟩)) ux).run P w = .ok () (w.setRow b (arr.toList.take (i * k + off) ++ ux.cells.toList ++ arr.toList.drop (i * k + off + ux.cells.toList.length)).toArray) := by
    simp only [Nat.add_zero] at hst
    simp only [Instr.storeAt, Instr.sureAddr, storeVar, Sem.run_bind, Sem.run_pure, Result.andThen_ok, run_sizeOf h]
    rw [if_neg (by rw [hcz]; simp)]
    exact hst
  have hek := O.hlen e' (List.mem_of_getElem? he')
  obtain ⟨I', hok⟩ := write_inv I hb ho (o' := { o with es := o.es.set i (e'.take off ++ cs ++ e'.drop (off + cs.length)) }) O.hk (by simpa using O.hcap) (fun x hx => by
      rcases List.mem_or_eq_of_mem_set hx with hx | hx
      · exact O.hlen x hx
      · rw [hx]
        simp only [List.length_append, List.length_take, List.length_drop]
        omega) (by simp only [List.size_toArray, List.length_append, List.length_take, List.length_drop, Array.length_toList] at hfit ⊢; omega) (fun v hv => by
      simp only [List.mem_append] at hv
      rcases hv with (hv | hv) | hv
      · exact hone v (List.mem_of_mem_take hv)
      · exact hr.one v hv
      · exact hone v (List.mem_of_mem_drop hv)) hput
  refine ⟨.skip, _, ?_, undef, β, .inr ⟨rfl, rfl⟩, I', BLe.refl' β, hok, fun _ _ h => h, .any _⟩
  simp only [Sem.run_bind, hrun, Result.andThen_ok, Sem.run_pure]

/-- A new object. -/
theorem new_inv (I : Inv base A w0 β σ w) (hn : β n = .no) {o : AObj} {arr : Array Value} {ty : TypeId} {cap : Nat} {w1 : World} (hh : w1.heap = w.heap) (hb1 : Below base w w1) (hcap : o.es.length ≤ cap) (hlen : ∀ e ∈ o.es, e.length = o.k) (hsz : arr.size = cap * o.k) (h1 : ∀ v ∈ arr.toList, v.oneCell' = true)
    (hat : ∀ (i : Nat) (e : List Cell), o.es[i]? = some e → ∀ (j : Nat) (c : Cell), e[j]? = some c → ∃ v, arr[i * o.k + j]? = some v ∧ RepC w (okOf base A w β) β c v) :
    Inv base A w0 (updB β n (.live w.heap.size o.k cap)) (putA n o σ) (w1.alloc (.cells arr ty)) ∧ ∀ x, okOf base A w β x → okOf base A (w1.alloc (.cells arr ty)) (updB β n (.live w.heap.size o.k cap)) x ∧ (w1.alloc (.cells arr ty)).heap[x]? = w.heap[x]? := by
  have hsz1 : (w1.alloc (.cells arr ty)).heap.size = w.heap.size + 1 := by rw [← hh]; simp
  have hle : BLe (β n) (.live w.heap.size o.k cap) := by rw [hn]; exact .no _
  have hold : ∀ i, i < w.heap.size → (w1.alloc (.cells arr ty)).heap[i]? = w.heap[i]? := fun i hi => by rw [Below.heap_alloc _ _ _ (by rw [hh]; exact hi), hh]
  refine I.turn (w' := w1.alloc (.cells arr ty)) (id := n) (b := w.heap.size) (k := o.k) (cap := cap) (o := o) hle ((I.below.trans hb1).alloc (by rw [hh]; exact I.hbase) _) (by omega) I.hbase (by omega)
    (fun i hi _ => hold i hi) (fun h => by have := h.2.1; omega) (fun i b' k' cap' _ hi e => by have := (I.lo i b' k' cap' hi).2; omega)
    (fun hok => ⟨rfl, hcap, hlen, arr, ty, ?_, hsz, h1, fun i e he j c hc => by
      obtain ⟨v, hv, hr⟩ := hat i e he j c hc
      exact ⟨v, hv, hr.mono hok (updB_le hle)⟩⟩)
  show (w1.heap.push _)[w.heap.size]? = _
  rw [hh, Array.getElem?_push_size]
theorem newVar_sound (I : Inv base A w0 β σ w) (hn : β n = .no) {t : Nat} {cs : List Cell} {v : Value} (hv : RepL w (okOf base A w β) β cs v.cells.toList) :
    SO P base A w0 β w σ n (.new ⟨cs.length, [cs]⟩ fun id => .c (.ptr id 0 0)) (do pure (.value (← (do pure (.pointer (some (← newVar t v)))))) ) := by
  obtain ⟨I', hok⟩ := new_inv (n := n) I hn (o := ⟨cs.length, [cs]⟩) (arr := v.cells) (ty := t) (cap := 1) (w1 := w) rfl (Below.refl _ _) (Nat.le_refl _) (fun e he => by rw [List.mem_singleton.1 he]) (by simp [hv.1]) hv.one (fun i e he j c hc => by
    cases i with
    | succ i => simp at he
    | zero =>
      simp at he
      subst he
      have hj : j < v.cells.toList.length := by rw [← hv.1]; exact (List.getElem?_eq_some_iff.1 hc).1
      refine ⟨v.cells.toList[j], ?_, hv.2 j c _ hc (List.getElem?_eq_getElem hj)⟩
      rw [Nat.zero_mul, Nat.zero_add, ← Array.getElem?_toList]
      exact List.getElem?_eq_getElem hj)
  refine ⟨.value (.pointer (some ⟨w.heap.size, 0, none⟩)), w.alloc (.cells v.cells t), ?_, _, _, .inl rfl, I', updB_le (by rw [hn]; exact .no _), hok, fun i hi h => by rw [updB_ne _ _ hi]; exact h, .c ?_⟩
  · simp [newVar, newRow]
  · have := RepC.ptr (w := w.alloc (.cells v.cells t)) (ok := okOf base A (w.alloc (.cells v.cells t)) (updB β n (.live w.heap.size cs.length 1))) (β := updB β n (.live w.heap.size cs.length 1)) (id := n) (i := 0) (off := 0) (updB_self _ _ _)
    simpa using this
theorem zeros_rep {ok : Nat → Prop} {t : Nat} {ti : TI} (h : TyOk P t ti) : RepL w ok β ti.zeros ti.zero.cells.toList := by
  refine ⟨by simp [TI.zeros], fun i c v hc hv => ?_⟩
  simp only [TI.zeros, List.getElem?_map, hv, Option.map_some, Option.some.injEq] at hc
  subst hc
  refine .fz (.sc v ?_)
  have := h.2.2.1
  rw [Array.all_eq_true_iff_forall_mem] at this
  exact this v (Array.mem_toList_iff.1 (List.mem_of_getElem? hv))
end
end Go.Proofs.YtphlhadgcfndhaaGreat.Abs
