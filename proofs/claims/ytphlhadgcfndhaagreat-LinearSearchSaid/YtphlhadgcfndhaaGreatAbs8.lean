/- Each operation's plan is what the machine does: append, in all its cases. -/
import Derived.Test.YtphlhadgcfndhaaGreatAbs7
import Derived.Deep.Upon
namespace Go.Proofs.YtphlhadgcfndhaaGreat.Abs
open Go Go.RowKit
set_option linter.unusedVariables false
set_option linter.unusedSimpArgs false

section
variable {P : Program} {base : Nat} {A : Nat → Prop} {w0 w : World} {β : Nat → Bnd} {σ : Sig} {n : Nat}

theorem drop_idem {α : Type} (t : Nat) : ∀ l : List (Nat × α), drop t (drop t l) = drop t l
  | [] => rfl
  | (s, v) :: r => by
    by_cases h : t = s
    · have e : drop t ((s, v) :: r) = drop t r := by rw [drop, if_pos h]
      rw [e]
      exact drop_idem t r
    · have e : ∀ l, drop t ((s, v) :: l) = (s, v) :: drop t l := fun l => by rw [drop, if_neg h]
      rw [e, e, drop_idem t r]
/-- An object gets a new name; its old one is gone. -/
theorem Inv.rename (I : Inv base A w0 β σ w) {id b k cap : Nat} {o : AObj} (hl : β id = .live b k cap) (ho : look id σ = some o) (hn : β n = .no) :
    Inv base A w0 (updB (updB β id .dead) n (.live b k cap)) (putA n o (drop id σ)) w ∧ (∀ i, BLe (β i) (updB (updB β id .dead) n (.live b k cap) i)) ∧ ∀ x, okOf base A w β x → okOf base A w (updB (updB β id .dead) n (.live b k cap)) x := by
  have hne : n ≠ id := by rintro rfl; rw [hl] at hn; cases hn
  obtain ⟨β', hβ'⟩ : ∃ β', β' = updB (updB β id .dead) n (.live b k cap) := ⟨_, rfl⟩
  have e1 : β' n = .live b k cap := by rw [hβ', updB_self]
  have e2 : β' id = .dead := by rw [hβ', updB_ne _ _ (Ne.symm hne), updB_self]
  have e3 : ∀ i, i ≠ n → i ≠ id → β' i = β i := fun i h1 h2 => by rw [hβ', updB_ne _ _ h1, updB_ne _ _ h2]
  rw [← hβ']
  have hle : ∀ i, BLe (β i) (β' i) := fun i => by
    by_cases h1 : i = n
    · subst h1; rw [hn]; exact .no _
    · by_cases h2 : i = id
      · subst h2; rw [hl, e2]; exact .dead _ _ _
      · rw [e3 i h1 h2]; exact .same _
  have back : ∀ i b' k' cap', β' i = .live b' k' cap' → ∃ j, β j = .live b' k' cap' ∧ (i = n → j = id) ∧ (i ≠ n → j = i) := fun i b' k' cap' h => by
    by_cases h1 : i = n
    · subst h1; rw [e1] at h; cases h; exact ⟨id, hl, fun _ => rfl, fun h => absurd rfl h⟩
    · by_cases h2 : i = id
      · subst h2; rw [e2] at h; cases h
      · rw [e3 i h1 h2] at h; exact ⟨i, h, fun h => absurd h h1, fun _ => rfl⟩
  have hok : ∀ x, okOf base A w β x → okOf base A w β' x := fun x hx => ⟨hx.1, hx.2.1, fun i b' k' cap' h => by
    obtain ⟨j, hj, _⟩ := back i b' k' cap' h
    exact hx.2.2 j b' k' cap' hj⟩
  refine ⟨⟨I.below, I.hbase, I.old, fun i => ?_, fun i o' h hlk => ?_, ?_, fun i b' k' cap' h => ?_, fun i i' b' k' cap' k2 cap2 h h' => ?_, fun i b' k' cap' o' h hlk => ?_⟩, hle, hok⟩
  · rw [look_put, look_drop]
    by_cases h1 : i = n
    · subst h1
      rw [if_pos rfl, e1]
      exact ⟨fun _ => .inl ⟨_, _, _, rfl⟩, fun _ => rfl⟩
    · rw [if_neg h1]
      by_cases h2 : i = id
      · subst h2
        rw [if_pos rfl, e2]
        exact ⟨fun h => (by cases h), fun h => (by rcases h with ⟨_, _, _, h⟩ | h <;> cases h)⟩
      · rw [if_neg h2, e3 i h1 h2]
        exact I.dom i
  · rw [look_put, look_drop] at hlk
    by_cases h1 : i = n
    · subst h1; rw [e1] at h; cases h
    · rw [if_neg h1] at hlk
      by_cases h2 : i = id
      · subst h2; rw [e2] at h; cases h
      · rw [if_neg h2] at hlk
        rw [e3 i h1 h2] at h
        exact I.virt i o' h hlk
  · obtain ⟨N, hN⟩ := I.fin
    refine ⟨N + n + id + 1, fun i hi => ?_⟩
    rw [e3 i (by omega) (by omega)]
    exact hN i (by omega)
  · obtain ⟨j, hj, _⟩ := back i b' k' cap' h
    exact I.lo j b' k' cap' hj
  · obtain ⟨j, hj, j1, j2⟩ := back i b' k' cap' h
    obtain ⟨j', hj', j1', j2'⟩ := back i' b' k2 cap2 h'
    have hjj := I.inj j j' b' k' cap' k2 cap2 hj hj'
    by_cases h1 : i = n
    · by_cases h2 : i' = n
      · rw [h1, h2]
      · exfalso
        have := j1 h1
        have := j2' h2
        have : i' = id := by omega
        subst this
        rw [e2] at h'
        cases h'
    · by_cases h2 : i' = n
      · exfalso
        have := j2 h1
        have := j1' h2
        have : i = id := by omega
        subst this
        rw [e2] at h
        cases h
      · have := j2 h1
        have := j2' h2
        omega
  · rw [look_put, look_drop] at hlk
    by_cases h1 : i = n
    · subst h1
      rw [if_pos rfl] at hlk
      cases hlk
      rw [e1] at h
      cases h
      exact (I.obj id b k cap o hl ho).mono (fun x hx => ⟨hok x hx, rfl⟩) hle rfl
    · rw [if_neg h1] at hlk
      by_cases h2 : i = id
      · subst h2
        rw [if_pos rfl] at hlk
        cases hlk
      · rw [if_neg h2] at hlk
        rw [e3 i h1 h2] at h
        exact (I.obj i b' k' cap' o' h hlk).mono (fun x hx => ⟨hok x hx, rfl⟩) hle rfl
/-- An object that lies nowhere is let go. -/
theorem Inv.killv (I : Inv base A w0 β σ w) {id : Nat} (hl : β id = .virt) :
    Inv base A w0 (updB β id .dead) (drop id σ) w ∧ (∀ i, BLe (β i) (updB β id .dead i)) ∧ ∀ x, okOf base A w β x → okOf base A w (updB β id .dead) x := by
  have hle : ∀ i, BLe (β i) (updB β id .dead i) := updB_le (by rw [hl]; exact .vdead)
  have back : ∀ i b k cap, updB β id .dead i = .live b k cap → i ≠ id ∧ β i = .live b k cap := fun i b k cap h => by
    by_cases h1 : i = id
    · subst h1; rw [updB_self] at h; cases h
    · rw [updB_ne _ _ h1] at h; exact ⟨h1, h⟩
  have hok : ∀ x, okOf base A w β x → okOf base A w (updB β id .dead) x := fun x hx => ⟨hx.1, hx.2.1, fun i b k cap h => hx.2.2 i b k cap (back i b k cap h).2⟩
  refine ⟨⟨I.below, I.hbase, I.old, fun i => ?_, fun i o' hi hl' => ?_, ?_, fun i b k cap h => I.lo i b k cap (back i b k cap h).2, fun i i' b k cap k2 cap2 h h' => I.inj i i' b k cap k2 cap2 (back i b k cap h).2 (back i' b k2 cap2 h').2, fun i b k cap o' h hl' => ?_⟩, hle, hok⟩
  · rw [look_drop]
    by_cases h : i = id
    · subst h
      rw [if_pos rfl, updB_self]
      exact ⟨fun h => (by cases h), fun h => (by rcases h with ⟨_, _, _, h⟩ | h <;> cases h)⟩
    · rw [if_neg h, updB_ne _ _ h]
      exact I.dom i
  · rw [look_drop] at hl'
    by_cases h : i = id
    · subst h
      rw [if_pos rfl] at hl'
      cases hl'
    · rw [if_neg h] at hl'
      rw [updB_ne _ _ h] at hi
      exact I.virt i o' hi hl'
  · obtain ⟨N, hN⟩ := I.fin
    refine ⟨N + id + 1, fun i hi => ?_⟩
    rw [updB_ne _ _ (by omega)]
    exact hN i (by omega)
  · obtain ⟨h1, h2⟩ := back i b k cap h
    rw [look_drop, if_neg h1] at hl'
    exact (I.obj i b k cap o' h2 hl').mono (fun x hx => ⟨hok x hx, rfl⟩) hle rfl
theorem firstCells_nil (size : Nat) (c : Nat) (w' : World) : (Builtin.firstCells size 0 (.slice none 0 c)).run P w' = .ok #[] w' := run_firstCells_none w' size 0 0 c
theorem firstCells_zero (size : Nat) (ad : Option Addr) (c : Nat) (w' : World) : (Builtin.firstCells size 0 (.slice ad 0 c)).run P w' = .ok #[] w' := by
  cases ad with
  | none => exact firstCells_nil size c w'
  | some ad => exact run_firstCells_some w' size 0 ad 0 c [] (by simp) (fun j u h => by simp at h)
/-- What an append makes of a row that may not be written. -/
theorem firstCells_rep {ok : Nat → Prop} {k : Nat} {t : Bool} {es : List (List Cell)} {ad : Option Addr} {cap : Nat} (h : RepF w ok (.row k t es) (.slice ad es.length cap)) :
    ∃ olds, Flat (RepC w ok β) k es olds ∧ (∀ v ∈ olds, v.oneCell' = true) ∧ ∀ w' : World, w'.heap = w.heap → (Builtin.firstCells k es.length (.slice ad es.length cap)).run P w' = .ok olds.toArray w' := by
  generalize hv : Value.slice ad es.length cap = v at h
  cases h with
  | @row _ _ _ Ad cp vs g1 g2 g3 g4 g5 g6 =>
  cases hv
  by_cases hne : es = []
  · subst hne
    exact ⟨[], Flat.nil _ _, by simp, fun w' _ => firstCells_zero _ _ _ w'⟩
  · obtain ⟨a, rfl, hok⟩ := g4 hne
    have at_ : ∀ m, m < es.length * k → ∃ v, w.cell? (a.add m) = some v ∧ v = vs (m / k) (m % k) ∧ v.oneCell' = true := by
      intro m hm
      have hk0 : 0 < k := by
        rcases Nat.eq_zero_or_pos k with h | h
        · rw [h] at hm; simp at hm
        · exact h
      have hi : m / k < es.length := by rw [Nat.div_lt_iff_lt_mul hk0]; exact hm
      have hj : m % k < k := Nat.mod_lt _ hk0
      have hj' : m % k < (es[m / k]).length := by rw [g3 _ (List.getElem_mem hi)]; exact hj
      have := g5 a rfl (m / k) _ (List.getElem?_eq_getElem hi) (m % k) hj
      rw [Nat.div_add_mod' m k] at this
      exact ⟨_, this, rfl, (g6 _ _ (List.getElem?_eq_getElem hi) _ _ (List.getElem?_eq_getElem hj')).one⟩
    refine ⟨(List.range (es.length * k)).map fun m => vs (m / k) (m % k), ⟨by simp, g3, fun i e he j c hc => ?_⟩, fun v hv => ?_, fun w' hw' => ?_⟩
    · have hi := (List.getElem?_eq_some_iff.1 he).1
      have hj : j < k := by
        have := (List.getElem?_eq_some_iff.1 hc).1
        rw [g3 e (List.mem_of_getElem? he)] at this
        exact this
      have hm : i * k + j < es.length * k := by
        have : (i + 1) * k ≤ es.length * k := Nat.mul_le_mul_right k (by omega)
        rw [Nat.succ_mul] at this
        omega
      refine ⟨vs i j, ?_, .fz (g6 i e he j c hc)⟩
      have hd : (i * k + j) / k = i := by rw [Nat.add_comm, Nat.add_mul_div_right _ _ (by omega), Nat.div_eq_of_lt hj, Nat.zero_add]
      have hmod : (i * k + j) % k = j := by rw [Nat.add_comm, Nat.add_mul_mod_self_right, Nat.mod_eq_of_lt hj]
      rw [List.getElem?_map, List.getElem?_range hm, Option.map_some, hd, hmod]
    · obtain ⟨m, hm, rfl⟩ := List.mem_map.1 hv
      obtain ⟨v, _, hv, h1⟩ := at_ m (List.mem_range.1 hm)
      rw [← hv]
      exact h1
    · refine run_firstCells_some w' k es.length a es.length cap _ (by simp) (fun j u hu => ?_)
      rw [List.getElem?_map] at hu
      have hj : j < es.length * k := by
        rcases Nat.lt_or_ge j (es.length * k) with h | h
        · exact h
        · rw [List.getElem?_eq_none (by simpa using h)] at hu; cases hu
      rw [List.getElem?_range hj, Option.map_some] at hu
      cases hu
      obtain ⟨v, h1, h2, _⟩ := at_ j hj
      rw [← h2, ← h1]
      exact cell_same (by rw [hw'])
theorem append_nothing {t tx ty el : Nat} {tie : TI} (ht : P.underlying t = some (.slice el)) (he : TyOk P el tie) {ad : Option Addr} {m c : Nat} (hle : m ≤ c) {x : Value} {news : List Value} (hs : Src P tie.size tx x 0 news w) :
    (Builtin.append_ #[t, tx] ty #[.slice ad m c, x]).run P w = .ok (.slice ad m c) w := by
  obtain ⟨i, hi, hz, hsz, hby⟩ := info_of he
  have : news = [] := List.eq_nil_of_length_eq_zero (by rw [hs.newsLen]; simp)
  subst this
  exact run_append_nothing w t tx ty el i ht hi ad m c hle x (by rw [hsz]; exact hs)
theorem appendM_sound (I : Inv base A w0 β σ w) (hn : β n = .no) {t tx ty el : Nat} {tie : TI} (ht : P.underlying t = some (.slice el)) (hte : TyOk P el tie) {s x : AVal} {us ux : Value} (hs : RepV w (okOf base A w β) β s us) (hX : ∀ {ids : List Nat} {src : List AObj → Option (List (List Cell))} {os : List AObj} {es : List (List Cell)}, srcEs x = some (ids, src) → looks σ ids = some os → src os = some es → (∀ e ∈ es, e.length = tie.size) → ∃ news, Src P tie.size tx ux es.length news w ∧ Flat (RepC w (okOf base A w β) β) tie.size es news)
    {e : Eff} {p : Prop} (he : (planAppendM tie s x).run σ = some (e, p)) (hp : p) : SO P base A w0 β w σ n e (do pure (.value (← Builtin.append_ #[t, tx] ty #[us, ux]))) := by
  have virt : ∀ {ad : Option Addr} {news : List Value} {k : Nat}, us = .slice ad 0 0 → Src P tie.size tx ux 0 news w → SO P base A w0 β w σ n (.new ⟨k, []⟩ fun id => .c (.ref id 0 0)) (do pure (.value (← Builtin.append_ #[t, tx] ty #[us, ux]))) := by
    intro ad news k hu hS
    subst hu
    obtain ⟨I', hle, hok⟩ := I.virtual (o := ⟨k, []⟩) hn rfl
    refine ⟨_, w, ?_, .slice ad 0 0, _, .inl rfl, I', hle, fun x hx => ⟨hok x hx, rfl⟩, fun i hi h => by rw [updB_ne _ _ hi]; exact h, .c (.refv (updB_self _ _ _))⟩
    simp [append_nothing ht hte (Nat.le_refl 0) hS]
  unfold planAppendM at he
  split at he
  case h_1 => cases he
  rename_i ids src hsrc
  split at he
  · simp only [Plan.run] at he
    split at he
    case h_1 => cases he
    rename_i os hos
    split at he
    case h_2 => cases he
    rename_i es hes
    cases he
    obtain ⟨hg, hk⟩ := hp
    obtain ⟨rfl, _⟩ := sc_of hs
    obtain ⟨news, hS, hF⟩ := hX hsrc hos hes hk
    by_cases h0 : es = []
    · subst h0
      exact virt rfl hS
    · have := grow_new (n := n) I hn (ty := ty) ht hte (u := .slice none 0 0) (old := []) (olds := []) (bs := none) (cp := 0) rfl (by have := List.length_pos_iff.2 h0; simp; omega) (Flat.nil _ _) (by simp) (fun w' _ => firstCells_nil _ _ w') hS hF (by simpa using hg)
      simpa using this
  · rename_i kk old
    simp only [Plan.run] at he
    split at he
    case h_1 => cases he
    rename_i os hos
    split at he
    case h_2 => cases he
    rename_i es hes
    cases he
    obtain ⟨hg, rfl, hne, hk⟩ := hp
    obtain ⟨news, hS, hF⟩ := hX hsrc hos hes hk
    cases hs with
    | c hs => cases hs with
      | fz hs =>
      have hs' := hs
      cases hs with
      | @row _ _ _ Ad cp vs g1 g2 g3 g4 g5 g6 =>
      have hcp := g2 rfl
      by_cases h0 : es = []
      · subst h0
        have ho : old = [] := by rcases hne with h | h; exact h; exact absurd rfl h
        subst ho
        have hc0 : cp = 0 := hcp
        subst hc0
        exact virt rfl hS
      · obtain ⟨olds, hfo, ho1, hfirst⟩ := firstCells_rep (P := P) (β := β) hs'
        exact grow_new (n := n) I hn (ty := ty) ht hte rfl (by have := List.length_pos_iff.2 h0; omega) hfo ho1 hfirst hS hF hg
  · rename_i id lo m
    simp only [Plan.run, looks] at he
    cases ho : look id σ with
    | none => rw [ho] at he; cases he
    | some o =>
    rw [ho] at he
    cases hos : looks σ ids with
    | none => rw [hos] at he; cases he
    | some os =>
    rw [hos] at he
    simp only [Option.map_some] at he
    split at he
    case h_2 => cases he
    rename_i es hes
    cases he
    obtain ⟨rfl, hend, hg, hok', hk⟩ := hp
    obtain ⟨news, hS, hF⟩ := hX hsrc hos hes hk
    rcases ref_live I ho hs with ⟨b, k, cap, hb, hcap, rfl⟩ | ⟨hb, hoe, _, rfl, ad, rfl⟩
    · have O := I.obj id b k cap o hb ho
      have hkk : tie.size = k := by rw [← hok', O.hk]
      subst hkk
      obtain ⟨arr, tyo, hh, hsz, hone, hat⟩ := O.hat
      obtain ⟨i, hi, hz, hsz', hby⟩ := info_of hte
      have hlo := I.lo id b _ cap hb
      have hal : arr.toList.length = arr.size := Array.length_toList
      have hgetold : ∀ q, q < o.es.length → ∃ e, o.es[q]? = some e ∧ e.length = tie.size := fun q hq => ⟨_, List.getElem?_eq_getElem hq, O.hlen _ (List.getElem_mem hq)⟩
      by_cases hroom : m + es.length ≤ cap - 0
      · -- in place
        subst hend
        have hcz : cap - 0 = cap := Nat.sub_zero _
        have hfit : o.es.length * tie.size + news.length ≤ arr.size := by
          rw [hF.1, hsz, ← Nat.add_mul]
          exact Nat.mul_le_mul_right _ (by omega)
        have hst := run_storeCells_at P b (o.es.length * tie.size) tyo news 0 arr w hh (by simpa using hfit) hS.one
        simp only [Nat.add_zero] at hst
        have hrun : (Builtin.append_ #[t, tx] ty #[.slice (some ⟨b, 0 * tie.size, none⟩) o.es.length (cap - 0), ux]).run P w = .ok (.slice (some ⟨b, 0 * tie.size, none⟩) (o.es.length + es.length) (cap - 0)) (w.setRow b (arr.toList.take (o.es.length * tie.size) ++ news ++ arr.toList.drop (o.es.length * tie.size + news.length)).toArray) := by
          rcases hS.kind with ⟨e', htx'⟩ | htx' <;> simp [Builtin.append_, run_underlying ht, run_underlying htx', sizeOf, typeInfo, hi, hsz', hS.len, show o.es.length + es.length ≤ cap from by omega, hS.cells, Addr.add_lit, hst]
        have hold : ∀ q, q < o.es.length * tie.size → (arr.toList.take (o.es.length * tie.size) ++ news ++ arr.toList.drop (o.es.length * tie.size + news.length))[q]? = arr[q]? := fun q hq => by
          rw [List.append_assoc, List.getElem?_append_left (by rw [List.length_take, Array.length_toList]; omega), List.getElem?_take_of_lt hq, Array.getElem?_toList]
        have hnew : ∀ q, q < news.length → (arr.toList.take (o.es.length * tie.size) ++ news ++ arr.toList.drop (o.es.length * tie.size + news.length))[o.es.length * tie.size + q]? = news[q]? := fun q hq => by
          rw [List.append_assoc, List.getElem?_append_right (by rw [List.length_take, Array.length_toList]; omega), List.length_take, Array.length_toList, List.getElem?_append_left (by omega)]
          congr 1
          omega
        obtain ⟨I1, hk1⟩ := write_inv I hb ho (o' := ⟨o.k, o.es ++ es⟩) (arr' := (arr.toList.take (o.es.length * tie.size) ++ news ++ arr.toList.drop (o.es.length * tie.size + news.length)).toArray) O.hk (by simp; omega)
          (fun e he => by rcases List.mem_append.1 he with he | he; exact O.hlen e he; exact hk e he) (by simp only [List.size_toArray, List.length_append, List.length_take, List.length_drop, Array.length_toList]; omega)
          (fun v hv => by
            simp only [List.mem_append] at hv
            rcases hv with (hv | hv) | hv
            · exact hone v (List.mem_of_mem_take hv)
            · exact hS.one v hv
            · exact hone v (List.mem_of_mem_drop hv))
          (fun q e he j c hc => by
            rw [List.getElem?_toArray]
            by_cases hq : q < o.es.length
            · rw [List.getElem?_append_left hq] at he
              obtain ⟨v, hv, hr⟩ := hat q e he j c hc
              refine ⟨v, ?_, hr⟩
              have hj : j < tie.size := by
                have := (List.getElem?_eq_some_iff.1 hc).1
                rw [O.hlen e (List.mem_of_getElem? he)] at this
                exact this
              have : (q + 1) * tie.size ≤ o.es.length * tie.size := Nat.mul_le_mul_right _ (by omega)
              rw [Nat.succ_mul] at this
              rw [hold _ (by omega)]
              exact hv
            · rw [List.getElem?_append_right (by omega)] at he
              obtain ⟨v, hv, hr⟩ := hF.2.2 _ e he j c hc
              refine ⟨v, ?_, hr⟩
              have : (q - o.es.length) * tie.size + o.es.length * tie.size = q * tie.size := by rw [← Nat.add_mul, Nat.sub_add_cancel (by omega)]
              rw [show q * tie.size + j = o.es.length * tie.size + ((q - o.es.length) * tie.size + j) from by omega, hnew _ (List.getElem?_eq_some_iff.1 hv).1]
              exact hv)
        obtain ⟨I2, hle, hk2⟩ := I1.rename hb (by rw [look_put, if_pos rfl]) hn
        have hsig : putA n (⟨o.k, o.es ++ es⟩ : AObj) (drop id (putA id ⟨o.k, o.es ++ es⟩ σ)) = putA n ⟨o.k, o.es ++ es⟩ (drop id σ) := by
          unfold putA
          rw [drop, if_pos rfl, drop_idem]
        rw [hsig] at I2
        refine ⟨_, _, ?_, .slice (some ⟨b, 0 * tie.size, none⟩) (o.es.length + es.length) (cap - 0), _, .inl rfl, I2, hle, fun x hx => ⟨hk2 x (hk1 x hx).1, (hk1 x hx).2⟩, fun i hi h => by rw [updB_ne _ _ hi, updB_ne _ _ (by rintro rfl; rw [hb] at h; cases h)]; exact h, .c (.ref (updB_self _ _ _) (by omega))⟩
        simp only [Sem.run_bind, hrun, Result.andThen_ok, Sem.run_pure]
      · -- a new row
        obtain ⟨I1, hk1⟩ := I.kill hb
        have hne : n ≠ id := by rintro rfl; rw [hb] at hn; cases hn
        have hn1 : updB β id .dead n = .no := by rw [updB_ne _ _ hne]; exact hn
        have hle1 : ∀ i, BLe (β i) (updB β id .dead i) := updB_le (by rw [hb]; exact .dead _ _ _)
        have hm1 : ∀ c v, RepC w (okOf base A w β) β c v → RepC w (okOf base A w (updB β id .dead)) (updB β id .dead) c v := fun c v h => h.mono (fun x hx => ⟨hk1 x hx, rfl⟩) hle1
        have hcapm : o.es.length * tie.size ≤ arr.size := by rw [hsz]; exact Nat.mul_le_mul_right _ O.hcap
        have hfo : Flat (RepC w (okOf base A w β) β) tie.size o.es (arr.toList.take (o.es.length * tie.size)) := by
          refine ⟨by rw [List.length_take]; omega, O.hlen, fun q e he j c hc => ?_⟩
          obtain ⟨v, hv, hr⟩ := hat q e he j c hc
          refine ⟨v, ?_, hr⟩
          have hq := (List.getElem?_eq_some_iff.1 he).1
          have hj : j < tie.size := by
            have := (List.getElem?_eq_some_iff.1 hc).1
            rw [O.hlen e (List.mem_of_getElem? he)] at this
            exact this
          have : (q + 1) * tie.size ≤ o.es.length * tie.size := Nat.mul_le_mul_right _ (by omega)
          rw [Nat.succ_mul] at this
          rw [List.getElem?_take_of_lt (by omega), Array.getElem?_toList]
          exact hv
        have hS0 : es.length ≠ 0 := by have := O.hcap; omega
        subst hend
        have hG := grow_new (n := n) I1 hn1 (ty := ty) ht hte (u := .slice (some ⟨b, 0 * tie.size, none⟩) o.es.length (cap - 0)) (old := o.es) (bs := some ⟨b, 0 * tie.size, none⟩) (cp := cap - 0) rfl (by omega) (hfo.mono hm1) (fun v hv => hone v (List.mem_of_mem_take hv))
          (fun w' hw' => run_firstCells_some w' tie.size o.es.length ⟨b, 0 * tie.size, none⟩ o.es.length (cap - 0) _ (by rw [List.length_take]; omega) (fun j u hu => by
            have hj : j < o.es.length * tie.size := by
              have := (List.getElem?_eq_some_iff.1 hu).1
              rw [List.length_take] at this
              omega
            rw [List.getElem?_take_of_lt hj, Array.getElem?_toList] at hu
            rw [Addr.add_lit]
            unfold World.cell?
            rw [hw']
            simp only [hh, Nat.zero_mul, Nat.zero_add]
            simpa using hu)) hS (hF.mono hm1) (by rw [List.length_append]; exact hg)
        obtain ⟨nx, w', hrun, u, β', hnx, hI, hle, hkk, hfr, hr⟩ := hG
        refine ⟨nx, w', hrun, u, β', hnx, ?_, fun i => (hle1 i).trans (hle i), fun x hx => hkk x (hk1 x hx), fun i hi h => hfr i hi (by rw [updB_ne _ _ (by rintro rfl; rw [hb] at h; cases h)]; exact h), ?_⟩
        · have : (⟨o.k, o.es ++ es⟩ : AObj) = ⟨tie.size, o.es ++ es⟩ := by rw [hok']
          show Inv base A w0 β' (putA n ⟨o.k, o.es ++ es⟩ (drop id σ)) w'
          rw [this]
          exact hI
        · have : RepV w' (okOf base A w' β') β' (.c (.ref n 0 (o.es ++ es).length)) u := hr
          rw [List.length_append] at this
          exact this
    · have hm : o.es.length = 0 := by rw [hoe]; rfl
      obtain ⟨I1, hle1, hk1⟩ := I.killv hb
      have hne : n ≠ id := by rintro rfl; rw [hb] at hn; cases hn
      have hn1 : updB β id .dead n = .no := by rw [updB_ne _ _ hne]; exact hn
      have hm1 : ∀ c v, RepC w (okOf base A w β) β c v → RepC w (okOf base A w (updB β id .dead)) (updB β id .dead) c v := fun c v h => h.mono (fun x hx => ⟨hk1 x hx, rfl⟩) hle1
      have hobj : (⟨o.k, o.es ++ es⟩ : AObj) = ⟨tie.size, [] ++ es⟩ := by rw [hok', hoe]
      by_cases h0 : es = []
      · subst h0
        obtain ⟨I2, hle2, hk2⟩ := I1.virtual (o := ⟨o.k, o.es ++ []⟩) hn1 (by simp [hoe])
        refine ⟨_, w, ?_, .slice ad 0 0, _, .inl rfl, I2, fun i => (hle1 i).trans (hle2 i), fun x hx => ⟨hk2 x (hk1 x hx), rfl⟩, fun i hi h => by rw [updB_ne _ _ hi, updB_ne _ _ (by rintro rfl; rw [hb] at h; cases h)]; exact h, .c ?_⟩
        · simp [append_nothing ht hte (Nat.le_refl 0) hS]
        · exact .refv (updB_self _ _ _)
      · have hG := grow_new (n := n) I1 hn1 (ty := ty) ht hte (u := .slice ad 0 0) (old := []) (olds := []) (bs := ad) (cp := 0) rfl (by have := List.length_pos_iff.2 h0; simp; omega) (Flat.nil _ _) (by simp) (fun w' _ => firstCells_zero _ _ _ w') hS (hF.mono hm1) (by simpa using hg)
        obtain ⟨nx, w', hrun, u, β', hnx, hI, hle, hkk, hfr, hr⟩ := hG
        refine ⟨nx, w', hrun, u, β', hnx, ?_, fun i => (hle1 i).trans (hle i), fun x hx => hkk x (hk1 x hx), fun i hi h => hfr i hi (by rw [updB_ne _ _ (by rintro rfl; rw [hb] at h; cases h)]; exact h), ?_⟩
        · show Inv base A w0 β' (putA n ⟨o.k, o.es ++ es⟩ (drop id σ)) w'
          rw [hobj]
          exact hI
        · have : RepV w' (okOf base A w' β') β' (.c (.ref n 0 ([] ++ es).length)) u := hr
          rw [List.nil_append] at this
          show RepV w' (okOf base A w' β') β' (.c (.ref n 0 (0 + es.length))) u
          rw [Nat.zero_add]
          exact this
  · cases he
end
end Go.Proofs.YtphlhadgcfndhaaGreat.Abs
