/- Contracts of calls in drawn regions: an object is let go; new objects made of what a live one holds. -/
import Derived.Test.YtphlhadgcfndhaaGreatAbs24
namespace Go.Proofs.YtphlhadgcfndhaaGreat.Abs
open Go Go.RowKit
set_option linter.unusedVariables false
set_option linter.unusedSimpArgs false
theorem GenC.fz {P : Program} {g : FuncId} {as : List AVal} {id : Nat} {ob : AObj} {r : AVal} (hf : flatO ob = true) (hfa : (as.map (frzV id ob)).all frozenV = true) (hP : Pure P g (as.map (frzV id ob)) r) (hsh : ∀ d, shV d r = r) : GenC P g as r ⟨1, []⟩ (some id) [(id, ob)] := by
  refine ⟨hP.1, fun base A w0 w β σ fr vs I hlk hlim hno hr => ?_⟩
  have ho : look id σ = some ob := hlk.1
  have K : Inv base A w0 (updB β id .dead) (drop id σ) w ∧ (∀ i, BLe (β i) (updB β id .dead i)) ∧ ∀ x, okOf base A w β x → okOf base A w (updB β id .dead) x := by
    rcases live_of I ho with ⟨b, k, cap, hb⟩ | ⟨hb, _⟩
    · obtain ⟨h1, h2⟩ := I.kill hb
      exact ⟨h1, updB_le (by rw [hb]; exact .dead _ _ _), h2⟩
    · exact I.killv hb
  obtain ⟨I1, hle, hok⟩ := K
  have hne : fr ≠ id := by
    rintro rfl
    rcases (I.dom fr).1 (by rw [ho]; rfl) with ⟨b, k, cap, hb⟩ | hb
    · rw [hno] at hb; cases hb
    · rw [hno] at hb; cases hb
  have hid : ∀ i, β i = .no → i ≠ id := by
    rintro i hi rfl
    rcases (I.dom i).1 (by rw [ho]; rfl) with ⟨b, k, cap, hb⟩ | hb
    · rw [hi] at hb; cases hb
    · rw [hi] at hb; cases hb
  obtain ⟨O, hO⟩ : ∃ O : Old, O.own = A := ⟨⟨A, fun _ => .no, 0, fun _ _ => rfl, []⟩, rfl⟩
  subst hO
  have hfz : ∀ {c : Cell} {v : Value}, RepC w (okOf base O.own w β) β c v → RepC w (okOf base O.own w (updB β id .dead)) (updB β id .dead) (frzC id ob c) v := fun hr => frz_rep I ho hf hr hok hle
  have hra : RepAs w (okOf base O.own w (updB β id .dead)) (updB β id .dead) (as.map (frzV id ob)) vs := ⟨by rw [List.length_map]; exact hr.1, fun i x v hx hv => by
    rw [List.getElem?_map] at hx
    cases hq : as[i]? with
    | none => rw [hq] at hx; cases hx
    | some y =>
      rw [hq] at hx
      cases hx
      have := hr.2 i y v hq hv
      cases this with
      | any => exact .any _
      | c hr => exact .c (hfz hr)
      | agg hr =>
        refine .agg ⟨by rw [List.length_map]; exact hr.1, fun i c v hc hv => ?_⟩
        rw [List.getElem?_map] at hc
        cases hxc : (_ : List Cell)[i]? with
        | none => rw [hxc] at hc; cases hc
        | some c0 =>
          rw [hxc] at hc
          cases hc
          exact hfz (hr.2 i c0 v hxc hv)
      | tup hl hi => exact (RepV.tup hl hi).mono (fun x hx => ⟨hok x hx, rfl⟩) hle
      | cut hr => exact (RepV.cut hr).mono (fun x hx => ⟨hok x hx, rfl⟩) hle⟩
  refine (pure_calls (s := ⟨[], drop id σ, 0⟩) I1 hP hfa hra).mono ?_
  rintro e w' ⟨v, rfl, I2, hok2, hv⟩
  obtain ⟨I3, hle3, hok3⟩ := I2.virtual (n := fr) (o := ⟨1, []⟩) (by rw [updB_ne _ _ hne]; exact hno) rfl
  refine ⟨v, _, rfl, I3, fun i => (hle i).trans (hle3 i), fun x hx => ⟨hok3 x (hok2 x (hok x hx)).1, (hok2 x (hok x hx)).2⟩, fun i hi hb => ?_, ?_⟩
  · rw [updB_ne _ _ hi, updB_ne _ _ (hid i hb)]
    exact hb
  · rw [hsh]
    exact hv.mono (fun x hx => ⟨hok3 x hx, rfl⟩) hle3
def nbB : Bnd → Bnd → Bnd
  | .no, _ => .no
  | _, y => y
theorem nbB_no {x y : Bnd} (h : x = .no) : nbB x y = .no := by rw [h]; rfl
theorem nbB_so {x y : Bnd} (h : x ≠ .no) : nbB x y = y := by cases x <;> first | rfl | exact absurd rfl h
theorem look_obs {σ : Sig} : ∀ {obs : List (Nat × AObj)}, looksA obs σ → ∀ id, look id (obs ++ σ) = look id σ
  | [], _, _ => rfl
  | (i, o) :: r, h, id => by
    show look id ((i, o) :: (r ++ σ)) = _
    rw [look]
    split
    · rename_i e
      subst e
      exact h.1.symm
    · exact look_obs h.2 id
theorem GenC.of_con {P : Program} {g : FuncId} {as : List AVal} {obs : List (Nat × AObj)} {q : AObj} {n x m' : Nat} (hx : LIM ≤ x) (hqf : flatO q = true) (hC : Con P g as obs LIM (.agg [.ref x 0 n]) ((x, q) :: obs) m') : GenC P g as (.agg [.ref 0 0 n]) q none obs := by
  refine ⟨hC.1, fun base A w0 w β σ fr vs I hlk hlim hno hr => ?_⟩
  have hlt : ∀ i, β i ≠ .no → i < LIM := fun i hi => by
    rcases Nat.lt_or_ge i LIM with h | h
    · exact h
    · exact absurd (hlim i h) hi
  have hb0 : ∀ i, (look i σ).isSome = true → β i ≠ .no := fun i hi hb => by
    rcases (I.dom i).1 hi with ⟨b, k, cap, h⟩ | h
    · rw [hb] at h; cases h
    · rw [hb] at h; cases h
  have cok : ∀ i o, look i σ = some o → ∀ e ∈ o.es, ∀ c ∈ e, match c with
      | .ref id _ _ => β id ≠ .no
      | .ptr id _ _ => β id ≠ .no
      | _ => True := fun i o ho e he c hc => by
    rcases (I.dom i).1 (by rw [ho]; rfl) with ⟨b, k, cap, hb⟩ | hv
    · obtain ⟨_, _, _, arr, ty, _, _, _, hat⟩ := I.obj i b k cap o hb ho
      obtain ⟨p, hp, rfl⟩ := List.getElem_of_mem he
      obtain ⟨j, hj, rfl⟩ := List.getElem_of_mem hc
      obtain ⟨v, _, hr⟩ := hat p _ (List.getElem?_eq_getElem hp) j _ (List.getElem?_eq_getElem hj)
      generalize (o.es[p])[j] = y at hr
      cases hr with
      | fz h => cases h <;> exact trivial
      | ref hb' _ => simp [hb']
      | refv hb' => simp [hb']
      | gone hb' _ => simp [hb']
      | ptr hb' => simp [hb']
      | gonep hb' _ => simp [hb']
    · rw [I.virt i o hv ho] at he
      cases he
  refine (hC.2 base A w β σ vs (fun i hi => hlt i (hb0 i hi)) (fun i o ho e he c hc => ?_) (I.from.congr0 (look_obs hlk)) hlim hr).mono ?_
  · have := cok i o ho e he c hc
    cases c <;> first | trivial | exact hlt _ this
  rintro e w' ⟨v, β', rfl, J, hle, hok, hm, hv⟩
  have hJl : ∀ id, look id (((x, q) :: obs) ++ σ) = if id = x then some q else look id σ := fun id => by
    show look id ((x, q) :: (obs ++ σ)) = _
    rw [look, look_obs hlk]
  obtain ⟨β2, hβ2⟩ : ∃ β2 : Nat → Bnd, β2 = fun i => if i = fr then β' x else nbB (β i) (β' i) := ⟨_, rfl⟩
  have b_fr : β2 fr = β' x := by rw [hβ2]; exact if_pos rfl
  have b_no : ∀ i, i ≠ fr → β i = .no → β2 i = .no := fun i hi hb => by rw [hβ2]; simp only; rw [if_neg hi, nbB_no hb]
  have b_so : ∀ i, β i ≠ .no → β2 i = β' i := fun i hb => by rw [hβ2]; simp only; rw [if_neg fun e => hb (by rw [e]; exact hno), nbB_so hb]
  have hxn : ∀ i, β i ≠ .no → i ≠ x := fun i hi e => by
    have := hlt i hi
    omega
  have bk : ∀ i b k cap, β2 i = .live b k cap → (i = fr ∧ β' x = .live b k cap) ∨ (i ≠ fr ∧ β i ≠ .no ∧ β' i = .live b k cap) := fun i b k cap h => by
    by_cases hi : i = fr
    · exact .inl ⟨hi, by rw [← b_fr, ← hi]; exact h⟩
    · by_cases hb : β i = .no
      · rw [b_no i hi hb] at h; cases h
      · exact .inr ⟨hi, hb, by rw [← b_so i hb]; exact h⟩
  have hok2 : ∀ y, okOf base A w' β' y → okOf base A w' β2 y := fun y hy => ⟨hy.1, hy.2.1, fun i b k cap h => by
    rcases bk i b k cap h with ⟨_, h⟩ | ⟨_, _, h⟩
    · exact hy.2.2 _ _ _ _ h
    · exact hy.2.2 _ _ _ _ h⟩
  have hput : ∀ id, look id (putA fr q (dropO none σ)) = if id = fr then some q else look id σ := fun id => look_put _ _ _ _
  have hcell : ∀ (c : Cell) (u : Value), (match c with
      | .ref id _ _ => β id ≠ .no
      | .ptr id _ _ => β id ≠ .no
      | _ => True) → RepC w' (okOf base A w' β') β' c u → RepC w' (okOf base A w' β2) β2 c u := fun c u hc h => by
    cases h with
    | fz h => exact .fz (h.mono fun y hy => ⟨hok2 y hy, rfl⟩)
    | ref hb hl => exact .ref (by rw [b_so _ hc]; exact hb) hl
    | refv hb => exact .refv (by rw [b_so _ hc]; exact hb)
    | gone hb hv => exact .gone (by rw [b_so _ hc]; exact hb) hv
    | ptr hb => exact .ptr (by rw [b_so _ hc]; exact hb)
    | gonep hb hv => exact .gonep (by rw [b_so _ hc]; exact hb) hv
  refine ⟨v, β2, rfl, ⟨I.below.trans J.below, J.hbase, I.old, fun id => ?_, fun id o hb hl => ?_, ⟨fr + LIM, fun id hid => b_no id (by have : LIM = 1000000 := rfl; omega) (hlim id (by omega))⟩, fun id b k cap h => ?_, fun id id' b k cap k' cap' h h' => ?_, fun id b k cap o hb hl => ?_⟩, fun i => ?_, fun y hy => ⟨hok2 y (hok y hy).1, (hok y hy).2⟩, b_no, ?_⟩
  · rw [hput]
    by_cases hi : id = fr
    · subst hi
      rw [if_pos rfl, b_fr]
      have := J.dom x
      rw [hJl, if_pos rfl] at this
      exact this
    · rw [if_neg hi]
      by_cases hb : β id = .no
      · rw [b_no id hi hb]
        refine ⟨fun h => absurd hb (hb0 id h), fun h => ?_⟩
        rcases h with ⟨_, _, _, h⟩ | h <;> cases h
      · rw [b_so id hb]
        have := J.dom id
        rw [hJl, if_neg (hxn id hb)] at this
        exact this
  · rw [hput] at hl
    by_cases hi : id = fr
    · subst hi
      rw [if_pos rfl] at hl
      rw [b_fr] at hb
      exact J.virt x o hb (by rw [hJl, if_pos rfl]; exact hl)
    · rw [if_neg hi] at hl
      have hbn := hb0 id (by rw [hl]; rfl)
      rw [b_so id hbn] at hb
      exact J.virt id o hb (by rw [hJl, if_neg (hxn id hbn)]; exact hl)
  · rcases bk id b k cap h with ⟨_, h⟩ | ⟨_, _, h⟩
    · exact J.lo _ _ _ _ h
    · exact J.lo _ _ _ _ h
  · rcases bk id b k cap h with ⟨e1, h⟩ | ⟨_, n1, h⟩
    · rcases bk id' b k' cap' h' with ⟨e2, h'⟩ | ⟨_, n2, h'⟩
      · rw [e1, e2]
      · exact absurd (J.inj _ _ _ _ _ _ _ h h').symm (hxn id' n2)
    · rcases bk id' b k' cap' h' with ⟨e2, h'⟩ | ⟨_, n2, h'⟩
      · exact absurd (J.inj _ _ _ _ _ _ _ h h') (hxn id n1)
      · exact J.inj _ _ _ _ _ _ _ h h'
  · rw [hput] at hl
    have mk : ∀ {id0 : Nat}, ObjAt w' (okOf base A w' β') β' o b k cap → (∀ e ∈ o.es, ∀ c ∈ e, match c with
        | .ref id _ _ => β id ≠ .no
        | .ptr id _ _ => β id ≠ .no
        | _ => True) → ObjAt w' (okOf base A w' β2) β2 o b k cap := fun {id0} h hc => by
      obtain ⟨arr, ty, h1, h2, h3, h4⟩ := h.hat
      refine ⟨h.hk, h.hcap, h.hlen, arr, ty, h1, h2, h3, fun p e he j c hcj => ?_⟩
      obtain ⟨v, hv, hr⟩ := h4 p e he j c hcj
      exact ⟨v, hv, hcell c v (hc e (List.mem_of_getElem? he) c (List.mem_of_getElem? hcj)) hr⟩
    by_cases hi : id = fr
    · subst hi
      rw [if_pos rfl] at hl
      cases hl
      rw [b_fr] at hb
      refine mk (id0 := id) (J.obj x b k cap q hb (by rw [hJl, if_pos rfl])) fun e he c hc => ?_
      unfold flatO at hqf
      rw [List.all_eq_true] at hqf
      have := hqf e he
      rw [List.all_eq_true] at this
      have := this c hc
      cases c <;> first | trivial | (cases this)
    · rw [if_neg hi] at hl
      have hbn := hb0 id (by rw [hl]; rfl)
      rw [b_so id hbn] at hb
      exact mk (id0 := id) (J.obj id b k cap o hb (by rw [hJl, if_neg (hxn id hbn)]; exact hl)) (cok id o hl)
  · by_cases hi : i = fr
    · rw [hi, hno]; exact .no _
    · by_cases hb : β i = .no
      · rw [hb]; exact .no _
      · rw [b_so i hb]; exact hle i
  · show RepV w' (okOf base A w' β2) β2 (.agg [.ref (fr + 0) 0 n]) v
    cases hv with
    | agg h =>
      refine .agg ⟨h.1, fun i c u hc hu => ?_⟩
      match i, hc with
      | 0, hc =>
        cases hc
        have h0 := h.2 0 (.ref x 0 n) u rfl hu
        rw [Nat.add_zero]
        cases h0 with
        | fz h => cases h
        | ref hb hl => exact .ref (by rw [b_fr]; exact hb) hl
        | refv hb => exact .refv (by rw [b_fr]; exact hb)
        | gone hb hv => exact .gone (by rw [b_fr]; exact hb) hv
      | i + 1, hc => simp at hc
/-- What a call's result names is only read from here on. -/
theorem New.frz {P : Program} {f : FuncId} {xs : List AVal} {r : AVal} {σ : Sig} {m : Nat} (h : New P f xs r σ m) (s' : St) {r' : AVal} (hw : ∀ A : Old, Weak A ⟨[(0, r)], σ, m⟩ s') (hs : look 0 s'.τ = some r') (hf : frozenV r' = true) : Pure P f xs r' := by
  refine ⟨h.1, fun w A vs hA hr => (h.2 w A vs hA hr).mono ?_⟩
  rintro e w' ⟨v, β', rfl, I, hm, hv⟩
  have hsz := I.below.size
  obtain ⟨β2, I2⟩ := hw (oldOf A) w.heap.size w 1 β' ⟨#[v], []⟩ w' ⟨I, rfl, rfl, (fun t x hx => by
    simp only [look] at hx
    split at hx
    · rename_i ht
      cases hx
      subst ht
      exact ⟨v, rfl, hv⟩
    · cases hx), hm, ⟨fun id => BLe.no _, fun x hx => ⟨⟨hx.1, by have := hx.2.1; omega, fun id b k cap hb e => by
      have := (I.lo id b k cap hb).1
      have := hx.2.1
      omega⟩, I.below.block x hx.2.1⟩, fun x ob h => by cases h⟩⟩
  obtain ⟨u, hu, hr3⟩ := I2.tmps 0 r' hs
  have hu' : v = u := by simpa using hu
  subst hu'
  exact ⟨v, rfl, (hr3.frozen hf).mono (fun x hx => ⟨⟨hx.1, hx.2.1⟩, rfl⟩) (BLe.refl' noB), I.below⟩
section
variable {P : Program}
/-- con_of, where the objects that the result doesn't name are let go. -/
theorem con_drop {T : TyEnv} (hT : TOk P T) {f : FuncId} {fn : Func} {c : Code} (hf : P.funcs[f]? = some fn) (hname : (fn.name == "runtime.NumGoroutine") = false) (hb : fn.body = some c) {N : Nat} (hN : fn.ntmps = N) {rs : List ResultVar} (hrs : fn.results.toList = rs) {as : List AVal} {res : AVal} {σ σ' : Sig} {m m' : Nat} (hlen : as.length ≤ N)
    (h : ∀ base (A : Old) w0 (rest : Sig), (∀ i, (look i rest).isSome = true → i < LIM) → (∀ i o, look i rest = some o → refsLt m o) → A.lim = m → AW P base A w0 N c ⟨entry 0 as, σ ++ rest, m⟩ fun e s => (e = .normal ∨ e = .ret) ∧ ∃ s' r, Weak A s s' ∧ resL T s' rs = some r ∧ Weak A ⟨[(0, r)], s'.σ, s'.fr⟩ ⟨[(0, res)], σ' ++ rest, m'⟩) : Con P f as σ m res σ' m' := by
  subst hN hrs
  refine ⟨⟨fn, hf, hname, by rw [hb]; rfl⟩, fun base A w β rest vs hrest hrefs hI hfr hr => calls_of_wp hf hb ?_⟩
  have I0 : InvS base ⟨A, β, m, hfr, []⟩ w fn.ntmps β ⟨entry 0 as, σ ++ rest, m⟩ { tmps := vs ++ Array.replicate (fn.ntmps - vs.size) undef, defers := [] } w := by
    refine ⟨hI, rfl, ?_, fun t v h => ?_, hfr, Ext.refl (A := ⟨A, β, m, hfr, []⟩) rfl⟩
    · simp [← hr.1]
      omega
    · obtain ⟨_, h1⟩ := look_entry as 0 t v h
      rw [Nat.sub_zero] at h1
      have hlt : t < vs.size := by rw [← hr.1]; exact (List.getElem?_eq_some_iff.1 h1).1
      refine ⟨vs[t], ?_, hr.2 t v _ h1 (Array.getElem?_eq_getElem hlt)⟩
      rw [Array.getElem?_append_left hlt, Array.getElem?_eq_getElem hlt]
  refine wp_mono (h base ⟨A, β, m, hfr, []⟩ w rest hrest hrefs rfl β _ w I0) fun e a' w' ⟨s', β', ⟨he, s'', r, hw, hres, hw2⟩, I'⟩ => ?_
  obtain ⟨β'', I''⟩ := hw _ _ _ _ _ _ I'
  obtain ⟨v, h1, h2⟩ := resultsL_sound hT I'' hres
  obtain ⟨β3, I3⟩ := hw2 base w 1 β'' ⟨#[v], []⟩ w' ⟨I''.inv, rfl, rfl, (fun t x hx => by
    simp only [look] at hx
    split at hx
    · rename_i ht
      cases hx
      subst ht
      exact ⟨v, rfl, h2⟩
    · cases hx), I''.fresh, I''.ext⟩
  obtain ⟨u, hu, hr3⟩ := I3.tmps 0 res rfl
  have hu' : v = u := by simpa using hu
  subst hu'
  have fin : a'.defers = [] ∧ ∃ v, (results fn a'.tmps).run P w' = .ok v w' ∧ ∃ v' β', Ending.returned v = .returned v' ∧ Inv base A w β' (σ' ++ rest) w' ∧ (∀ i, BLe (β i) (β' i)) ∧ (∀ x, okOf base A w β x → okOf base A w' β' x ∧ w'.heap[x]? = w.heap[x]?) ∧ (∀ id, m' ≤ id → β' id = .no) ∧ RepV w' (okOf base A w' β') β' res v' :=
    ⟨I''.defers, v, h1, v, β3, rfl, I3.inv, I3.ext.ble, I3.ext.ok, I3.fresh, hr3⟩
  rcases he with rfl | rfl
  · exact fin
  · exact fin
end
end Go.Proofs.YtphlhadgcfndhaaGreat.Abs
