/- What the acceptor answers for lists of valid vectors. -/
import Derived.Test.YtknkdbleeaaleaaPrint17
import Derived.Test.YtknkdbleeaaleaaPrint18
import Derived.Test.YtknkdbleeaaleaaVec2
namespace Go.Proofs.Ytknkdbleeaaleaa.Pure
open Go.RowKit Go.Proofs.Ytknkdbleeaaleaa.Print Go.Proofs.YtknkdbleeaaleaaW.PrintWords Go.Proofs.YtknkdbleeaaleaaW.PrintLast Go.Proofs.YtknkdbleeaaleaaW.PrintMore

theorem wS63 (i : Nat) (h : i < 9223372036854775807) : wrap64 ((i : Int) + 1) = ((i + 1 : Nat) : Int) := by rw [w64 (by omega) (by omega)]; omega
theorem Ev.done' {F : Nat → Option Bool} (h : Ev F true) : ∃ k, F k = Option.some true := by
  obtain ⟨K, hK⟩ := h
  exact ⟨K, hK K (Nat.le_refl _)⟩
/-! ### joins -/
theorem jval {u v : List S69} (hu : Val u) (hv : Val v) : Val (mrg true u v) := (mrg_is true hu hv).val
theorem jlen {u v : List S69} (hu : Val u) (hv : Val v) : (mrg true u v).length ≤ u.length + v.length := (mrg_is true hu hv).len
theorem jcnt {u v : List S69} (hu : Val u) (hv : Val v) (x : Int) : cnt (mrg true u v) x = if cnt u x ≤ cnt v x then cnt v x else cnt u x := by rw [(mrg_is true hu hv).cnt, bndT]
theorem jnil {u : List S69} (hu : Val u) : mrg true u [] = u := ext_cnt (jval hu val_nil) hu fun x => by
  rw [jcnt hu val_nil]
  have := (cnt_range (a := x) hu.1).1
  show (if _ ≤ (0 : Int) then (0 : Int) else _) = _
  split <;> omega
theorem nilj {u : List S69} (hu : Val u) : mrg true [] u = u := ext_cnt (jval val_nil hu) hu fun x => by
  rw [jcnt val_nil hu]
  have := (cnt_range (a := x) hu.1).1
  show (if (0 : Int) ≤ _ then _ else (0 : Int)) = _
  split <;> omega
theorem le_refl' {u : List S69} (hu : Val u) : le u u = true := (le_iff hu hu).2 fun _ => Int.le_refl _
theorem le_trans' {u v x : List S69} (hu : Val u) (hv : Val v) (hx : Val x) (h1 : le u v = true) (h2 : le v x = true) : le u x = true :=
  (le_iff hu hx).2 fun a => Int.le_trans ((le_iff hu hv).1 h1 a) ((le_iff hv hx).1 h2 a)
theorem le_jl {u v : List S69} (hu : Val u) (hv : Val v) : le u (mrg true u v) = true := (le_iff hu (jval hu hv)).2 fun a => by rw [jcnt hu hv]; split <;> omega
theorem le_jr {u v : List S69} (hu : Val u) (hv : Val v) : le v (mrg true u v) = true := (le_iff hv (jval hu hv)).2 fun a => by rw [jcnt hu hv]; split <;> omega
theorem j_of_le {u v : List S69} (hu : Val u) (hv : Val v) (h : le u v = true) : mrg true u v = v := ext_cnt (jval hu hv) hv fun a => by
  rw [jcnt hu hv]
  have := (le_iff hu hv).1 h a
  split <;> omega

/-! ### the acceptor -/
def accV : List S69 → List (List S69) → List S69
  | a, [] => a
  | a, v :: vs => accV (mrg true a v) vs
def accR : List S69 → List (List S69) → List Bool
  | _, [] => []
  | a, v :: vs => le a v :: accR (mrg true a v) vs
theorem accR_len : ∀ (vs : List (List S69)) (a : List S69), (accR a vs).length = vs.length
  | [], _ => rfl
  | _ :: vs, a => by simp [accR, accR_len vs]
theorem accV_val : ∀ {vs : List (List S69)} {a : List S69}, Val a → (∀ v ∈ vs, Val v) → Val (accV a vs)
  | [], _, h, _ => h
  | v :: vs, a, h, hs => accV_val (vs := vs) (jval h (hs v (by simp))) fun x hx => hs x (by simp [hx])
theorem accV_len : ∀ {vs : List (List S69)} {a : List S69} {m : Nat}, Val a → (∀ v ∈ vs, Val v ∧ v.length ≤ m) → (accV a vs).length ≤ a.length + m * vs.length
  | [], _, _, _, _ => Nat.le_refl _
  | v :: vs, a, m, h, hs => by
    have h1 := accV_len (vs := vs) (m := m) (jval h (hs v (by simp)).1) fun x hx => hs x (by simp [hx])
    have h2 := jlen h (hs v (by simp)).1
    have h3 := (hs v (by simp)).2
    show (accV (mrg true a v) vs).length ≤ _
    rw [List.length_cons, Nat.mul_succ]
    omega
theorem acc_l (vs : List (List S69)) (m : Nat) (hv : ∀ v ∈ vs, Val v ∧ v.length ≤ m) (hm : m ≤ 100000) (hl : vs.length ≤ 100000) : ∀ (n i : Nat) (a : List S69) (acc : List Bool), i + n = vs.length → Val a → a.length ≤ 1000000 + m * i → acc.length ≤ i →
    Ev (fun k => acceptor_accept.l0 k acc a vs (vs.length : Int) (i : Int)) (accV a (vs.drop i), acc ++ accR a (vs.drop i)) := by
  intro n
  induction n with
  | zero =>
    intro i a acc hi ha hal hac
    refine Ev.suc (Ev.congr (fun k => ?_) (Ev.some _))
    rw [acceptor_accept.l0, if_neg (by omega), List.drop_eq_nil_of_le (by omega)]
    simp [accV, accR]
  | succ n ih =>
    intro i a acc hi ha hal hac
    have hil : i < vs.length := by omega
    have hmi : m * i ≤ 100000 * 100000 := Nat.mul_le_mul hm (by omega)
    obtain ⟨h1, h2⟩ := hv vs[i] (List.getElem_mem hil)
    have h3 := jlen ha h1
    have hms : m * (i + 1) = m * i + m := Nat.mul_succ m i
    refine Ev.suc ?_
    rw [dropC hil]
    refine Ev.congr (fun k => ?_) (Ev.bind (vle_is a vs[i] h1.2 (by omega) (by omega)) (G := fun t k => acceptor_accept.l0 k (acc ++ [t]) (mrg true a vs[i]) vs (vs.length : Int) ((i + 1 : Nat) : Int)) ?_)
    · rw [acceptor_accept.l0, if_pos (by omega), if_pos (by omega), if_pos (by omega), rdL hil]
      simp only [if_pos (show acc.length < 140737488355328 by omega), join_is a vs[i] (by omega), Option.bind_some, wS63 i (by omega)]
    · refine (ih (i + 1) _ _ (by omega) (jval ha h1) (by omega) (by simp; omega)).val ?_
      simp [accV, accR]
theorem acc_is (a : List S69) (vs : List (List S69)) (m : Nat) (ha : Val a) (hal : a.length ≤ 1000000) (hv : ∀ v ∈ vs, Val v ∧ v.length ≤ m) (hm : m ≤ 100000) (hl : vs.length ≤ 100000) :
    Ev (fun k => acceptor_accept.f k a vs) (accV a vs, accR a vs) := by
  refine Ev.congr (fun k => ?_) ((acc_l vs m hv hm hl vs.length 0 a [] (by omega) ha (by omega) (by simp)).val (s := (accV a vs, accR a vs)) (by simp))
  rw [acceptor_accept.f, join_is a [] (by simp; omega), Option.bind_some, jnil ha]
  rfl
theorem acceptAll_is (a : List S69) (vs : List (List S69)) (m : Nat) (ha : Val a) (hal : a.length ≤ 1000000) (hv : ∀ v ∈ vs, Val v ∧ v.length ≤ m) (hm : m ≤ 100000) (hl : vs.length ≤ 100000) :
    Ev (fun k => acceptor_AcceptAll.f k a vs) (accV a vs, accR a vs) := by
  refine Ev.congr (fun k => ?_) (Ev.bind (acc_is a vs m ha hal hv hm hl) (G := fun t _ => some t) (Ev.some _))
  rw [acceptor_AcceptAll.f]
theorem accept_is (a v : List S69) (ha : Val a) (hal : a.length ≤ 1000000) (hv : Val v) (hvl : v.length ≤ 100000) :
    Ev (fun k => acceptor_Accept.f k a v) (mrg true a v, le a v) := by
  have h := acc_is a [v] 100000 ha hal (fun x hx => by rw [List.mem_singleton.1 hx]; exact ⟨hv, hvl⟩) (by omega) (by simp)
  refine Ev.congr (fun k => ?_) (Ev.bind h (G := fun (t : List S69 × List Bool) (_ : Nat) => if 0 < (t.2.length : Int) then Option.some (t.1, rdOf false t.2 0) else none) (Ev.some (mrg true a v, le a v)))
  rw [acceptor_Accept.f]

/-! ### the sanity check -/
theorem acc1_val : Val [(⟨1, 1⟩ : S69)] := (vvs_zero _).1 (by decide)
theorem acc2_val : Val [(⟨2, 1⟩ : S69)] := (vvs_zero _).1 (by decide)
theorem acc3_val : Val [(⟨1, 2⟩ : S69)] := (vvs_zero _).1 (by decide)
theorem awake15 : Ev (fun k => elasticstorelaw15_awake.f k) true := by
  refine Ev.bind ((accept_is [] [⟨1, 1⟩] val_nil (by simp) acc1_val (by simp)).val (s := ([⟨1, 1⟩], true)) (by rw [nilj acc1_val]; rfl)) ?_
  refine Ev.bind ((accept_is [⟨1, 1⟩] [⟨2, 1⟩] acc1_val (by simp) acc2_val (by simp)).val (s := ([⟨1, 1⟩, ⟨2, 1⟩], false)) (by simp [mrg, putE, bnd, mx, le, cnt])) ?_
  refine Ev.bind ((acceptAll_is [⟨1, 1⟩] [[⟨1, 2⟩]] 10 acc1_val (by simp) (fun x hx => by rw [List.mem_singleton.1 hx]; exact ⟨acc3_val, by simp⟩) (by simp) (by simp)).val (s := ([⟨1, 2⟩], [true])) (by simp [accV, accR, mrg, putE, bnd, mx, le, cnt])) ?_
  exact Ev.const fun k => by
    simp [rdOf, rd_T69]
theorem awake15_end : Ev (fun k => (elasticstorelaw15_awake.f k).bind fun t => some t) true := Ev.bind awake15 (Ev.some _)

/-! ### what came in -/
def ok15 (L : List (List S69)) : Bool := L.all fun l => decide (l.length ≤ 30 ∧ vvs none l = 0)
theorem ok15_eq (l : List S69) (L : List (List S69)) : ok15 (l :: L) = (decide (l.length ≤ 30 ∧ vvs none l = 0) && ok15 L) := rfl
theorem valid15_l (L : List (List S69)) (hl : L.length ≤ 9223372036854775807) : ∀ (n i : Nat), i + n = L.length → Ev (fun k => elasticstorelaw15_valid.l0 k L (i : Int)) (ok15 (L.drop i) && decide (L.length ≤ 40)) := by
  intro n
  induction n with
  | zero =>
    intro i hi
    refine Ev.suc (Ev.congr (fun k => ?_) (Ev.some _))
    rw [elasticstorelaw15_valid.l0, if_neg (by omega), List.drop_eq_nil_of_le (by omega)]
    show _ = some (true && _)
    rw [Bool.true_and]
    congr 1
    exact decide_eq_decide.2 (by omega)
  | succ n ih =>
    intro i hi
    have hil : i < L.length := by omega
    refine Ev.suc ?_
    rw [dropC hil]
    by_cases h1 : L[i].length ≤ 30
    · refine Ev.congr (fun k => ?_) (Ev.bind (rvalidate_is L[i] (by omega)) (G := fun t k => if t = 0 then elasticstorelaw15_valid.l0 k L ((i + 1 : Nat) : Int) else some false) ?_)
      · rw [elasticstorelaw15_valid.l0, if_pos (by omega), if_pos (by omega), rdL hil, if_neg (by omega), wS63 i (by omega)]
      · by_cases h2 : vvs none L[i] = 0
        · simp only [if_pos h2]
          exact (ih (i + 1) (by omega)).val (by rw [ok15_eq, decide_eq_true (p := L[i].length ≤ 30 ∧ vvs none L[i] = 0) ⟨h1, h2⟩]; simp only [Bool.true_and])
        · simp only [if_neg h2]
          exact (Ev.some _).val (by rw [ok15_eq, decide_eq_false (p := L[i].length ≤ 30 ∧ vvs none L[i] = 0) fun h => h2 h.2, Bool.false_and, Bool.false_and])
    · refine Ev.congr (fun k => ?_) ((Ev.some false).val (by rw [ok15_eq, decide_eq_false (p := L[i].length ≤ 30 ∧ vvs none L[i] = 0) fun h => h1 h.1, Bool.false_and, Bool.false_and]))
      rw [elasticstorelaw15_valid.l0, if_pos (by omega), if_pos (by omega), rdL hil, if_pos (by omega)]
theorem valid15_is (L : List (List S69)) (hl : L.length ≤ 9223372036854775807) : Ev (fun k => elasticstorelaw15_valid.f k L) (ok15 L && decide (L.length ≤ 40)) := valid15_l L hl L.length 0 (by omega)
theorem ok15_mem {L : List (List S69)} (h : ok15 L = true) : ∀ v ∈ L, Val v ∧ v.length ≤ 30 := by
  intro v hv
  have := List.all_eq_true.1 h v hv
  simp only [decide_eq_true_eq] at this
  exact ⟨(vvs_zero _).1 this.2, this.1⟩
end Go.Proofs.Ytknkdbleeaaleaa.Pure
