/- The acceptor's laws: their helpers. -/
import Derived.Test.YtopcklnnkpjanaaWRef
namespace Go.Proofs.Ytopcklnnkpjanaa.Abs
open Go Go.RowKit
set_option linter.unusedVariables false
set_option linter.unusedSimpArgs false
set_option maxHeartbeats 4000000
def valGo : Option Int → V2 → Int
  | _, [] => 0
  | p, e :: l => if e.1 < 1 ∨ e.2 < 1 ∨ e.2 > 1000000 then 9 else if (p.any fun q => decide (q ≥ e.1)) = true then 7 else valGo (some e.1) l
def valI (v : V2) : Int := valGo none v
def prevI (v : V2) (j : Nat) : Option Int := if j = 0 then none else (v[j - 1]?).map (·.1)
theorem sub_s (j : Nat) (h : 0 < j) (h2 : j < 1000000000000) : IntKind.i64.wrap ((j : Int) - 1) = ((j - 1 : Nat) : Int) := by
  rw [IntKind.wrap_i64]; omega
theorem val_pure (v : V2) (hl : v.length < 1000000000000) : Pure Try.prog 27 [.c (encV v)] (.c (cI (valI v))) := by
  refine pure_of teOk Try.func27 (by kernel_rfl) (c := _) rfl (N := 48) rfl (rs := [Go.ResultVar.tmp 2]) rfl (by simp) fun base A w0 hA => ?_
  refine AW.st teOk [] (by simp [-Option.some.injEq] <;> rfl) trivial ?_
  refine AW.seq ?_
  refine AW.st teOk [] (by simp [-Option.some.injEq] <;> rfl) trivial ?_
  refine AW.block (AW.loop (fun m s => ∃ j : Nat, m = v.length - j ∧ j ≤ v.length ∧ valI v = valGo (prevI v j) (v.drop j) ∧ s = ⟨[(0, .c (encV v)), (3, .c (cI j))], [], 0⟩) _ (Weak.normT hA [0, 3] [] [] 0 _ (by simp) (by simp) (by simp)) ⟨0, rfl, Nat.zero_le _, rfl, by simp⟩ ?_)
  rintro m s ⟨j, rfl, hj, hv, rfl⟩
  refine AW.seq ?_
  refine AW.st teOk [] (by simp [-Option.some.injEq] <;> rfl) trivial ?_
  refine AW.iff (decide (j < v.length)) (by simp) (fun h => AW.skip ?_) (fun h => AW.exit (x_then (x_then (blockA_exit ?_))))
  · rw [decide_eq_true_eq] at h
    obtain ⟨e, he⟩ : ∃ e, v[j]? = some e := ⟨_, List.getElem?_eq_getElem h⟩
    have hd : v.drop j = e :: v.drop (j + 1) := by
      rw [List.drop_eq_getElem_cons h, (List.getElem?_eq_some_iff.1 he).2]
    rw [hd, valGo] at hv
    refine AW.seq (AW.block ?_)
    refine AW.mid (fun s => ¬ (e.1 < 1 ∨ e.2 < 1 ∨ e.2 > 1000000) ∧ s = ⟨[(0, .c (encV v)), (3, .c (cI j))], [], 0⟩) ?_ ?_
    · by_cases h1 : e.1 < 1
      · refine AW.st teOk [] (by simp [he, h1, -Option.some.injEq] <;> rfl) ?_ ?_
        · first | trivial | omega | (simp [allP, growOk] <;> omega)
        refine AW.iff true (by simp [h1]) (fun _ => ?_) (fun h => by cases h)
        refine AW.st teOk [] (by simp [-Option.some.injEq] <;> rfl) trivial ?_
        refine AW.ret ⟨.inr rfl, _, Weak.refl _, ?_⟩
        rw [hv, if_pos (.inl h1)]
        simp
      · by_cases h2 : e.2 < 1
        · refine AW.st teOk [] (by simp [he, h1, h2, -Option.some.injEq] <;> rfl) ?_ ?_
          · first | trivial | omega | (simp [allP, growOk] <;> omega)
          refine AW.iff true (by simp [h1]) (fun _ => ?_) (fun h => by cases h)
          refine AW.st teOk [] (by simp [-Option.some.injEq] <;> rfl) trivial ?_
          refine AW.ret ⟨.inr rfl, _, Weak.refl _, ?_⟩
          rw [hv, if_pos (.inr (.inl h2))]
          simp
        · by_cases h3 : e.2 > 1000000
          · refine AW.st teOk [] (by simp [he, h1, h2, h3, -Option.some.injEq] <;> rfl) ?_ ?_
            · first | trivial | omega | (simp [allP, growOk] <;> omega)
            refine AW.iff true (by simp [h1]) (fun _ => ?_) (fun h => by cases h)
            refine AW.st teOk [] (by simp [-Option.some.injEq] <;> rfl) trivial ?_
            refine AW.ret ⟨.inr rfl, _, Weak.refl _, ?_⟩
            rw [hv, if_pos (.inr (.inr h3))]
            simp
          · refine AW.st teOk [] (by simp [he, h1, h2, h3, -Option.some.injEq] <;> rfl) ?_ ?_
            · first | trivial | omega | (simp [allP, growOk] <;> omega)
            refine AW.iff false (by simp [h1]) (fun h => by cases h) (fun _ => AW.skip ?_)
            exact ⟨_, Weak.normT hA [0, 3] [] [] 0 _ (by simp) (by simp) (by simp), by omega, by simp⟩
    · rintro s ⟨hok, rfl⟩
      rw [if_neg hok] at hv
      have hp1 : prevI v (j + 1) = some e.1 := by simp [prevI, he]
      by_cases h0 : j = 0
      · subst h0
        refine AW.dr mixed teOk [] (by simp [he, -Option.some.injEq] <;> rfl) (by kernel_rfl) (by kernel_rfl) ?_ ?_
        · first | trivial | omega | (simp [allP, growOk] <;> omega)
        refine AW.iff false (by simp) (fun h => by cases h) (fun _ => AW.skip ?_)
        refine AW.text teOk (ans := []) (by simp [-Option.some.injEq] <;> rfl) ?_ ?_
        · trivial
        refine ⟨_, _, Weak.normT hA [0, 3] [] [] 0 _ (by simp) (by simp) (by simp), ?_, 1, rfl, h, ?_, by simp⟩
        · omega
        · rw [hv, hp1]; simp [prevI]
      · obtain ⟨q, hq⟩ : ∃ q, v[j - 1]? = some q := ⟨_, List.getElem?_eq_getElem (by omega)⟩
        obtain ⟨i, hi⟩ : ∃ i, i = j - 1 := ⟨_, rfl⟩
        have hs := sub_s j (by omega) (by omega)
        rw [← hi] at hs hq
        have hpj : prevI v j = some q.1 := by simp [prevI, h0, ← hi, hq]
        have hj0 : 0 < j := by omega
        rw [hpj] at hv
        by_cases hge : q.1 ≥ e.1
        · refine AW.dr mixed teOk [] (by simp [he, hs, hq, hj0, hge, -Option.some.injEq] <;> rfl) (by kernel_rfl) (by kernel_rfl) ?_ ?_
          · first | trivial | omega | (simp [allP, growOk] <;> omega)
          refine AW.iff true (by simp [hge]) (fun _ => ?_) (fun h => by cases h)
          refine AW.st teOk [] (by simp [-Option.some.injEq] <;> rfl) trivial ?_
          refine AW.ret ⟨.inr rfl, _, Weak.refl _, ?_⟩
          simp [hv, hge]
        · refine AW.dr mixed teOk [] (by simp [he, hs, hq, hj0, hge, -Option.some.injEq] <;> rfl) (by kernel_rfl) (by kernel_rfl) ?_ ?_
          · first | trivial | omega | (simp [allP, growOk] <;> omega)
          refine AW.iff false (by simp) (fun h => by cases h) (fun _ => AW.skip ?_)
          refine AW.text teOk (ans := []) (by simp [-Option.some.injEq] <;> rfl) ?_ ?_
          · trivial
          refine ⟨_, _, Weak.normT hA [0, 3] [] [] 0 _ (by simp) (by simp) (by simp), ?_, j + 1, rfl, h, ?_, ?_⟩
          · omega
          · rw [hv, hp1]; simp [hge]
          · simp
            exact wrap_s j (by omega)
  · rw [decide_eq_false_iff_not] at h
    rw [List.drop_eq_nil_of_le (by omega), valGo] at hv
    refine AW.st teOk [] (by simp [-Option.some.injEq] <;> rfl) trivial ?_
    refine AW.ret ⟨.inr rfl, _, Weak.refl _, ?_⟩
    simp [hv]
def okI (v : V2) : Bool := decide (v.length ≤ 30) && (valI v == 0)
theorem valid_pure (l : List V2) (hl : l.length ≤ 9223372036854775807) : Pure Try.prog 18 [.c (encVs l)] (.c (cB (l.all okI && decide (l.length ≤ 40)))) := by
  refine pure_of teOk Try.func18 (by kernel_rfl) (c := _) rfl (N := 27) rfl (rs := [Go.ResultVar.tmp 2]) rfl (by simp) fun base A w0 hA => ?_
  refine AW.st teOk [] (by simp [-Option.some.injEq] <;> rfl) trivial ?_
  refine AW.seq ?_
  refine AW.st teOk [] (by simp [-Option.some.injEq] <;> rfl) trivial ?_
  refine AW.block (AW.loop (fun m s => ∃ j : Nat, m = l.length - j ∧ j ≤ l.length ∧ l.all okI = (l.drop j).all okI ∧ s = ⟨[(0, .c (encVs l)), (3, .c (cI j))], [], 0⟩) _ (Weak.normT hA [0, 3] [] [] 0 _ (by simp) (by simp) (by simp)) ⟨0, rfl, Nat.zero_le _, rfl, by simp⟩ ?_)
  rintro m s ⟨j, rfl, hj, hd, rfl⟩
  refine AW.seq ?_
  refine AW.st teOk [] (by simp [-Option.some.injEq] <;> rfl) trivial ?_
  refine AW.iff (decide (j < l.length)) (by simp) (fun h => AW.skip ?_) (fun h => AW.exit (x_then (x_then (blockA_exit ?_))))
  · rw [decide_eq_true_eq] at h
    obtain ⟨x, hx⟩ : ∃ x, l[j]? = some x := ⟨_, List.getElem?_eq_getElem h⟩
    have he : l.drop j = x :: l.drop (j + 1) := by
      rw [List.drop_eq_getElem_cons h, (List.getElem?_eq_some_iff.1 hx).2]
    rw [he, List.all_cons] at hd
    refine AW.seq (AW.block ?_)
    by_cases h30 : x.length ≤ 30
    · have h30' : ¬ (30 : Int) < x.length := by omega
      refine AW.st teOk [.fz (.c (cI (valI x)))] (by simp [hx, h30', -Option.some.injEq] <;> rfl) ?_ ?_
      · exact ⟨by simpa using h, val_pure x (by omega)⟩
      by_cases h0 : valI x = 0
      · refine AW.iff false (by simp [h0]) (fun h => by cases h) (fun _ => AW.skip ?_)
        refine AW.text teOk (ans := []) (by simp [-Option.some.injEq] <;> rfl) ?_ ?_
        · trivial
        refine ⟨_, _, Weak.normT hA [0, 3] [] [] 0 _ (by simp) (by simp) (by simp), ?_, j + 1, rfl, h, ?_, ?_⟩
        · omega
        · rw [hd]; simp [okI, h30, h0]
        · simp
          exact wrap_s j (by omega)
      · refine AW.iff true (by simp [h0]) (fun _ => ?_) (fun h => by cases h)
        refine AW.st teOk [] (by simp [-Option.some.injEq] <;> rfl) trivial ?_
        refine AW.ret ⟨.inr rfl, _, Weak.refl _, ?_⟩
        simp [hd, okI, h0]
    · have h30' : (30 : Int) < x.length := by omega
      refine AW.st teOk [] (by simp [hx, h30', -Option.some.injEq] <;> rfl) ?_ ?_
      · first | trivial | omega | (simp [allP, growOk] <;> omega)
      refine AW.iff true (by simp) (fun _ => ?_) (fun h => by cases h)
      refine AW.st teOk [] (by simp [-Option.some.injEq] <;> rfl) trivial ?_
      refine AW.ret ⟨.inr rfl, _, Weak.refl _, ?_⟩
      simp [hd, okI, h30]
  · rw [decide_eq_false_iff_not] at h
    rw [List.drop_eq_nil_of_le (by omega)] at hd
    refine AW.st teOk [] (by simp [-Option.some.injEq] <;> rfl) trivial ?_
    refine AW.ret ⟨.inr rfl, _, Weak.refl _, ?_⟩
    simp [hd]
    omega
theorem acceptAll_pure (v : V2) (l : List V2) (hl : ∀ x ∈ l, Asc x) (hb : v.length + totI l < 100000000000) (hn : l.length < 100000000000) : Pure Try.prog 21 [.agg [encV v], .c (encVs l)] (.tup [.agg [encV (accI (self v) l).1], .c (encBs (accI (self v) l).2)]) := by
  refine pure_of teOk Try.func21 (by kernel_rfl) (c := _) rfl (N := 11) rfl (rs := [Go.ResultVar.cell 4 29, Go.ResultVar.tmp 5]) rfl (by simp) fun base A w0 hA => ?_
  refine AW.st teOk [] (by simp [-Option.some.injEq] <;> rfl) trivial ?_
  refine AW.st teOk [.fz (.tup [.agg [encV (accI (self v) l).1], .c (encBs (accI (self v) l).2)])] (by simp [-Option.some.injEq] <;> rfl) ?_ ?_
  · exact accept_pure v l hl hb hn
  refine AW.ret ⟨.inr rfl, _, Weak.refl _, ?_⟩
  simp
theorem accept1_pure (v x : V2) (hx : Asc x) (hb : v.length + x.length < 10000000000) : Pure Try.prog 64 [.agg [encV v], .c (encV x)] (.tup [.agg [encV (mergeI true (self v) x)], .c (cB (leI (self v) x))]) := by
  refine pure_of teOk Try.func64 (by kernel_rfl) (c := _) rfl (N := 18) rfl (rs := [Go.ResultVar.cell 4 29, Go.ResultVar.tmp 5]) rfl (by simp) fun base A w0 hA => ?_
  refine AW.st teOk [] (by simp [-Option.some.injEq] <;> rfl) trivial ?_
  refine AW.st teOk [.fz (.tup [.agg [encV (accI (self v) [x]).1], .c (encBs (accI (self v) [x]).2)])] (by simp [-Option.some.injEq] <;> rfl) ?_ ?_
  · exact (accept_pure v [x] (by simpa using hx) (by simp [totI]; omega) (by simp)).le (.cons (.refl _) (.cons (.c (.loose 1 true [encC x])) .nil)) (.refl _)
  refine AW.dr mixed teOk [] (by simp [-Option.some.injEq] <;> rfl) (by kernel_rfl) (by kernel_rfl) ?_ ?_
  · simp [allP, accI]
  refine AW.ret ⟨.inr rfl, _, Weak.refl _, ?_⟩
  simp [accI]
end Go.Proofs.Ytopcklnnkpjanaa.Abs
