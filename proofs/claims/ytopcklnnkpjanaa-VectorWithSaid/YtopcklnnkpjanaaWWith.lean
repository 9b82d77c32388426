/- vector.With. -/
import Derived.Test.YtopcklnnkpjanaaWIns4
import Derived.Test.YtopcklnnkpjanaaWRef2
import Derived.Test.YtopcklnnkpjanaaWChain
namespace Go.Proofs.Ytopcklnnkpjanaa.Abs
open Go Go.RowKit
set_option linter.unusedVariables false
set_option linter.unusedSimpArgs false
set_option maxHeartbeats 4000000
def withS (v : V2) (a c : Int) : V2 :=
  if a < 1 ∨ c < 0 ∨ c > 1000000 then v
  else if hasI v a = true then (if c = 0 then delL v (posI v a) else v.set (posI v a) (a, c))
  else if c > 0 then v.take (posI v a) ++ (a, c) :: v.drop (posI v a) else v
theorem enc2 (v : V2) : ∀ e ∈ v.map encE, e.length = 2 := fun e he => by obtain ⟨x, _, rfl⟩ := List.mem_map.1 he; rfl
theorem with_pure (v : V2) (a c : Int) (hv : Asc v) (hl : v.length < 10000000) : Pure Try.prog 40 [.c (encV v), .c (cI a), .c (cI c)] (.c (encV (withS v a c))) := by
  refine pure_of teOk Try.func40 (by kernel_rfl) (c := _) rfl (N := 58) rfl (rs := [Go.ResultVar.tmp 6]) rfl (by simp) fun base A w0 hA => ?_
  refine AW.st teOk [] (by simp [-Option.some.injEq] <;> rfl) trivial ?_
  refine AW.st teOk [.new (.c (.ref 0 0 v.length)) [(0, ⟨2, v.map encE⟩)] 1] (by simp [-Option.some.injEq] <;> rfl) ?_ ?_
  · have := cloneV_new (v.map encE) (enc2 v) (flat_encE v) (by simp; omega)
    simpa using this
  refine AW.to (s2 := ⟨[(0, .c (encV v)), (1, .c (cI a)), (2, .c (cI c)), (7, .c (.ref 0 0 v.length))], [(0, ⟨2, v.map encE⟩)], 1⟩) (Weak.normT hA [0, 1, 2, 7] [(7, 0)] [] 1 _ (by simp) (by simp) (by simp)) (by simp) ?_
  refine AW.mid (fun s => ¬ (a < 1 ∨ c < 0 ∨ c > 1000000) ∧ s = ⟨[(0, .c (encV v)), (1, .c (cI a)), (2, .c (cI c)), (7, .c (.ref 0 0 v.length))], [(0, ⟨2, v.map encE⟩)], 1⟩) ?_ ?_
  · by_cases hb : a < 1 ∨ c < 0 ∨ c > 1000000
    · have hr : withS v a c = v := if_pos hb
      by_cases h1 : a < 1
      · refine AW.st teOk [] (by simp [h1, -Option.some.injEq] <;> rfl) trivial ?_
        refine AW.iff true (by simp) (fun _ => ?_) (fun h => by cases h)
        refine AW.st teOk [] (by simp [-Option.some.injEq] <;> rfl) trivial ?_
        refine AW.ret ⟨.inr rfl, _, Weak.frzT 6 [] _ (by simp <;> exact ⟨rfl, rfl, rfl⟩) (by simp <;> rfl) (flat_encE _), ?_⟩
        simp [hr]
      · by_cases h2 : c < 0
        · refine AW.st teOk [] (by simp [h1, h2, -Option.some.injEq] <;> rfl) trivial ?_
          refine AW.iff true (by simp) (fun _ => ?_) (fun h => by cases h)
          refine AW.st teOk [] (by simp [-Option.some.injEq] <;> rfl) trivial ?_
          refine AW.ret ⟨.inr rfl, _, Weak.frzT 6 [] _ (by simp <;> exact ⟨rfl, rfl, rfl⟩) (by simp <;> rfl) (flat_encE _), ?_⟩
          simp [hr]
        · have h3 : c > 1000000 := by omega
          refine AW.st teOk [] (by simp [h1, h2, h3, -Option.some.injEq] <;> rfl) trivial ?_
          refine AW.iff true (by simp) (fun _ => ?_) (fun h => by cases h)
          refine AW.st teOk [] (by simp [-Option.some.injEq] <;> rfl) trivial ?_
          refine AW.ret ⟨.inr rfl, _, Weak.frzT 6 [] _ (by simp <;> exact ⟨rfl, rfl, rfl⟩) (by simp <;> rfl) (flat_encE _), ?_⟩
          simp [hr]
    · have h1 : ¬ a < 1 := by omega
      have h2 : ¬ c < 0 := by omega
      have h3 : ¬ c > 1000000 := by omega
      refine AW.st teOk [] (by simp [h1, h2, h3, -Option.some.injEq] <;> rfl) trivial ?_
      exact AW.iff false (by simp) (fun h => by cases h) (fun _ => AW.skip ⟨_, Weak.normT hA [0, 1, 2, 7] [(7, 0)] [] 1 _ (by simp) (by simp) (by simp), hb, by simp⟩)
  rintro s ⟨hb, rfl⟩
  obtain ⟨p, hp⟩ : ∃ p, p = posI v a := ⟨_, rfl⟩
  obtain ⟨g, hg⟩ : ∃ g, g = hasI v a := ⟨_, rfl⟩
  have hpl : p ≤ v.length := by rw [hp]; exact List.countP_le_length
  have hhp := has_pos hv a
  have hr : withS v a c = if g = true then (if c = 0 then delL v p else v.set p (a, c)) else if c > 0 then v.take p ++ (a, c) :: v.drop p else v := by rw [withS, if_neg hb, ← hp, ← hg]
  refine AW.st teOk [.rd (.tup [.c (cI p), .c (cB g)])] (by simp [-Option.some.injEq] <;> rfl) ?_ ?_
  · refine ⟨⟨flat_encE v, trivial, trivial⟩, ?_⟩
    rw [hp, hg]
    have := search_pure v a hv (by omega)
    simpa using this
  have hlen : (List.map encE v).length = v.length := by simp
  refine AW.mid (fun s => ∃ r : V2, withS v a c = r ∧ s = ⟨[(7, .c (.ref 0 0 r.length))], [(0, ⟨2, r.map encE⟩)], 1⟩) (AW.block ?_) ?_
  · cases g with
    | true =>
      have hex : ∃ e, v[p]? = some e ∧ e.1 = a := by
        rw [← hg, ← hp] at hhp
        cases hq : v[p]? with
        | none => rw [hq] at hhp; cases hhp
        | some e => rw [hq] at hhp; exact ⟨e, rfl, by simpa using hhp.symm⟩
      obtain ⟨e, he, hea⟩ := hex
      have hlt : p < v.length := (List.getElem?_eq_some_iff.1 he).1
      by_cases hc : c = 0
      · subst hc
        rw [if_pos rfl, if_pos rfl] at hr
        refine AW.st teOk [] (by simp [-Option.some.injEq] <;> rfl) trivial ?_
        refine AW.iff true (by simp) (fun _ => ?_) (fun h => by cases h)
        have hn : IntKind.i64.wrap ((p : Int) + 1) = (p : Int) + 1 := wrap_s p (by omega)
        refine AW.weak (Weak.normT hA [7, 8] [(7, 1000000)] [] 1000016 _ (by simp) (by simp) (by simp)) ?_
        have hD := delL_map encE v p
        have hDl := delL_len v p hlt
        obtain ⟨D, hDD⟩ : ∃ D, D = delL v p := ⟨_, rfl⟩
        rw [← hDD] at hr hD hDl
        have hdc := delV_con (v.map encE) (flat_encE v) p (by simpa using hlt) (by simp; omega)
        rw [hD, hlen, ← hDl] at hdc
        refine AW.st teOk [.own (.c (.ref 1000000 0 D.length)) [(1000000, ⟨2, D.map encE ++ [zE]⟩)] 1000040] (by simp [hn, -Option.some.injEq] <;> rfl) ?_ ?_
        · simpa [hn] using hdc
        have hfz : flatO ⟨2, D.map encE ++ [zE]⟩ = true := flat_app (flat_encE D) (flat_one rfl)
        have htk : (D.map encE ++ [zE]).take D.length = D.map encE := List.take_left' (by simp)
        refine AW.ret ⟨.inr rfl, _, Weak.frzT 6 [] _ (by simp <;> exact ⟨rfl, rfl, rfl⟩) (by simp <;> rfl) hfz, ?_⟩
        simp [hr, htk]
      · rw [if_pos rfl, if_neg hc] at hr
        have hc' : (c == 0) = false := by simpa using hc
        refine AW.st teOk [] (by simp [hc, hc', -Option.some.injEq] <;> rfl) trivial ?_
        refine AW.iff false (by simp [hc]) (fun h => by cases h) (fun _ => ?_)
        refine AW.st teOk [] (by simp [-Option.some.injEq] <;> rfl) trivial ?_
        refine AW.iff true (by simp) (fun _ => ?_) (fun h => by cases h)
        have hs : (v.map encE).set p [cI (v[p]'hlt).1, cI c] = (v.set p (a, c)).map encE := by
          rw [List.map_set]
          have : (v[p]'hlt).1 = a := by rw [(List.getElem?_eq_some_iff.1 he).2]; exact hea
          rw [this]
          rfl
        have hfs : flatO ⟨2, (v.map encE).set p [cI a, cI c]⟩ = true := by
          have := flat_encE (v.set p (a, c))
          rw [List.map_set] at this
          exact this
        refine AW.text teOk (ans := []) (by simp [hlt, -Option.some.injEq] <;> rfl) ?_ ?_
        · simp [allP]
          try omega
        refine ⟨_, Weak.normT hA [7] [(7, 0)] [] 1 _ (by simp) (by simp) (by simp [hs, hfs]), _, hr, ?_⟩
        simp [hs]
    | false =>
      rw [if_neg (by simp)] at hr
      refine AW.st teOk [] (by simp [-Option.some.injEq] <;> rfl) trivial ?_
      refine AW.iff false (by simp) (fun h => by cases h) (fun _ => ?_)
      refine AW.st teOk [] (by simp [-Option.some.injEq] <;> rfl) trivial ?_
      refine AW.iff false (by simp) (fun h => by cases h) (fun _ => ?_)
      by_cases hc : c > 0
      · rw [if_pos hc] at hr
        refine AW.st teOk [] (by simp [hc, -Option.some.injEq] <;> rfl) trivial ?_
        refine AW.iff true (by simp) (fun _ => ?_) (fun h => by cases h)
        refine AW.weak (Weak.normT hA [1, 2, 7, 8] [(7, 1000000)] [] 1000014 _ (by simp) (by simp) (by simp)) ?_
        have hic := ins_con (v.map encE) (flat_encE v) (enc2 v) p (by simpa using hpl) (by simp; omega) (encE (a, c)) rfl rfl
        obtain ⟨R, hR⟩ : ∃ R, R = v.take p ++ (a, c) :: v.drop p := ⟨_, rfl⟩
        have hRl : R.length = v.length + 1 := by rw [hR]; simp; omega
        have hRm : (v.map encE).take p ++ encE (a, c) :: (v.map encE).drop p = R.map encE := by rw [hR]; simp [List.map_take, List.map_drop]
        rw [hRm, hlen, ← hRl] at hic
        rw [← hR] at hr
        refine AW.st teOk [.own (.c (.ref 1000100 0 R.length)) [(1000100, ⟨2, R.map encE⟩)] 1000101] (by simp [-Option.some.injEq] <;> rfl) ?_ ?_
        · simpa using hic
        refine AW.ret ⟨.inr rfl, _, Weak.frzT 6 [] _ (by simp <;> exact ⟨rfl, rfl, rfl⟩) (by simp <;> rfl) (flat_encE R), ?_⟩
        simp [hr]
      · rw [if_neg hc] at hr
        refine AW.st teOk [] (by simp [hc, -Option.some.injEq] <;> rfl) trivial ?_
        refine AW.iff false (by simp) (fun h => by cases h) (fun _ => AW.skip ?_)
        exact ⟨_, Weak.normT hA [7] [(7, 0)] [] 1 _ (by simp) (by simp) (by simp), _, hr, by simp⟩
  · rintro s ⟨r, hrr, rfl⟩
    refine AW.st teOk [] (by simp [-Option.some.injEq] <;> rfl) trivial ?_
    refine AW.ret ⟨.inr rfl, _, Weak.frzT 6 [] _ (by simp <;> exact ⟨rfl, rfl, rfl⟩) (by simp <;> rfl) (flat_encE r), ?_⟩
    simp [hrr]
end Go.Proofs.Ytopcklnnkpjanaa.Abs
