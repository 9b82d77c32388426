/- Agreement: the reference's new group; groups compared. -/
import Derived.Test.YtopcklnnkpjanaaWRgr3
namespace Go.Proofs.Ytopcklnnkpjanaa.Abs
open Go Go.RowKit
set_option linter.unusedVariables false
set_option linter.unusedSimpArgs false
set_option maxHeartbeats 4000000
/-- The first proposals of some proposers, from place i on. -/
def pksTo (n : Nat) : Nat → List (List V2) → List PkS
  | _, [] => []
  | i, l :: ls => (if l = [] then [] else propsTo i (newS n (headV l)) n) ++ pksTo n (i + 1) ls
theorem pksTo_app (n : Nat) (l : List V2) : ∀ (i : Nat) (ls : List (List V2)), pksTo n i (ls ++ [l]) = pksTo n i ls ++ (if l = [] then [] else propsTo (i + ls.length) (newS n (headV l)) n)
  | i, [] => by simp [pksTo]
  | i, x :: ls => by
    rw [List.cons_append, pksTo, pksTo, pksTo_app n l (i + 1) ls, List.append_assoc, List.length_cons, show i + 1 + ls.length = i + (ls.length + 1) by omega]
theorem newG_pks (n : Nat) : ∀ (ls : List (List V2)) (g : GrS), (ls.foldl (addS n) g).pks = g.pks ++ pksTo n g.props.length ls
  | [], g => by simp [pksTo]
  | l :: ls, g => by
    rw [List.foldl_cons, newG_pks n ls, pksTo]
    by_cases hl : l = []
    · simp [addS, hl]
    · have hn : (newS n (headV l)).n.toNat = n := by show ((n : Int)).toNat = n; omega
      simp [addS, hl, sendS, hn, List.append_assoc]
def base0 (n : Nat) (ins : List (List V2)) : GrS := ⟨List.replicate n [], ins.map fun l => newS n (headV l), ins, List.replicate ins.length 0, [], [], 0⟩
theorem newG_is (n : Nat) (ins : List (List V2)) : newG n ins = { base0 n ins with pks := pksTo n 0 ins } := by
  have h := new_is n ins
  have hp : (newG n ins).pks = pksTo n 0 ins := by
    unfold newG
    rw [newG_pks]
    rfl
  obtain ⟨h1, h2, h3, h4, h5, h6, _, _, _, _⟩ := h
  generalize newG n ins = G at *
  obtain ⟨accs, props, ins', nxt, pks, decs, steps⟩ := G
  dsimp only at h1 h2 h3 h4 h5 h6 hp
  subst h1 h2 h3 h4 h5 h6 hp
  rfl
theorem pksTo_len (n : Nat) : ∀ (i : Nat) (ls : List (List V2)), (pksTo n i ls).length ≤ n * ls.length
  | _, [] => by simp [pksTo]
  | i, l :: ls => by
    have := pksTo_len n (i + 1) ls
    rw [pksTo, List.length_append, List.length_cons, Nat.mul_succ]
    split
    · simp; omega
    · rw [propsTo_len]; omega
abbrev nilC : List Cell := [.sc (.slice none 0 0)]
theorem flat_nil (n : Nat) : flatO ⟨1, List.replicate n nilC⟩ = true := flatO_of fun e he => by rw [(List.mem_replicate.1 he).2]; rfl
theorem nil_le (n : Nat) : ∀ (i : Nat) (e e' : List Cell), (List.replicate n nilC)[i]? = some e → ((List.replicate n ([] : V2)).map encC)[i]? = some e' → LeCs e e' := fun i e e' he he' => by
  rw [(List.mem_replicate.1 (List.mem_of_getElem? he)).2]
  rw [List.map_replicate] at he'
  rw [(List.mem_replicate.1 (List.mem_of_getElem? he')).2]
  exact .cons (nil_cell 2) .nil
theorem rnew_pure (n : Nat) (hn : 1 ≤ n ∧ n ≤ 12) (ins : List (List V2)) (hi : InsOk ins) : Pure Try.prog 57 [.c (cI n), .c (.row 1 false (ins.map encIn))] (.agg (encGr (newG n ins))) := by
  have hil := hi.len
  refine pure_of teOk Try.func57 (by kernel_rfl) (c := _) rfl (N := 70) rfl (rs := [Go.ResultVar.cell 4 96]) rfl (by simp) fun base A w0 hA => ?_
  refine AW.st teOk [] (by simp [-Option.some.injEq] <;> rfl) trivial ?_
  refine AW.st teOk [] (by simp [-Option.some.injEq] <;> rfl) trivial ?_
  refine AW.to (s2 := ⟨[(0, .c (cI n)), (1, .c (.row 1 false (ins.map encIn))), (4, .c (.ptr 0 0 0)), (5, .c (.ptr 1 0 0))], [(0, ⟨7, [nilG]⟩), (1, ⟨7, [[.ref 2 0 0, .ref 3 0 0, .row 1 false (ins.map encIn), .ref 4 0 0, .ref 5 0 0, .ref 6 0 0, cI 0]]⟩), (2, ⟨1, []⟩), (3, ⟨5, []⟩), (4, ⟨1, []⟩), (5, ⟨5, []⟩), (6, ⟨4, []⟩)], 7⟩) (((Weak.nilP 5 0 1 _ (by simp [putA] <;> rfl) (by simp [putA] <;> exact ⟨rfl, rfl⟩) rfl (by simp)).trans ((Weak.nilP 5 1 5 _ (by simp [putA] <;> rfl) (by simp [putA] <;> exact ⟨rfl, rfl⟩) rfl (by simp)).trans ((Weak.nilP 5 3 1 _ (by simp [putA] <;> rfl) (by simp [putA] <;> exact ⟨rfl, rfl⟩) rfl (by simp)).trans ((Weak.nilP 5 4 5 _ (by simp [putA] <;> rfl) (by simp [putA] <;> exact ⟨rfl, rfl⟩) rfl (by simp)).trans (Weak.nilP 5 5 4 _ (by simp [putA] <;> rfl) (by simp [putA] <;> exact ⟨rfl, rfl⟩) rfl (by simp)))))).trans (Weak.normS hA [0, 1, 4, 5] [(4, 0), (5, 1)] [(5, 2), (6, 3), (7, 4), (8, 5), (9, 6)] [3] 7 _ (by simp [putA]) (by simp [putA]) (by simp [putA]))) (by simp [putA]) ?_
  refine AW.mid (fun s => s = ⟨[(0, .c (cI n)), (1, .c (.row 1 false (ins.map encIn))), (4, .c (.ptr 0 0 0)), (5, .c (.ptr 1 0 0))], [(0, ⟨7, [nilG]⟩), (1, ⟨7, [[.ref 2 0 n, .ref 3 0 0, .row 1 false (ins.map encIn), .ref 4 0 0, .ref 5 0 0, .ref 6 0 0, cI 0]]⟩), (2, ⟨1, List.replicate n [encV []]⟩), (3, ⟨5, []⟩), (4, ⟨1, []⟩), (5, ⟨5, []⟩), (6, ⟨4, []⟩)], 7⟩) ?_ ?_
  · refine AW.st teOk [] (by simp [-Option.some.injEq] <;> rfl) trivial ?_
    refine AW.block (AW.loop (fun m s => ∃ j : Nat, j ≤ n ∧ m = n - j ∧ s = ⟨[(0, .c (cI n)), (1, .c (.row 1 false (ins.map encIn))), (4, .c (.ptr 0 0 0)), (5, .c (.ptr 1 0 0)), (6, .c (cI j))], [(0, ⟨7, [nilG]⟩), (1, ⟨7, [[.ref 2 0 j, .ref 3 0 0, .row 1 false (ins.map encIn), .ref 4 0 0, .ref 5 0 0, .ref 6 0 0, cI 0]]⟩), (2, ⟨1, List.replicate j nilC⟩), (3, ⟨5, []⟩), (4, ⟨1, []⟩), (5, ⟨5, []⟩), (6, ⟨4, []⟩)], 7⟩) _ (Weak.normS hA [0, 1, 4, 5, 6] [(4, 0), (5, 1)] [(2, 2), (3, 3), (4, 4), (5, 5), (6, 6)] [1] 7 _ (by simp) (by simp) (by simp)) ⟨0, Nat.zero_le _, rfl, by simp⟩ ?_)
    rintro m s ⟨j, hj, rfl, rfl⟩
    have hrs : List.replicate (j + 1) nilC = List.replicate j nilC ++ [nilC] := List.replicate_succ'
    have hinc : IntKind.i64.wrap ((j : Int) + 1) = (j : Int) + 1 := wrap_s _ (by omega)
    have hfl := flat_nil (j + 1)
    rw [hrs] at hfl
    refine AW.seq ?_
    refine AW.st teOk [] (by simp [-Option.some.injEq] <;> rfl) trivial ?_
    refine AW.iff (decide (j < n)) (by simp) (fun h => AW.skip ?_) (fun h => AW.exit (x_then (x_then (blockA_exit ?_))))
    · rw [decide_eq_true_eq] at h
      refine AW.seq (AW.block ?_)
      refine AW.text teOk (ans := []) (by simp [-Option.some.injEq] <;> rfl) ?_ ?_
      · simp [growOk]
        omega
      refine AW.text teOk (ans := []) (by simp [-Option.some.injEq] <;> rfl) ?_ ?_
      · trivial
      refine ⟨_, _, Weak.normS hA [0, 1, 4, 5, 6] [(4, 0), (5, 1)] [(13, 2), (3, 3), (4, 4), (5, 5), (6, 6)] [1] 7 _ (by simp) (by simp) (by simp [hfl]), ?_, j + 1, h, rfl, ?_⟩
      · omega
      · rw [hrs]
        simp [hinc]
    have hje : j = n := by
      rw [decide_eq_false_iff_not] at h
      omega
    subst hje
    have hf1 : flatO ⟨1, List.replicate j [encV []]⟩ = true := flatO_of fun e he => by rw [(List.mem_replicate.1 he).2]; rfl
    refine ⟨_, (Weak.leO 2 _ (o := ⟨1, List.replicate j nilC⟩) (o' := ⟨1, List.replicate j [encV []]⟩) (by simp) rfl (by simp) (fun i e e' he he' => ?_)).trans (Weak.normS hA [0, 1, 4, 5] [(4, 0), (5, 1)] [(2, 2), (3, 3), (4, 4), (5, 5), (6, 6)] [1] 7 _ (by simp [putA]) (by simp [putA]) (by simp [putA]; exact hf1)), by simp [putA]⟩
    rw [(List.mem_replicate.1 (List.mem_of_getElem? he)).2, (List.mem_replicate.1 (List.mem_of_getElem? he')).2]
    exact .cons (nil_cell 2) .nil
  rintro s rfl
  have hf1 : flatO ⟨1, List.replicate n [encV []]⟩ = true := flatO_of fun e he => by rw [(List.mem_replicate.1 he).2]; rfl
  refine AW.mid (fun s => s = ⟨[(1, .c (.row 1 false (ins.map encIn))), (4, .c (.ptr 0 0 0)), (5, .c (.ptr 1 0 0))], [(0, ⟨7, [nilG]⟩), (1, ⟨7, [encGr (base0 n ins)]⟩)], 2⟩) ?_ ?_
  · refine AW.st teOk [] (by simp [-Option.some.injEq] <;> rfl) trivial ?_
    refine AW.block (AW.loop (fun m s => ∃ done rest, m = rest.length ∧ ins = done ++ rest ∧ s = ⟨[(0, .c (cI n)), (1, .c (.row 1 false (ins.map encIn))), (4, .c (.ptr 0 0 0)), (5, .c (.ptr 1 0 0)), (7, .c (cI done.length))], [(0, ⟨7, [nilG]⟩), (1, ⟨7, [[.ref 2 0 n, .ref 3 0 done.length, .row 1 false (ins.map encIn), .ref 4 0 done.length, .ref 5 0 0, .ref 6 0 0, cI 0]]⟩), (2, ⟨1, List.replicate n [encV []]⟩), (3, ⟨5, (done.map fun l => newS n (headV l)).map encPr'⟩), (4, ⟨1, (List.replicate done.length 0).map encn⟩), (5, ⟨5, []⟩), (6, ⟨4, []⟩)], 7⟩) _ (Weak.normS hA [0, 1, 4, 5, 7] [(4, 0), (5, 1)] [(2, 2), (3, 3), (4, 4), (5, 5), (6, 6)] [1] 7 _ (by simp) (by simp) (by simp [hf1])) ⟨[], ins, rfl, rfl, by simp⟩ ?_)
    rintro m s ⟨done, rest, rfl, hdr, rfl⟩
    have hlen : ins.length = done.length + rest.length := by rw [hdr, List.length_append]
    obtain ⟨P, hP⟩ : ∃ P, P = done.map fun l => newS n (headV l) := ⟨_, rfl⟩
    obtain ⟨Z, hZ⟩ : ∃ Z, Z = List.replicate done.length (0 : Int) := ⟨_, rfl⟩
    rw [← hP, ← hZ]
    have hPl : P.length = done.length := by rw [hP, List.length_map]
    have hZl : Z.length = done.length := by rw [hZ, List.length_replicate]
    refine AW.seq ?_
    refine AW.st teOk [] (by simp [-Option.some.injEq] <;> rfl) trivial ?_
    refine AW.iff (decide (done.length < ins.length)) (by simp) (fun h => AW.skip ?_) (fun h => AW.exit (x_then (x_then (blockA_exit ?_))))
    · rw [decide_eq_true_eq] at h
      cases rest with
      | nil => simp at hlen; omega
      | cons l rest =>
      have hx : ins[done.length]? = some l := by rw [hdr]; simp
      have hinc : IntKind.i64.wrap ((done.length : Int) + 1) = (done.length : Int) + 1 := wrap_s _ (by omega)
      have hP2 : (done ++ [l]).map (fun l => newS n (headV l)) = P ++ [newS n (headV l)] := by rw [hP, List.map_append]; rfl
      have hZ2 : List.replicate (done ++ [l]).length (0 : Int) = Z ++ [0] := by rw [List.length_append, List.length_singleton, hZ]; exact List.replicate_succ'
      refine AW.mid (fun s => s = ⟨[(0, .c (cI n)), (1, .c (.row 1 false (ins.map encIn))), (4, .c (.ptr 0 0 0)), (5, .c (.ptr 1 0 0)), (7, .c (cI done.length))], [(0, ⟨7, [nilG]⟩), (1, ⟨7, [[.ref 2 0 n, .ref 3 0 (done.length + 1), .row 1 false (ins.map encIn), .ref 4 0 (done.length + 1), .ref 5 0 0, .ref 6 0 0, cI 0]]⟩), (2, ⟨1, List.replicate n [encV []]⟩), (3, ⟨5, (P ++ [newS n (headV l)]).map encPr'⟩), (4, ⟨1, (Z ++ [0]).map encn⟩), (5, ⟨5, []⟩), (6, ⟨4, []⟩)], 7⟩) (AW.block ?_) ?_
      · refine AW.st teOk [] (by simp [-Option.some.injEq] <;> rfl) trivial ?_
        refine AW.mid (fun s => s = ⟨[(0, .c (cI n)), (1, .c (.row 1 false (ins.map encIn))), (4, .c (.ptr 0 0 0)), (5, .c (.ptr 1 0 0)), (7, .c (cI done.length)), (8, .c (.ptr 7 0 0))], [(0, ⟨7, [nilG]⟩), (1, ⟨7, [[.ref 2 0 n, .ref 3 0 done.length, .row 1 false (ins.map encIn), .ref 4 0 done.length, .ref 5 0 0, .ref 6 0 0, cI 0]]⟩), (2, ⟨1, List.replicate n [encV []]⟩), (3, ⟨5, P.map encPr'⟩), (4, ⟨1, Z.map encn⟩), (5, ⟨5, []⟩), (6, ⟨4, []⟩), (7, ⟨5, [encPr (newS n (headV l))]⟩)], 8⟩) ?_ ?_
        · cases l with
          | nil =>
            refine AW.st teOk [] (by simp [hx, -Option.some.injEq] <;> rfl) ?_ ?_
            · exact h
            refine AW.iff false (by simp) (fun h => by cases h) (fun _ => AW.skip ?_)
            refine ⟨_, (Weak.leP 8 _ (o := ⟨5, [[cI n, .sc (.slice none 0 0), cI 1, .sc (.slice none 0 0), cB false]]⟩) ⟨5, [encPr (newS n (headV []))]⟩ (by simp <;> exact ⟨rfl, rfl, rfl⟩) (by simp) rfl rfl (one_le (.cons (.refl _) (.cons (nil_cell 2) (.cons (.refl _) (.cons (nil_cell 1) (.cons (.refl _) .nil))))))).trans (Weak.normS hA [0, 1, 4, 5, 7, 8] [(4, 0), (5, 1), (8, 7)] [(2, 2), (3, 3), (4, 4), (5, 5), (6, 6)] [1] 8 _ (by simp [putA]) (by simp [putA]) (by simp [putA, hf1])), by simp [putA]⟩
          | cons v l =>
            refine AW.st teOk [] (by simp [hx, -Option.some.injEq] <;> rfl) ?_ ?_
            · exact h
            refine AW.iff true (by simp) (fun _ => ?_) (fun h => by cases h)
            refine AW.text teOk (ans := []) (by simp [hx, -Option.some.injEq] <;> rfl) ?_ ?_
            · exact h
            refine ⟨_, (Weak.leP 8 _ (o := ⟨5, [[cI n, encV v, cI 1, .sc (.slice none 0 0), cB false]]⟩) ⟨5, [encPr (newS n (headV (v :: l)))]⟩ (by simp <;> exact ⟨rfl, rfl, rfl⟩) (by simp) rfl rfl (one_le (.cons (.refl _) (.cons (.refl _) (.cons (.refl _) (.cons (nil_cell 1) (.cons (.refl _) .nil))))))).trans (Weak.normS hA [0, 1, 4, 5, 7, 8] [(4, 0), (5, 1), (8, 7)] [(2, 2), (3, 3), (4, 4), (5, 5), (6, 6)] [1] 8 _ (by simp [putA]) (by simp [putA]) (by simp [putA, hf1])), by simp [putA]⟩
        rintro s rfl
        refine AW.st teOk [] (by simp [-Option.some.injEq] <;> rfl) ?_ ?_
        · simp [growOk]
          omega
        refine AW.text teOk (ans := []) (by simp [-Option.some.injEq] <;> rfl) ?_ ?_
        · simp [growOk]
          omega
        exact ⟨_, Weak.normS hA [0, 1, 4, 5, 7] [(4, 0), (5, 1)] [(2, 2), (12, 3), (18, 4), (5, 5), (6, 6)] [1] 7 _ (by simp) (by simp) (by simp [hf1]), by simp⟩
      rintro s rfl
      refine AW.text teOk (ans := []) (by simp [-Option.some.injEq] <;> rfl) ?_ ?_
      · trivial
      refine ⟨_, _, Weak.normS hA [0, 1, 4, 5, 7] [(4, 0), (5, 1)] [(2, 2), (3, 3), (4, 4), (5, 5), (6, 6)] [1] 7 _ (by simp) (by simp) (by simp [hf1]), ?_, done ++ [l], rest, rfl, by rw [hdr, List.append_assoc]; rfl, ?_⟩
      · simp
      · rw [hP2, hZ2]
        simp [hinc]
    have hend : done = ins := by
      rw [decide_eq_false_iff_not] at h
      have : rest = [] := List.eq_nil_of_length_eq_zero (by omega)
      rw [hdr, this, List.append_nil]
    have hb : base0 n ins = ⟨List.replicate n [], P, ins, Z, [], [], 0⟩ := by rw [hP, hZ, hend]; rfl
    rw [hb]
    have hPl2 : P.length = ins.length := by rw [hPl, hend]
    have hZl2 : Z.length = ins.length := by rw [hZl, hend]
    rw [hend]
    have htP := take_all (l := P.map encPr') (n := ins.length) (by simp [hPl2])
    have htZ := take_all (l := Z.map encn) (n := ins.length) (by simp [hZl2])
    refine ⟨_, (Weak.freeze 2 ⟨1, List.replicate n [encV []]⟩ [1] _ (by simp) hf1).trans ((Weak.freeze 3 ⟨5, P.map encPr'⟩ [1] _ (by simp) (by simp)).trans ((Weak.freeze 4 ⟨1, Z.map encn⟩ [1] _ (by simp) (by simp)).trans ((Weak.freeze 5 ⟨5, []⟩ [1] _ (by simp) (by simp)).trans ((Weak.freeze 6 ⟨4, []⟩ [1] _ (by simp) (by simp)).trans (Weak.normS hA [1, 4, 5] [(4, 0), (5, 1)] [] [] 2 _ (by simp) (by simp) (by simp [hPl2, hZl2])))))), by simp [hPl2, hZl2, htP, htZ]⟩
  rintro s rfl
  have hba : (base0 n ins).accs.length = n := List.length_replicate
  have hbp : ∀ (i : Nat) (l : List V2), ins[i]? = some l → (base0 n ins).props[i]? = some (newS n (headV l)) := fun i l hl => by
    show (ins.map fun l => newS n (headV l))[i]? = _
    rw [List.getElem?_map, hl]
    rfl
  have hnew := newG_is n ins
  have hb0 : base0 n ins = { base0 n ins with pks := pksTo n 0 [] } := rfl
  rw [hnew]
  generalize base0 n ins = B at *
  refine AW.seq ?_
  refine AW.st teOk [] (by simp [-Option.some.injEq] <;> rfl) trivial ?_
  refine AW.block (AW.loop (fun m s => ∃ done rest, m = rest.length ∧ ins = done ++ rest ∧ s = ⟨[(1, .c (.row 1 false (ins.map encIn))), (4, .c (.ptr 0 0 0)), (5, .c (.ptr 1 0 0)), (9, .c (cI done.length))], [(0, ⟨7, [nilG]⟩), (1, ⟨7, [encGr { B with pks := pksTo n 0 done }]⟩)], 2⟩) _ (Weak.normS hA [1, 4, 5, 9] [(4, 0), (5, 1)] [] [] 2 _ (by simp) (by simp) (by simp)) ⟨[], ins, rfl, rfl, by rw [← hb0]; simp⟩ ?_)
  rintro m s ⟨done, rest, rfl, hdr, rfl⟩
  have hlen : ins.length = done.length + rest.length := by rw [hdr, List.length_append]
  have hpl := pksTo_len n 0 done
  have hpm : n * done.length ≤ 12 * 4 := Nat.mul_le_mul hn.2 (by omega)
  have happ := fun l => pksTo_app n l 0 done
  obtain ⟨K, hK⟩ : ∃ K, K = pksTo n 0 done := ⟨_, rfl⟩
  rw [← hK] at hpl happ ⊢
  refine AW.seq ?_
  refine AW.st teOk [] (by simp [-Option.some.injEq] <;> rfl) trivial ?_
  refine AW.iff (decide (done.length < ins.length)) (by simp) (fun h => AW.skip ?_) (fun h => AW.exit (x_then (x_then (blockA_exit ?_))))
  · rw [decide_eq_true_eq] at h
    cases rest with
    | nil => simp at hlen; omega
    | cons l rest =>
    have hx : ins[done.length]? = some l := by rw [hdr]; simp
    have hinc : IntKind.i64.wrap ((done.length : Int) + 1) = (done.length : Int) + 1 := wrap_s _ (by omega)
    have happ := happ l
    refine AW.mid (fun s => s = ⟨[(1, .c (.row 1 false (ins.map encIn))), (4, .c (.ptr 0 0 0)), (5, .c (.ptr 1 0 0)), (9, .c (cI done.length))], [(0, ⟨7, [nilG]⟩), (1, ⟨7, [encGr { B with pks := pksTo n 0 (done ++ [l]) }]⟩)], 2⟩) (AW.block ?_) ?_
    · by_cases hl : l = []
      · rw [happ, if_pos hl, List.append_nil]
        subst hl
        refine AW.st teOk [] (by simp [hx, -Option.some.injEq] <;> rfl) ?_ ?_
        · exact h
        refine AW.iff false (by simp) (fun h => by cases h) (fun _ => AW.skip ?_)
        exact ⟨_, Weak.normS hA [1, 4, 5, 9] [(4, 0), (5, 1)] [] [] 2 _ (by simp) (by simp) (by simp), by simp⟩
      · have hsc := rsend_pure { B with pks := K } done.length (newS n (headV l)) (hbp _ l hx) (by show (n : Int) = (B.accs.length : Int); rw [hba]) (by show B.accs.length ≤ 12; omega) (by show K.length < _; omega)
        have hG : sendS { B with pks := K } done.length (newS n (headV l)) = { B with pks := pksTo n 0 (done ++ [l]) } := by
          rw [happ, if_neg hl, Nat.zero_add]
          unfold sendS
          rw [show (newS n (headV l)).n.toNat = n by show ((n : Int)).toNat = n; omega]
        rw [hG] at hsc
        generalize pksTo n 0 (done ++ [l]) = K2 at *
        have hl1 : ¬ ((l.length : Int) = 0) := by have := List.length_pos_iff.2 hl; omega
        have hl2 : 0 < l.length := List.length_pos_iff.2 hl
        refine AW.st teOk [] (by simp [hx, -Option.some.injEq] <;> rfl) ?_ ?_
        · exact h
        refine AW.iff true (by simp [hl2]) (fun _ => ?_) (fun h => by cases h)
        refine AW.text teOk (ans := [.fz (.agg (encGr { B with pks := K2 }))]) (by simp [-Option.some.injEq] <;> rfl) ?_ ?_
        · exact hsc
        exact ⟨_, Weak.normS hA [1, 4, 5, 9] [(4, 0), (5, 1)] [] [] 2 _ (by simp) (by simp) (by simp), by simp⟩
    rintro s rfl
    refine AW.text teOk (ans := []) (by simp [-Option.some.injEq] <;> rfl) ?_ ?_
    · trivial
    refine ⟨_, _, Weak.normS hA [1, 4, 5, 9] [(4, 0), (5, 1)] [] [] 2 _ (by simp) (by simp) (by simp), ?_, done ++ [l], rest, rfl, by rw [hdr, List.append_assoc]; rfl, ?_⟩
    · simp
    · simp [hinc]
  have hend : done = ins := by
    rw [decide_eq_false_iff_not] at h
    have : rest = [] := List.eq_nil_of_length_eq_zero (by omega)
    rw [hdr, this, List.append_nil]
  rw [hend] at hK
  rw [← hK]
  refine AW.st teOk [] (by simp [-Option.some.injEq] <;> rfl) trivial ?_
  refine AW.ret ⟨.inr rfl, _, Weak.refl _, ?_⟩
  simp
theorem same_pure (g : GrS) {n N : Nat} (h : GrW g n N) (hN : N < 100000000) : Pure Try.prog 58 [.agg (encGr g), .agg (encGr g)] (.c (cB true)) := by
  have hb := h.b hN
  have hal := hb.al
  have hpl := hb.pl
  have hkl := hb.kl
  have hdl := hb.dl
  have hxl := h.nn.x
  have hpn := h.nn.p
  have ea := fun (v : V2) (hv : v ∈ g.accs) => eqVec_pure v v (by have := (h.a v hv).le; omega)
  have ep := fun (p : PrS) (hp : p ∈ g.props) => eqVec_pure p.v p.v (by have := (h.p p hp).v.le; omega)
  have ek := fun (k : PkS) (hk : k ∈ g.pks) => eqVec_pure k.v k.v (by have := (h.k k hk).1.le; omega)
  have ed := fun (d : DeS) (hd : d ∈ g.decs) => eqVec_pure d.v d.v (by have := (h.d d hd).le; omega)
  clear hb h
  obtain ⟨accs, props, ins, nxt, pks, decs, steps⟩ := g
  dsimp only at *
  refine pure_of teOk Try.func58 (by kernel_rfl) (c := _) rfl (N := 239) rfl (rs := [Go.ResultVar.tmp 4]) rfl (by simp) fun base A w0 hA => ?_
  refine AW.st teOk [] (by simp [-Option.some.injEq] <;> rfl) trivial ?_
  refine AW.seq ?_
  refine AW.st teOk [] (by simp [-Option.some.injEq] <;> rfl) trivial ?_
  refine AW.iff false (by simp) (fun h => by cases h) (fun _ => AW.skip ?_)
  refine AW.mid (fun s => s = ⟨[(2, .c (.ptr 0 0 0)), (3, .c (.ptr 1 0 0))], [(0, ⟨7, [encGr ⟨accs, props, ins, nxt, pks, decs, steps⟩]⟩), (1, ⟨7, [encGr ⟨accs, props, ins, nxt, pks, decs, steps⟩]⟩)], 2⟩) ?_ ?_
  · refine AW.st teOk [] (by simp [-Option.some.injEq] <;> rfl) trivial ?_
    refine AW.block (AW.loop (fun m s => ∃ i : Nat, i ≤ accs.length ∧ m = accs.length - i ∧ s = ⟨[(2, .c (.ptr 0 0 0)), (3, .c (.ptr 1 0 0)), (5, .c (cI i))], [(0, ⟨7, [encGr ⟨accs, props, ins, nxt, pks, decs, steps⟩]⟩), (1, ⟨7, [encGr ⟨accs, props, ins, nxt, pks, decs, steps⟩]⟩)], 2⟩) _ (Weak.normS hA [2, 3, 5] [(2, 0), (3, 1)] [] [] 2 _ (by simp) (by simp) (by simp)) ⟨0, Nat.zero_le _, rfl, by simp⟩ ?_)
    rintro m s ⟨i, hi, rfl, rfl⟩
    refine AW.seq ?_
    refine AW.st teOk [] (by simp [-Option.some.injEq] <;> rfl) trivial ?_
    refine AW.iff (decide (i < accs.length)) (by simp) (fun h => AW.skip ?_) (fun h => AW.exit (x_then (x_then (blockA_exit ?_))))
    · rw [decide_eq_true_eq] at h
      have hinc : IntKind.i64.wrap ((i : Int) + 1) = (i : Int) + 1 := wrap_s _ (by omega)
      obtain ⟨v, hv⟩ : ∃ v, accs[i]? = some v := ⟨_, List.getElem?_eq_getElem h⟩
      have hq := ea v (List.mem_of_getElem? hv)
      rw [decide_eq_true rfl] at hq
      refine AW.seq (AW.block ?_)
      refine AW.dr mixed teOk [.c (cB true)] (by simp [hv, -Option.some.injEq] <;> rfl) (by kernel_rfl) (by kernel_rfl) ?_ ?_
      · simp [allP]
        exact ⟨h, hq⟩
      refine AW.iff false (by simp) (fun h => by cases h) (fun _ => AW.skip ?_)
      refine AW.text teOk (ans := []) (by simp [-Option.some.injEq] <;> rfl) ?_ ?_
      · trivial
      refine ⟨_, _, Weak.normS hA [2, 3, 5] [(2, 0), (3, 1)] [] [] 2 _ (by simp) (by simp) (by simp), ?_, i + 1, h, rfl, ?_⟩
      · omega
      · simp [hinc]
    exact ⟨_, Weak.normS hA [2, 3] [(2, 0), (3, 1)] [] [] 2 _ (by simp) (by simp) (by simp), by simp⟩
  rintro s rfl
  refine AW.mid (fun s => s = ⟨[(2, .c (.ptr 0 0 0)), (3, .c (.ptr 1 0 0))], [(0, ⟨7, [encGr ⟨accs, props, ins, nxt, pks, decs, steps⟩]⟩), (1, ⟨7, [encGr ⟨accs, props, ins, nxt, pks, decs, steps⟩]⟩)], 2⟩) ?_ ?_
  · refine AW.st teOk [] (by simp [-Option.some.injEq] <;> rfl) trivial ?_
    refine AW.block (AW.loop (fun m s => ∃ i : Nat, i ≤ props.length ∧ m = props.length - i ∧ s = ⟨[(2, .c (.ptr 0 0 0)), (3, .c (.ptr 1 0 0)), (6, .c (cI i))], [(0, ⟨7, [encGr ⟨accs, props, ins, nxt, pks, decs, steps⟩]⟩), (1, ⟨7, [encGr ⟨accs, props, ins, nxt, pks, decs, steps⟩]⟩)], 2⟩) _ (Weak.normS hA [2, 3, 6] [(2, 0), (3, 1)] [] [] 2 _ (by simp) (by simp) (by simp)) ⟨0, Nat.zero_le _, rfl, by simp⟩ ?_)
    rintro m s ⟨i, hi, rfl, rfl⟩
    refine AW.seq ?_
    refine AW.st teOk [] (by simp [-Option.some.injEq] <;> rfl) trivial ?_
    refine AW.iff (decide (i < props.length)) (by simp) (fun h => AW.skip ?_) (fun h => AW.exit (x_then (x_then (blockA_exit ?_))))
    · rw [decide_eq_true_eq] at h
      have hinc : IntKind.i64.wrap ((i : Int) + 1) = (i : Int) + 1 := wrap_s _ (by omega)
      obtain ⟨p, hp⟩ : ∃ p, props[i]? = some p := ⟨_, List.getElem?_eq_getElem h⟩
      have hxi : i < nxt.length := by omega
      obtain ⟨x, hx⟩ : ∃ x, nxt[i]? = some x := ⟨_, List.getElem?_eq_getElem hxi⟩
      have hq := ep p (List.mem_of_getElem? hp)
      rw [decide_eq_true rfl] at hq
      refine AW.seq (AW.block ?_)
      refine AW.dr mixed teOk [] (by simp [hp, -Option.some.injEq] <;> rfl) (by kernel_rfl) (by kernel_rfl) ?_ ?_
      · simp [allP]
        exact h
      refine AW.dr mixed teOk [.c (cB true)] (by simp [hp, hx, -Option.some.injEq] <;> rfl) (by kernel_rfl) (by kernel_rfl) ?_ ?_
      · simp [allP]
        exact ⟨hq, hxi⟩
      refine AW.iff false (by simp) (fun h => by cases h) (fun _ => AW.skip ?_)
      refine AW.text teOk (ans := []) (by simp [-Option.some.injEq] <;> rfl) ?_ ?_
      · trivial
      refine ⟨_, _, Weak.normS hA [2, 3, 6] [(2, 0), (3, 1)] [] [] 2 _ (by simp) (by simp) (by simp), ?_, i + 1, h, rfl, ?_⟩
      · omega
      · simp [hinc]
    exact ⟨_, Weak.normS hA [2, 3] [(2, 0), (3, 1)] [] [] 2 _ (by simp) (by simp) (by simp), by simp⟩
  rintro s rfl
  refine AW.mid (fun s => s = ⟨[(2, .c (.ptr 0 0 0)), (3, .c (.ptr 1 0 0))], [(0, ⟨7, [encGr ⟨accs, props, ins, nxt, pks, decs, steps⟩]⟩), (1, ⟨7, [encGr ⟨accs, props, ins, nxt, pks, decs, steps⟩]⟩)], 2⟩) ?_ ?_
  · refine AW.st teOk [] (by simp [-Option.some.injEq] <;> rfl) trivial ?_
    refine AW.block (AW.loop (fun m s => ∃ i : Nat, i ≤ pks.length ∧ m = pks.length - i ∧ s = ⟨[(2, .c (.ptr 0 0 0)), (3, .c (.ptr 1 0 0)), (9, .c (cI i))], [(0, ⟨7, [encGr ⟨accs, props, ins, nxt, pks, decs, steps⟩]⟩), (1, ⟨7, [encGr ⟨accs, props, ins, nxt, pks, decs, steps⟩]⟩)], 2⟩) _ (Weak.normS hA [2, 3, 9] [(2, 0), (3, 1)] [] [] 2 _ (by simp) (by simp) (by simp)) ⟨0, Nat.zero_le _, rfl, by simp⟩ ?_)
    rintro m s ⟨i, hi, rfl, rfl⟩
    refine AW.seq ?_
    refine AW.st teOk [] (by simp [-Option.some.injEq] <;> rfl) trivial ?_
    refine AW.iff (decide (i < pks.length)) (by simp) (fun h => AW.skip ?_) (fun h => AW.exit (x_then (x_then (blockA_exit ?_))))
    · rw [decide_eq_true_eq] at h
      have hinc : IntKind.i64.wrap ((i : Int) + 1) = (i : Int) + 1 := wrap_s _ (by omega)
      obtain ⟨k, hk⟩ : ∃ k, pks[i]? = some k := ⟨_, List.getElem?_eq_getElem h⟩
      have hq := ek k (List.mem_of_getElem? hk)
      rw [decide_eq_true rfl] at hq
      refine AW.seq (AW.block ?_)
      refine AW.dr mixed teOk [] (by simp [hk, -Option.some.injEq] <;> rfl) (by kernel_rfl) (by kernel_rfl) ?_ ?_
      · simp [allP]
        exact h
      refine AW.st teOk [.fz (.c (cB true))] (by simp [-Option.some.injEq] <;> rfl) ?_ ?_
      · exact hq
      refine AW.iff false (by simp) (fun h => by cases h) (fun _ => AW.skip ?_)
      refine AW.text teOk (ans := []) (by simp [-Option.some.injEq] <;> rfl) ?_ ?_
      · trivial
      refine ⟨_, _, Weak.normS hA [2, 3, 9] [(2, 0), (3, 1)] [] [] 2 _ (by simp) (by simp) (by simp), ?_, i + 1, h, rfl, ?_⟩
      · omega
      · simp [hinc]
    exact ⟨_, Weak.normS hA [2, 3] [(2, 0), (3, 1)] [] [] 2 _ (by simp) (by simp) (by simp), by simp⟩
  rintro s rfl
  refine AW.mid (fun s => True) ?_ ?_
  · refine AW.st teOk [] (by simp [-Option.some.injEq] <;> rfl) trivial ?_
    refine AW.block (AW.loop (fun m s => ∃ i : Nat, i ≤ decs.length ∧ m = decs.length - i ∧ s = ⟨[(2, .c (.ptr 0 0 0)), (3, .c (.ptr 1 0 0)), (12, .c (cI i))], [(0, ⟨7, [encGr ⟨accs, props, ins, nxt, pks, decs, steps⟩]⟩), (1, ⟨7, [encGr ⟨accs, props, ins, nxt, pks, decs, steps⟩]⟩)], 2⟩) _ (Weak.normS hA [2, 3, 12] [(2, 0), (3, 1)] [] [] 2 _ (by simp) (by simp) (by simp)) ⟨0, Nat.zero_le _, rfl, by simp⟩ ?_)
    rintro m s ⟨i, hi, rfl, rfl⟩
    refine AW.seq ?_
    refine AW.st teOk [] (by simp [-Option.some.injEq] <;> rfl) trivial ?_
    refine AW.iff (decide (i < decs.length)) (by simp) (fun h => AW.skip ?_) (fun h => AW.exit (x_then (x_then (blockA_exit ?_))))
    · rw [decide_eq_true_eq] at h
      have hinc : IntKind.i64.wrap ((i : Int) + 1) = (i : Int) + 1 := wrap_s _ (by omega)
      obtain ⟨d, hd⟩ : ∃ d, decs[i]? = some d := ⟨_, List.getElem?_eq_getElem h⟩
      have hq := ed d (List.mem_of_getElem? hd)
      rw [decide_eq_true rfl] at hq
      refine AW.seq (AW.block ?_)
      refine AW.dr mixed teOk [] (by simp [hd, -Option.some.injEq] <;> rfl) (by kernel_rfl) (by kernel_rfl) ?_ ?_
      · simp [allP]
        exact h
      refine AW.st teOk [.fz (.c (cB true))] (by simp [-Option.some.injEq] <;> rfl) ?_ ?_
      · exact hq
      refine AW.iff false (by simp) (fun h => by cases h) (fun _ => AW.skip ?_)
      refine AW.text teOk (ans := []) (by simp [-Option.some.injEq] <;> rfl) ?_ ?_
      · trivial
      refine ⟨_, _, Weak.normS hA [2, 3, 12] [(2, 0), (3, 1)] [] [] 2 _ (by simp) (by simp) (by simp), ?_, i + 1, h, rfl, ?_⟩
      · omega
      · simp [hinc]
    exact ⟨_, Weak.refl _, trivial⟩
  rintro s _
  refine AW.st teOk [] (by simp [-Option.some.injEq] <;> rfl) trivial ?_
  refine AW.ret ⟨.inr rfl, _, Weak.refl _, ?_⟩
  simp
end Go.Proofs.Ytopcklnnkpjanaa.Abs
