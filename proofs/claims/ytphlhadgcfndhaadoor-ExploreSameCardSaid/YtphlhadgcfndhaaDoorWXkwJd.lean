/- Explore: a state's key is the text of its numbers. -/
import Derived.Test.YtphlhadgcfndhaaDoorWXcanJd
namespace Go.Proofs.YtphlhadgcfndhaaDoor.Abs
open Go Go.RowKit
set_option linter.unusedVariables false
set_option linter.unusedSimpArgs false
set_option maxHeartbeats 4000000
theorem numbers0_con (t : Bool) (b : List Int) : Con Tryd.prog 42 [.c (.ptr 1000000 0 0), .c (.row 1 t [])] (encS 1000001 b) 1000110 (.tup []) (encS 1000001 b) 1000114 := by
  refine con_of teOk Tryd.func42 (by kernel_rfl) (c := _) rfl (N := 24) rfl (rs := []) rfl (by simp) fun base A w0 rest hrest hrefs hA => ?_
  have hh := hiS_low hrest
  have hl' := loS_low hrest
  have hdr := fun k hk => drop_rest hrest k hk
  have hrn : ∀ (ρ : List (Nat × Nat)) (ids : List Nat), (ids.all fun i => decide (1000000 ≤ i)) = true → rnS 1000000 ρ ids rest = rest := fun ρ ids h => rnS_low h hrest
  refine AW.st teOk [] (by simp [hdr, -Option.some.injEq] <;> rfl) trivial ?_
  refine AW.block (AW.loop (fun m s => m = 0 ∧ s = ⟨[(0, .c (.ptr 1000000 0 0)), (6, .c (.row 1 t [])), (7, .c (cI 0)), (8, .c (cI 0))], encS 1000001 b ++ rest, 1000114⟩) 0 (Weak.normCS hA hrefs [0, 6, 7, 8] [(0, 1000000)] [(1000001, 1000001)] [1000000] 1000114 _ (by simp [hl']) (by simp) (by simp) (by simp) (by simp [hh]) (by simp [hh])) ⟨rfl, by simp [normL, hh, hl', hrn]⟩ ?_)
  rintro m s ⟨rfl, rfl⟩
  refine AW.st teOk [] (by simp [hdr, -Option.some.injEq] <;> rfl) trivial ?_
  refine AW.seq (AW.iff false (by simp) (fun h => by cases h) (fun h => AW.exit (x_then (x_then (blockA_exit ?_)))))
  refine ⟨.inl rfl, _, Weak.normCS hA hrefs [0] [(0, 1000000)] [(1000001, 1000001)] [1000000] 1000114 _ (by simp [hl']) (by simp) (by simp) (by simp) (by simp [hh]) (by simp [hh]), by simp, by simp [normL, hh, hl', hrn], rfl⟩
/-- The numbers of a state are small. -/
structure XSm (s : XpS) : Prop where
  sm : ∀ x ∈ keyN s, 0 ≤ x ∧ x < 100
  len : (keyN s).length ≤ 100000
theorem take_pre {α : Type} {f : α → List Int} {H R K : List Int} (l : List α) (j : Nat) (hK : K = H ++ (l.flatMap f ++ R)) : H ++ (l.take j).flatMap f <+: K := by
  rw [hK]
  refine ⟨(l.drop j).flatMap f ++ R, ?_⟩
  rw [List.append_assoc, ← List.append_assoc ((l.take j).flatMap f), ← List.flatMap_append, List.take_append_drop]
theorem pre_len {P K : List Int} (h : P <+: K) (hs : ∀ x ∈ K, 0 ≤ x ∧ x < 100) (hl : K.length ≤ 100000) : (strN P).length ≤ 300000 := by
  have h1 := strN_len (l := P) fun x hx => hs x (h.subset hx)
  have := h.length_le
  omega
theorem sm_of {v : V2} {K : List Int} (hs : ∀ x ∈ K, 0 ≤ x ∧ x < 100) (h : ∀ x ∈ vecN v, x ∈ K) : Sm v := by
  have h1 : ∀ x ∈ vecN v, 0 ≤ x ∧ x < 100 := fun x hx => hs x (h x hx)
  refine ⟨?_, fun e he => ⟨h1 e.1 ?_, h1 e.2 ?_⟩⟩
  · have := (h1 (v.length : Int) (by simp [vecN])).2
    omega
  · unfold vecN
    exact List.mem_cons_of_mem _ (List.mem_flatMap.2 ⟨e, he, by simp [entN]⟩)
  · unfold vecN
    exact List.mem_cons_of_mem _ (List.mem_flatMap.2 ⟨e, he, by simp [entN]⟩)
theorem flat_step {α : Type} {f : α → List Int} {l : List α} {j : Nat} {x : α} (hx : l[j]? = some x) (H : List Int) : strN (H ++ (l.take (j + 1)).flatMap f) = strN (H ++ (l.take j).flatMap f) ++ strN (f x) := by
  rw [List.take_add_one, hx, List.flatMap_append, ← List.append_assoc, strN_app]
  simp
@[simp] def kB (s : XpS) : Tau := [(1, .c (.fad (encXp s))), (3, .c (.fad (encGr s.g))), (4, .c (.ptr 1000000 0 0))]
theorem bytes_enc : ∀ l : List Int, bytesOf (l.map encb) = some l
  | [] => rfl
  | x :: l => by
    rw [List.map_cons]
    show (match bytesOf (l.map encb) with | some l => some (x :: l) | none => none) = _
    rw [bytes_enc l]
/-- The text of bytes. -/
def strB (l : List Int) : ByteArray := strOfNums l
theorem xkey_pure (s : XpS) (hs : XSm s) : Pure Tryd.prog 25 [.agg (encXp s)] (.c (.sc (.string (strB (strN (keyN s)))))) := by
  obtain ⟨hsm, hlen⟩ := hs
  generalize hK : keyN s = K at *
  obtain ⟨⟨accs, props, ins, nxt, pks, decs, steps⟩, lo, am⟩ := s
  obtain ⟨H, hH⟩ : ∃ H, H = [lo, am, steps, (accs.length : Int), (props.length : Int), (ins.length : Int), (nxt.length : Int), (pks.length : Int), (decs.length : Int)] := ⟨_, rfl⟩
  have hK1 : K = H ++ (accs.flatMap vecN ++ (props.flatMap prN ++ (ins.flatMap inN ++ (nxt ++ (pks.flatMap pkN ++ decs.flatMap deN))))) := by rw [← hK, hH]; rfl
  have n0 := numbers_con true 1000001 (.inl rfl) [] H (by rw [hH]; simp) (fun x hx => hsm x (by rw [hK1]; simp [hx])) (by rw [hH]; simp)
  rw [List.nil_append] at n0
  refine pure_of teOk Tryd.func25 (by kernel_rfl) (c := _) rfl (N := 166) rfl (rs := [Go.ResultVar.tmp 2]) rfl (by simp) fun base A w0 hA => ?_
  refine AW.st teOk [] (by simp [-Option.some.injEq] <;> rfl) trivial ?_
  refine AW.st teOk [] (by simp [-Option.some.injEq] <;> rfl) trivial ?_
  refine AW.to (s2 := ⟨[(1, .c (.fad (encXp ⟨⟨accs, props, ins, nxt, pks, decs, steps⟩, lo, am⟩))), (3, .c (.fad (encGr ⟨accs, props, ins, nxt, pks, decs, steps⟩))), (4, .c (.ptr 1000000 0 0))], encS 1000001 [], 1000002⟩) ((Weak.nilO 5 0 1 _ (by simp <;> exact ⟨rfl, rfl⟩) rfl (by simp)).trans ((Weak.freeze 0 ⟨9, [encXp ⟨⟨accs, props, ins, nxt, pks, decs, steps⟩, lo, am⟩]⟩ [] _ (by simp [putA]) (by simp)).trans ((Weak.freeze 6 ⟨7, [encGr ⟨accs, props, ins, nxt, pks, decs, steps⟩]⟩ [] _ (by simp [putA]) (by simp)).trans (Weak.normS hA [1, 3, 4] [(4, 1000000)] [(9, 1000001)] [5] 1000002 _ (by simp [putA, mapAt_nil']) (by simp [putA, mapAt_nil']) (by simp [putA, mapAt_nil']))))) (by simp [putA, mapAt_nil']) ?_
  have n0' := n0.lower (show 1000028 ≤ 1000110 by decide)
  have hal : accs.length < 100 := by have := hsm accs.length (by rw [hK1, hH]; simp); omega
  have hpl : props.length < 100 := by have := hsm props.length (by rw [hK1, hH]; simp); omega
  have hil : ins.length < 100 := by have := hsm ins.length (by rw [hK1, hH]; simp); omega
  have hnl : nxt.length < 100 := by have := hsm nxt.length (by rw [hK1, hH]; simp); omega
  have hkl : pks.length < 100 := by have := hsm pks.length (by rw [hK1, hH]; simp); omega
  have hdl : decs.length < 100 := by have := hsm decs.length (by rw [hK1, hH]; simp); omega
  have n0' := n0.lower (show 1000028 ≤ 1000110 by decide)
  have hal : accs.length < 100 := by have := hsm accs.length (by rw [hK1, hH]; simp); omega
  have hpl : props.length < 100 := by have := hsm props.length (by rw [hK1, hH]; simp); omega
  have hil : ins.length < 100 := by have := hsm ins.length (by rw [hK1, hH]; simp); omega
  have hnl : nxt.length < 100 := by have := hsm nxt.length (by rw [hK1, hH]; simp); omega
  have hkl : pks.length < 100 := by have := hsm pks.length (by rw [hK1, hH]; simp); omega
  have hdl : decs.length < 100 := by have := hsm decs.length (by rw [hK1, hH]; simp); omega
  have n0' := n0.lower (show 1000028 ≤ 1000110 by decide)
  have hal : accs.length < 100 := by have := hsm accs.length (by rw [hK1, hH]; simp); omega
  have hpl : props.length < 100 := by have := hsm props.length (by rw [hK1, hH]; simp); omega
  have hil : ins.length < 100 := by have := hsm ins.length (by rw [hK1, hH]; simp); omega
  have hnl : nxt.length < 100 := by have := hsm nxt.length (by rw [hK1, hH]; simp); omega
  have hkl : pks.length < 100 := by have := hsm pks.length (by rw [hK1, hH]; simp); omega
  have hdl : decs.length < 100 := by have := hsm decs.length (by rw [hK1, hH]; simp); omega
  have n0' := n0.lower (show 1000028 ≤ 1000110 by decide)
  have hal : accs.length < 100 := by have := hsm accs.length (by rw [hK1, hH]; simp); omega
  have hpl : props.length < 100 := by have := hsm props.length (by rw [hK1, hH]; simp); omega
  have hil : ins.length < 100 := by have := hsm ins.length (by rw [hK1, hH]; simp); omega
  have hnl : nxt.length < 100 := by have := hsm nxt.length (by rw [hK1, hH]; simp); omega
  have hkl : pks.length < 100 := by have := hsm pks.length (by rw [hK1, hH]; simp); omega
  have hdl : decs.length < 100 := by have := hsm decs.length (by rw [hK1, hH]; simp); omega
  have n0' := n0.lower (show 1000028 ≤ 1000110 by decide)
  have hal : accs.length < 100 := by have := hsm accs.length (by rw [hK1, hH]; simp); omega
  have hpl : props.length < 100 := by have := hsm props.length (by rw [hK1, hH]; simp); omega
  have hil : ins.length < 100 := by have := hsm ins.length (by rw [hK1, hH]; simp); omega
  have hnl : nxt.length < 100 := by have := hsm nxt.length (by rw [hK1, hH]; simp); omega
  have hkl : pks.length < 100 := by have := hsm pks.length (by rw [hK1, hH]; simp); omega
  have hdl : decs.length < 100 := by have := hsm decs.length (by rw [hK1, hH]; simp); omega
  refine AW.st teOk [.own (.tup []) (encS 1000112 (strN H)) 1000114] (by simp [-Option.some.injEq] <;> rfl) ?_ ?_
  · rw [hH] at n0' ⊢
    simpa using n0'
  refine AW.to (s2 := ⟨kB ⟨⟨accs, props, ins, nxt, pks, decs, steps⟩, lo, am⟩, encS 1000001 (strN H), 1000002⟩) (Weak.normS hA [1, 3, 4] [(4, 1000000)] [(1000112, 1000001)] [1000000] 1000002 _ (by simp) (by simp) (by simp)) (by simp) ?_
  refine AW.seq ?_
  refine AW.st teOk [] (by simp [-Option.some.injEq] <;> rfl) trivial ?_
  refine AW.block (AW.loop (fun m s => ∃ (j : Nat) (b : List Int), m = accs.length - j ∧ j ≤ accs.length ∧ b = strN (H ++ (accs.take j).flatMap vecN) ∧ s = ⟨kB ⟨⟨accs, props, ins, nxt, pks, decs, steps⟩, lo, am⟩ ++ [(49, .c (encVs accs)), (50, .c (cI accs.length)), (51, .c (cI j))], encS 1000001 b, 1000002⟩) _ (Weak.normS hA [1, 3, 4, 49, 50, 51] [(4, 1000000)] [(1000001, 1000001)] [1000000] 1000002 _ (by simp) (by simp) (by simp)) ⟨0, _, rfl, Nat.zero_le _, rfl, by simp⟩ ?_)
  rintro m s ⟨j, b, rfl, hj, hb, rfl⟩
  have hpre := take_pre (f := vecN) accs j hK1
  have hbl := pre_len hpre hsm hlen
  rw [← hb] at hbl
  refine AW.st teOk [] (by simp [-Option.some.injEq] <;> rfl) trivial ?_
  refine AW.seq (AW.iff (decide (j < accs.length)) (by simp) (fun h => AW.skip ?_) (fun h => AW.exit (x_then (x_then (blockA_exit ?_)))))
  · rw [decide_eq_true_eq] at h
    obtain ⟨x, hx⟩ : ∃ x, accs[j]? = some x := ⟨_, List.getElem?_eq_getElem h⟩
    have hm : x ∈ accs := List.mem_of_getElem? hx
    have hinc : IntKind.i64.wrap ((j : Int) + 1) = (j : Int) + 1 := wrap_s _ (by omega)
    have hst := flat_step (f := vecN) hx (H)
    rw [← hb] at hst
    have hpre2 := take_pre (f := vecN) accs (j + 1) hK1
    have hbl2 := pre_len hpre2 hsm hlen
    have hsub : ∀ y ∈ vecN x, y ∈ K := fun y hy => by
      rw [hK1]
      exact List.mem_append_right _ (List.mem_append_left _ (List.mem_flatMap.2 ⟨x, hm, hy⟩))
    have hsx : ∀ y ∈ vecN x, 0 ≤ y ∧ y < 100 := fun y hy => hsm y (hsub y hy)
    have hv := sm_of hsm hsub
    have c0 := (evec_con b x hv (by omega)).lower (show 1000005 ≤ 1000052 by decide)
    obtain ⟨bn, hbn⟩ : ∃ bn, bn = b ++ strN (vecN x) := ⟨_, rfl⟩
    rw [← hbn] at hst c0
    refine AW.seq (AW.block ?_)
    refine AW.st teOk [] (by simp [hx, -Option.some.injEq] <;> rfl) ?_ ?_
    · simpa using h
    refine AW.to (s2 := ⟨kB ⟨⟨accs, props, ins, nxt, pks, decs, steps⟩, lo, am⟩ ++ [(49, .c (encVs accs)), (50, .c (cI accs.length)), (51, .c (cI j)), (6, .c (.fad ([encV x])))], encS 1000001 b, 1000002⟩) ((Weak.freeze 1000005 ⟨1, [[encV x]]⟩ [] _ (by simp) (by simp)).trans (Weak.normS hA [1, 3, 4, 49, 50, 51, 6] [(4, 1000000)] [(1000001, 1000001)] [1000000] 1000002 _ (by simp [mapAt_nil']) (by simp [mapAt_nil']) (by simp [mapAt_nil']))) (by simp [mapAt_nil']) ?_
    refine AW.text teOk (ans := [.own (.tup []) (encS 1000103 bn) 1000104]) (by simp [-Option.some.injEq] <;> rfl) ?_ ?_
    · simpa using c0
    refine AW.text teOk (ans := []) (by simp [-Option.some.injEq] <;> rfl) ?_ ?_
    · trivial
    refine ⟨_, _, Weak.normS hA [1, 3, 4, 49, 50, 51] [(4, 1000000)] [(1000103, 1000001)] [1000000] 1000002 _ (by simp) (by simp) (by simp), ?_, j + 1, bn, rfl, h, ?_, ?_⟩
    · omega
    · exact hst.symm
    · simp [hinc]
  have hjl : j = accs.length := by
    rw [decide_eq_false_iff_not] at h
    omega
  rw [hjl, List.take_length] at hb
  obtain ⟨H1, hH1⟩ : ∃ H', H' = H ++ accs.flatMap vecN := ⟨_, rfl⟩
  have hK2 : K = H1 ++ (props.flatMap prN ++ (ins.flatMap inN ++ (nxt ++ (pks.flatMap pkN ++ decs.flatMap deN)))) := by rw [hK1, hH1]; simp only [List.append_assoc, List.append_nil]
  rw [← hH1] at hb
  refine AW.to (s2 := ⟨kB ⟨⟨accs, props, ins, nxt, pks, decs, steps⟩, lo, am⟩, encS 1000001 (b), 1000002⟩) (Weak.normS hA [1, 3, 4] [(4, 1000000)] [(1000001, 1000001)] [1000000] 1000002 _ (by simp) (by simp) (by simp)) (by simp) ?_
  clear hjl hbl hpre h hj j
  rw [hb]
  clear hb b
  have get_pr : ∀ x ∈ props, ∀ y ∈ prN x, y ∈ K := fun x hx y hy => by
    rw [hK2]
    exact List.mem_append_right _ (List.mem_append_left _ (List.mem_flatMap.2 ⟨x, hx, hy⟩))
  refine AW.seq ?_
  refine AW.st teOk [] (by simp [-Option.some.injEq] <;> rfl) trivial ?_
  refine AW.block (AW.loop (fun m s => ∃ (j : Nat) (b : List Int), m = props.length - j ∧ j ≤ props.length ∧ b = strN (H1 ++ (props.take j).flatMap prN) ∧ s = ⟨kB ⟨⟨accs, props, ins, nxt, pks, decs, steps⟩, lo, am⟩ ++ [(61, .c (Cell.row 5 false (props.map encPr'))), (62, .c (cI props.length)), (63, .c (cI j))], encS 1000001 b, 1000002⟩) _ (Weak.normS hA [1, 3, 4, 61, 62, 63] [(4, 1000000)] [(1000001, 1000001)] [1000000] 1000002 _ (by simp) (by simp) (by simp)) ⟨0, _, rfl, Nat.zero_le _, rfl, by simp⟩ ?_)
  rintro m s ⟨j, b, rfl, hj, hb, rfl⟩
  have hpre := take_pre (f := prN) props j hK2
  have hbl := pre_len hpre hsm hlen
  rw [← hb] at hbl
  refine AW.st teOk [] (by simp [-Option.some.injEq] <;> rfl) trivial ?_
  refine AW.seq (AW.iff (decide (j < props.length)) (by simp) (fun h => AW.skip ?_) (fun h => AW.exit (x_then (x_then (blockA_exit ?_)))))
  · rw [decide_eq_true_eq] at h
    obtain ⟨x, hx⟩ : ∃ x, props[j]? = some x := ⟨_, List.getElem?_eq_getElem h⟩
    have hm : x ∈ props := List.mem_of_getElem? hx
    have hinc : IntKind.i64.wrap ((j : Int) + 1) = (j : Int) + 1 := wrap_s _ (by omega)
    have hst := flat_step (f := prN) hx (H1)
    rw [← hb] at hst
    have hpre2 := take_pre (f := prN) props (j + 1) hK2
    have hbl2 := pre_len hpre2 hsm hlen
    have hsub : ∀ y ∈ prN x, y ∈ K := fun y hy => by
      rw [hK2]
      exact List.mem_append_right _ (List.mem_append_left _ (List.mem_flatMap.2 ⟨x, hm, hy⟩))
    have hsx : ∀ y ∈ prN x, 0 ≤ y ∧ y < 100 := fun y hy => hsm y (hsub y hy)
    obtain ⟨n, v, r, acks, dc⟩ := x
    have hv := sm_of (v := v) hsm (fun y hy => hsub y (by simp [prN, hy]))
    have c0 := (evec_con b v hv (by omega)).lower (show 1000005 ≤ 1000052 by decide)
    obtain ⟨b1, hb1⟩ : ∃ b1, b1 = b ++ strN (vecN v) := ⟨_, rfl⟩
    rw [← hb1] at c0
    have hb1s : b ++ strN (prN ⟨n, v, r, acks, dc⟩) = b1 ++ (strN [n, r, numB dc, (acks.length : Int)] ++ strN acks) := by
      rw [hb1, prN, strN_app, strN_app, List.append_assoc]
    have hb1l : b1.length + (strN [n, r, numB dc, (acks.length : Int)]).length + (strN acks).length ≤ 300000 := by
      have h1 := hbl2
      rw [hst, hb1s] at h1
      simp only [List.length_append] at h1
      omega
    refine AW.seq (AW.block ?_)
    refine AW.st teOk [] (by simp [hx, -Option.some.injEq] <;> rfl) ?_ ?_
    · simpa using h
    refine AW.to (s2 := ⟨kB ⟨⟨accs, props, ins, nxt, pks, decs, steps⟩, lo, am⟩ ++ [(61, .c (.row 5 false (props.map encPr'))), (62, .c (cI props.length)), (63, .c (cI j)), (8, .c (.fad (encPr ⟨n, v, r, acks, dc⟩)))], encS 1000001 b, 1000002⟩) ((Weak.freeze 1000005 ⟨5, [encPr ⟨n, v, r, acks, dc⟩]⟩ [] _ (by simp) (by simp)).trans (Weak.normS hA [1, 3, 4, 61, 62, 63, 8] [(4, 1000000)] [(1000001, 1000001)] [1000000] 1000002 _ (by simp [mapAt_nil']) (by simp [mapAt_nil']) (by simp [mapAt_nil']))) (by simp [mapAt_nil']) ?_
    refine AW.st teOk [.own (.tup []) (encS 1000103 b1) 1000104] (by simp [-Option.some.injEq] <;> rfl) ?_ ?_
    · simpa using c0
    refine AW.to (s2 := ⟨kB ⟨⟨accs, props, ins, nxt, pks, decs, steps⟩, lo, am⟩ ++ [(61, .c (.row 5 false (props.map encPr'))), (62, .c (cI props.length)), (63, .c (cI j)), (8, .c (.fad (encPr ⟨n, v, r, acks, dc⟩)))], encS 1000001 b1, 1000002⟩) (Weak.normS hA [1, 3, 4, 61, 62, 63, 8] [(4, 1000000)] [(1000103, 1000001)] [1000000] 1000002 _ (by simp) (by simp) (by simp)) (by simp) ?_
    have hal1 : acks.length < 100 := by have := hsx acks.length (by simp [prN]); omega
    have c1 := (numbers_con true 1000001 (.inl rfl) b1 [n, r, numB dc, (acks.length : Int)] (by simp) (fun y hy => hsx y (by simp only [prN]; exact List.mem_append_right _ (List.mem_append_left _ hy))) (by simp; omega)).lower (show 1000013 ≤ 1000110 by decide)
    obtain ⟨b2, hb2⟩ : ∃ b2, b2 = b1 ++ strN [n, r, numB dc, (acks.length : Int)] := ⟨_, rfl⟩
    rw [← hb2] at c1
    have hb2s : strN (H1 ++ (props.take (j + 1)).flatMap prN) = b2 ++ strN acks := by rw [hst, hb1s, hb2, List.append_assoc]
    have hb2l : b2.length + (strN acks).length ≤ 300000 := by rw [hb2, List.length_append]; exact hb1l
    refine AW.drC mixed teOk [.c (cI (numB dc))] [.own (.tup []) (encS 1000112 b2) 1000114] 12 (by rfl) (by rfl) (by simp [-Option.some.injEq] <;> rfl) (by kernel_rfl) (by kernel_rfl) (by kernel_rfl) (by kernel_rfl) (by kernel_rfl) (by simp [-Option.some.injEq] <;> rfl) ?_ ?_ ?_
    · simp [allP]
      exact xnumber_pure dc
    · simpa using c1
    refine AW.to (s2 := ⟨kB ⟨⟨accs, props, ins, nxt, pks, decs, steps⟩, lo, am⟩ ++ [(61, .c (.row 5 false (props.map encPr'))), (62, .c (cI props.length)), (63, .c (cI j)), (8, .c (.fad (encPr ⟨n, v, r, acks, dc⟩)))], encS 1000001 b2, 1000002⟩) (Weak.normS hA [1, 3, 4, 61, 62, 63, 8] [(4, 1000000)] [(1000112, 1000001)] [1000000] 1000002 _ (by simp) (by simp) (by simp)) (by simp) ?_
    clear hst hb1s hb1l hb1 hb2 b1 c0 c1 n0' n0
    by_cases hak0 : acks = []
    · subst hak0
      have c2 := (numbers0_con false b2).lower (show 1000005 ≤ 1000110 by decide)
      refine AW.text teOk (ans := [.own (.tup []) (encS 1000001 b2) 1000114]) (by simp [-Option.some.injEq] <;> rfl) ?_ ?_
      · simp at c2 ⊢
        exact c2
      refine AW.text teOk (ans := []) (by simp [-Option.some.injEq] <;> rfl) ?_ ?_
      · trivial
      refine ⟨_, _, Weak.normS hA [1, 3, 4, 61, 62, 63] [(4, 1000000)] [(1000001, 1000001)] [1000000] 1000002 _ (by simp) (by simp) (by simp), ?_, j + 1, b2, rfl, h, ?_, ?_⟩
      · omega
      · rw [hb2s]
        simp [strN]
      · simp [hinc]
    · have c2 := (numbers_con false 1000001 (.inl rfl) b2 acks hak0 (fun y hy => hsx y (by simp only [prN]; exact List.mem_append_right _ (List.mem_append_right _ hy))) (by omega)).lower (show 1000005 ≤ 1000110 by decide)
      obtain ⟨b3, hb3⟩ : ∃ b3, b3 = b2 ++ strN acks := ⟨_, rfl⟩
      rw [← hb3] at c2 hb2s
      refine AW.text teOk (ans := [.own (.tup []) (encS 1000112 b3) 1000114]) (by simp [-Option.some.injEq] <;> rfl) ?_ ?_
      · simpa using c2
      refine AW.text teOk (ans := []) (by simp [-Option.some.injEq] <;> rfl) ?_ ?_
      · trivial
      refine ⟨_, _, Weak.normS hA [1, 3, 4, 61, 62, 63] [(4, 1000000)] [(1000112, 1000001)] [1000000] 1000002 _ (by simp) (by simp) (by simp), ?_, j + 1, b3, rfl, h, ?_, ?_⟩
      · omega
      · exact hb2s.symm
      · simp [hinc]
  have hjl : j = props.length := by
    rw [decide_eq_false_iff_not] at h
    omega
  rw [hjl, List.take_length] at hb
  obtain ⟨H2, hH2⟩ : ∃ H', H' = H1 ++ props.flatMap prN := ⟨_, rfl⟩
  have hK3 : K = H2 ++ (ins.flatMap inN ++ (nxt ++ (pks.flatMap pkN ++ decs.flatMap deN))) := by rw [hK2, hH2]; simp only [List.append_assoc, List.append_nil]
  rw [← hH2] at hb
  refine AW.to (s2 := ⟨kB ⟨⟨accs, props, ins, nxt, pks, decs, steps⟩, lo, am⟩, encS 1000001 (b), 1000002⟩) (Weak.normS hA [1, 3, 4] [(4, 1000000)] [(1000001, 1000001)] [1000000] 1000002 _ (by simp) (by simp) (by simp)) (by simp) ?_
  clear hjl hbl hpre h hj j
  rw [hb]
  clear hb b
  refine AW.seq ?_
  refine AW.st teOk [] (by simp [-Option.some.injEq] <;> rfl) trivial ?_
  refine AW.block (AW.loop (fun m s => ∃ (j : Nat) (b : List Int), m = ins.length - j ∧ j ≤ ins.length ∧ b = strN (H2 ++ (ins.take j).flatMap inN) ∧ s = ⟨kB ⟨⟨accs, props, ins, nxt, pks, decs, steps⟩, lo, am⟩ ++ [(90, .c (Cell.row 1 false (ins.map encIn))), (91, .c (cI ins.length)), (92, .c (cI j))], encS 1000001 b, 1000002⟩) _ (Weak.normS hA [1, 3, 4, 90, 91, 92] [(4, 1000000)] [(1000001, 1000001)] [1000000] 1000002 _ (by simp) (by simp) (by simp)) ⟨0, _, rfl, Nat.zero_le _, rfl, by simp⟩ ?_)
  rintro m s ⟨j, b, rfl, hj, hb, rfl⟩
  have hpre := take_pre (f := inN) ins j hK3
  have hbl := pre_len hpre hsm hlen
  rw [← hb] at hbl
  refine AW.st teOk [] (by simp [-Option.some.injEq] <;> rfl) trivial ?_
  refine AW.seq (AW.iff (decide (j < ins.length)) (by simp) (fun h => AW.skip ?_) (fun h => AW.exit (x_then (x_then (blockA_exit ?_)))))
  · rw [decide_eq_true_eq] at h
    obtain ⟨x, hx⟩ : ∃ x, ins[j]? = some x := ⟨_, List.getElem?_eq_getElem h⟩
    have hm : x ∈ ins := List.mem_of_getElem? hx
    have hinc : IntKind.i64.wrap ((j : Int) + 1) = (j : Int) + 1 := wrap_s _ (by omega)
    have hst := flat_step (f := inN) hx (H2)
    rw [← hb] at hst
    have hpre2 := take_pre (f := inN) ins (j + 1) hK3
    have hbl2 := pre_len hpre2 hsm hlen
    have hsub : ∀ y ∈ inN x, y ∈ K := fun y hy => by
      rw [hK3]
      exact List.mem_append_right _ (List.mem_append_left _ (List.mem_flatMap.2 ⟨x, hm, hy⟩))
    have hsx : ∀ y ∈ inN x, 0 ≤ y ∧ y < 100 := fun y hy => hsm y (hsub y hy)
    have hxl : x.length < 100 := by have := hsx x.length (by simp [inN]); omega
    have c1 := (numbers_con true 1000001 (.inl rfl) b [(x.length : Int)] (by simp) (fun y hy => hsx y (by simp only [inN, List.mem_singleton] at hy ⊢; rw [hy]; simp)) (by simp; omega)).lower (show 1000010 ≤ 1000110 by decide)
    obtain ⟨b1, hb1⟩ : ∃ b1, b1 = b ++ strN [(x.length : Int)] := ⟨_, rfl⟩
    rw [← hb1] at c1
    refine AW.seq (AW.block ?_)
    refine AW.st teOk [] (by simp [hx, -Option.some.injEq] <;> rfl) ?_ ?_
    · simpa using h
    refine AW.st teOk [.own (.tup []) (encS 1000112 b1) 1000114] (by simp [-Option.some.injEq] <;> rfl) ?_ ?_
    · simpa using c1
    refine AW.to (s2 := ⟨kB ⟨⟨accs, props, ins, nxt, pks, decs, steps⟩, lo, am⟩ ++ [(90, .c (.row 1 false (ins.map encIn))), (91, .c (cI ins.length)), (92, .c (cI j)), (10, .c (encVs x))], encS 1000001 b1, 1000002⟩) (Weak.normS hA [1, 3, 4, 90, 91, 92, 10] [(4, 1000000)] [(1000112, 1000001)] [1000000] 1000002 _ (by simp) (by simp) (by simp)) (by simp) ?_
    have hxK : K = (H2 ++ (ins.take j).flatMap inN ++ [(x.length : Int)]) ++ (x.flatMap vecN ++ ((ins.drop (j + 1)).flatMap inN ++ (nxt ++ (pks.flatMap pkN ++ decs.flatMap deN)))) := by
      have hd : ins = ins.take j ++ x :: ins.drop (j + 1) := by
        have h1 := List.take_append_drop j ins
        rw [List.drop_eq_getElem_cons h, (List.getElem?_eq_some_iff.1 hx).2] at h1
        exact h1.symm
      rw [hK3]
      conv => lhs; rw [hd]
      simp only [List.flatMap_append, List.flatMap_cons, inN, List.append_assoc, List.cons_append, List.nil_append]
    obtain ⟨P, hP⟩ : ∃ P, P = H2 ++ (ins.take j).flatMap inN ++ [(x.length : Int)] := ⟨_, rfl⟩
    rw [← hP] at hxK
    have hb1P : b1 = strN P := by
      rw [hb1, hb, hP]
      simp only [strN_app]
    have hfin : strN (H2 ++ (ins.take (j + 1)).flatMap inN) = strN (P ++ x.flatMap vecN) := by
      rw [hst, hb, hP, show inN x = [(x.length : Int)] ++ x.flatMap vecN from rfl]
      simp only [strN_app, List.append_assoc]
    clear hb1 c1
    subst hb1P
    clear n0' n0
    refine AW.st teOk [] (by simp [-Option.some.injEq] <;> rfl) trivial ?_
    refine AW.block (AW.loop (fun m s => ∃ (q : Nat) (c : List Int), m = x.length - q ∧ q ≤ x.length ∧ c = strN (P ++ (x.take q).flatMap vecN) ∧ s = ⟨kB ⟨⟨accs, props, ins, nxt, pks, decs, steps⟩, lo, am⟩ ++ [(90, .c (.row 1 false (ins.map encIn))), (91, .c (cI ins.length)), (92, .c (cI j)), (101, .c (encVs x)), (102, .c (cI x.length)), (103, .c (cI q))], encS 1000001 c, 1000002⟩) _ (Weak.normS hA [1, 3, 4, 90, 91, 92, 101, 102, 103] [(4, 1000000)] [(1000001, 1000001)] [1000000] 1000002 _ (by simp) (by simp) (by simp)) ⟨0, _, rfl, Nat.zero_le _, rfl, by simp⟩ ?_)
    rintro m s ⟨q, c, rfl, hq, hc, rfl⟩
    have hcl := pre_len (take_pre (f := vecN) x q hxK) hsm hlen
    rw [← hc] at hcl
    refine AW.st teOk [] (by simp [-Option.some.injEq] <;> rfl) trivial ?_
    refine AW.seq (AW.iff (decide (q < x.length)) (by simp) (fun h2 => AW.skip ?_) (fun h2 => AW.exit (x_then (x_then (blockA_exit ?_)))))
    · rw [decide_eq_true_eq] at h2
      obtain ⟨v, hv⟩ : ∃ v, x[q]? = some v := ⟨_, List.getElem?_eq_getElem h2⟩
      have hincq : IntKind.i64.wrap ((q : Int) + 1) = (q : Int) + 1 := wrap_s _ (by omega)
      have hsv := sm_of (v := v) hsm (fun y hy => hsub y (by
        unfold inN
        exact List.mem_cons_of_mem _ (List.mem_flatMap.2 ⟨v, List.mem_of_getElem? hv, hy⟩)))
      have hstq := flat_step (f := vecN) hv P
      rw [← hc] at hstq
      have c2 := (evec_con c v hsv (by omega)).lower (show 1000008 ≤ 1000052 by decide)
      obtain ⟨cn, hcn⟩ : ∃ cn, cn = c ++ strN (vecN v) := ⟨_, rfl⟩
      rw [← hcn] at hstq c2
      refine AW.seq (AW.block ?_)
      refine AW.st teOk [] (by simp [hv, -Option.some.injEq] <;> rfl) ?_ ?_
      · simpa using h2
      refine AW.text teOk (ans := [.own (.tup []) (encS 1000103 cn) 1000104]) (by simp [-Option.some.injEq] <;> rfl) ?_ ?_
      · simpa using c2
      refine AW.text teOk (ans := []) (by simp [-Option.some.injEq] <;> rfl) ?_ ?_
      · trivial
      refine ⟨_, _, Weak.normS hA [1, 3, 4, 90, 91, 92, 101, 102, 103] [(4, 1000000)] [(1000103, 1000001)] [1000000] 1000002 _ (by simp) (by simp) (by simp), ?_, q + 1, cn, rfl, h2, hstq.symm, ?_⟩
      · omega
      · simp [hincq]
    have hql : q = x.length := by
      rw [decide_eq_false_iff_not] at h2
      omega
    rw [hql, List.take_length, ← hfin] at hc
    refine AW.text teOk (ans := []) (by simp [-Option.some.injEq] <;> rfl) ?_ ?_
    · trivial
    refine ⟨_, _, Weak.normS hA [1, 3, 4, 90, 91, 92] [(4, 1000000)] [(1000001, 1000001)] [1000000] 1000002 _ (by simp) (by simp) (by simp), ?_, j + 1, c, rfl, h, hc, ?_⟩
    · omega
    · simp [hinc]
  have hjl : j = ins.length := by
    rw [decide_eq_false_iff_not] at h
    omega
  rw [hjl, List.take_length] at hb
  obtain ⟨H3, hH3⟩ : ∃ H', H' = H2 ++ ins.flatMap inN := ⟨_, rfl⟩
  have hK4 : K = H3 ++ (nxt ++ (pks.flatMap pkN ++ decs.flatMap deN)) := by rw [hK3, hH3]; simp only [List.append_assoc, List.append_nil]
  rw [← hH3] at hb
  refine AW.to (s2 := ⟨kB ⟨⟨accs, props, ins, nxt, pks, decs, steps⟩, lo, am⟩, encS 1000001 (b), 1000002⟩) (Weak.normS hA [1, 3, 4] [(4, 1000000)] [(1000001, 1000001)] [1000000] 1000002 _ (by simp) (by simp) (by simp)) (by simp) ?_
  clear hjl hbl hpre h hj j
  have hK5 : K = (H3 ++ nxt) ++ (pks.flatMap pkN ++ decs.flatMap deN) := by rw [hK4, List.append_assoc]
  have hb4 : (strN (H3 ++ nxt)).length ≤ 300000 := pre_len ⟨_, hK5.symm⟩ hsm hlen
  have hb4e : strN (H3 ++ nxt) = b ++ strN nxt := by rw [strN_app, hb]
  clear n0' n0
  refine AW.mid (fun s => s = ⟨kB ⟨⟨accs, props, ins, nxt, pks, decs, steps⟩, lo, am⟩, encS 1000001 (strN (H3 ++ nxt)), 1000002⟩) ?_ ?_
  · by_cases hn0 : nxt = []
    · have c2 := (numbers0_con false b).lower (show 1000005 ≤ 1000110 by decide)
      subst hn0
      refine AW.text teOk (ans := [.own (.tup []) (encS 1000001 b) 1000114]) (by simp [-Option.some.injEq] <;> rfl) ?_ ?_
      · simp at c2 ⊢
        exact c2
      refine ⟨_, Weak.normS hA [1, 3, 4] [(4, 1000000)] [(1000001, 1000001)] [1000000] 1000002 _ (by simp) (by simp) (by simp), ?_⟩
      rw [hb4e]
      simp [strN]
    · have c2 := (numbers_con false 1000001 (.inl rfl) b nxt hn0 (fun y hy => hsm y (by rw [hK4]; exact List.mem_append_right _ (List.mem_append_left _ hy))) (by rw [hb4e, List.length_append] at hb4; omega)).lower (show 1000005 ≤ 1000110 by decide)
      rw [← hb4e] at c2
      obtain ⟨bn, hbn⟩ : ∃ bn, bn = strN (H3 ++ nxt) := ⟨_, rfl⟩
      rw [← hbn] at c2 ⊢
      refine AW.text teOk (ans := [.own (.tup []) (encS 1000112 bn) 1000114]) (by simp [-Option.some.injEq] <;> rfl) ?_ ?_
      · simpa using c2
      refine ⟨_, Weak.normS hA [1, 3, 4] [(4, 1000000)] [(1000112, 1000001)] [1000000] 1000002 _ (by simp) (by simp) (by simp), ?_⟩
      simp
  rintro s rfl
  obtain ⟨H4, hH4⟩ : ∃ H4, H4 = H3 ++ nxt := ⟨_, rfl⟩
  rw [← hH4] at hK5 ⊢
  clear hb4e hb4 hb b
  refine AW.seq ?_
  refine AW.st teOk [] (by simp [-Option.some.injEq] <;> rfl) trivial ?_
  refine AW.block (AW.loop (fun m s => ∃ (j : Nat) (b : List Int), m = pks.length - j ∧ j ≤ pks.length ∧ b = strN (H4 ++ (pks.take j).flatMap pkN) ∧ s = ⟨kB ⟨⟨accs, props, ins, nxt, pks, decs, steps⟩, lo, am⟩ ++ [(117, .c (Cell.row 5 false (pks.map encPk))), (118, .c (cI pks.length)), (119, .c (cI j))], encS 1000001 b, 1000002⟩) _ (Weak.normS hA [1, 3, 4, 117, 118, 119] [(4, 1000000)] [(1000001, 1000001)] [1000000] 1000002 _ (by simp) (by simp) (by simp)) ⟨0, _, rfl, Nat.zero_le _, rfl, by simp⟩ ?_)
  rintro m s ⟨j, b, rfl, hj, hb, rfl⟩
  have hpre := take_pre (f := pkN) pks j hK5
  have hbl := pre_len hpre hsm hlen
  rw [← hb] at hbl
  refine AW.st teOk [] (by simp [-Option.some.injEq] <;> rfl) trivial ?_
  refine AW.seq (AW.iff (decide (j < pks.length)) (by simp) (fun h => AW.skip ?_) (fun h => AW.exit (x_then (x_then (blockA_exit ?_)))))
  · rw [decide_eq_true_eq] at h
    obtain ⟨x, hx⟩ : ∃ x, pks[j]? = some x := ⟨_, List.getElem?_eq_getElem h⟩
    have hm : x ∈ pks := List.mem_of_getElem? hx
    have hinc : IntKind.i64.wrap ((j : Int) + 1) = (j : Int) + 1 := wrap_s _ (by omega)
    have hst := flat_step (f := pkN) hx (H4)
    rw [← hb] at hst
    have hpre2 := take_pre (f := pkN) pks (j + 1) hK5
    have hbl2 := pre_len hpre2 hsm hlen
    have hsub : ∀ y ∈ pkN x, y ∈ K := fun y hy => by
      rw [hK5]
      exact List.mem_append_right _ (List.mem_append_left _ (List.mem_flatMap.2 ⟨x, hm, hy⟩))
    have hsx : ∀ y ∈ pkN x, 0 ≤ y ∧ y < 100 := fun y hy => hsm y (hsub y hy)
    obtain ⟨rp, pr, ac, rd, v⟩ := x
    have hv := sm_of (v := v) hsm (fun y hy => hsub y (by simp only [pkN]; exact List.mem_append_right _ hy))
    have c1 := (numbers_con true 1000001 (.inl rfl) b [numB rp, pr, ac, rd] (by simp) (fun y hy => hsx y (by simp only [pkN]; exact List.mem_append_left _ hy)) (by simp; omega)).lower (show 1000012 ≤ 1000110 by decide)
    obtain ⟨b1, hb1⟩ : ∃ b1, b1 = b ++ strN [numB rp, pr, ac, rd] := ⟨_, rfl⟩
    rw [← hb1] at c1
    have hfin : strN (H4 ++ (pks.take (j + 1)).flatMap pkN) = b1 ++ strN (vecN v) := by
      rw [hst, hb1, pkN, strN_app, List.append_assoc]
    rw [hfin, List.length_append] at hbl2
    have c2 := (evec_con b1 v hv (by omega)).lower (show 1000005 ≤ 1000052 by decide)
    obtain ⟨bn, hbn⟩ : ∃ bn, bn = b1 ++ strN (vecN v) := ⟨_, rfl⟩
    rw [← hbn] at c2 hfin
    refine AW.seq (AW.block ?_)
    refine AW.st teOk [] (by simp [hx, -Option.some.injEq] <;> rfl) ?_ ?_
    · simpa using h
    refine AW.to (s2 := ⟨kB ⟨⟨accs, props, ins, nxt, pks, decs, steps⟩, lo, am⟩ ++ [(117, .c (.row 5 false (pks.map encPk))), (118, .c (cI pks.length)), (119, .c (cI j)), (14, .c (.fad (encPk ⟨rp, pr, ac, rd, v⟩)))], encS 1000001 b, 1000002⟩) ((Weak.freeze 1000005 ⟨5, [encPk ⟨rp, pr, ac, rd, v⟩]⟩ [] _ (by simp) (by simp)).trans (Weak.normS hA [1, 3, 4, 117, 118, 119, 14] [(4, 1000000)] [(1000001, 1000001)] [1000000] 1000002 _ (by simp [mapAt_nil']) (by simp [mapAt_nil']) (by simp [mapAt_nil']))) (by simp [mapAt_nil']) ?_
    refine AW.drC mixed teOk [.c (cI (numB rp))] [.own (.tup []) (encS 1000112 b1) 1000114] 11 (by rfl) (by rfl) (by simp [-Option.some.injEq] <;> rfl) (by kernel_rfl) (by kernel_rfl) (by kernel_rfl) (by kernel_rfl) (by kernel_rfl) (by simp [-Option.some.injEq] <;> rfl) ?_ ?_ ?_
    · simp [allP]
      exact xnumber_pure rp
    · simpa using c1
    refine AW.to (s2 := ⟨kB ⟨⟨accs, props, ins, nxt, pks, decs, steps⟩, lo, am⟩ ++ [(117, .c (.row 5 false (pks.map encPk))), (118, .c (cI pks.length)), (119, .c (cI j)), (14, .c (.fad (encPk ⟨rp, pr, ac, rd, v⟩)))], encS 1000001 b1, 1000002⟩) (Weak.normS hA [1, 3, 4, 117, 118, 119, 14] [(4, 1000000)] [(1000112, 1000001)] [1000000] 1000002 _ (by simp) (by simp) (by simp)) (by simp) ?_
    refine AW.text teOk (ans := [.own (.tup []) (encS 1000103 bn) 1000104]) (by simp [-Option.some.injEq] <;> rfl) ?_ ?_
    · simpa using c2
    refine AW.text teOk (ans := []) (by simp [-Option.some.injEq] <;> rfl) ?_ ?_
    · trivial
    refine ⟨_, _, Weak.normS hA [1, 3, 4, 117, 118, 119] [(4, 1000000)] [(1000103, 1000001)] [1000000] 1000002 _ (by simp) (by simp) (by simp), ?_, j + 1, bn, rfl, h, hfin.symm, ?_⟩
    · omega
    · simp [hinc]
  have hjl : j = pks.length := by
    rw [decide_eq_false_iff_not] at h
    omega
  rw [hjl, List.take_length] at hb
  obtain ⟨H5, hH5⟩ : ∃ H', H' = H4 ++ pks.flatMap pkN := ⟨_, rfl⟩
  have hK6 : K = H5 ++ (decs.flatMap deN ++ []) := by rw [hK5, hH5]; simp only [List.append_assoc, List.append_nil]
  rw [← hH5] at hb
  refine AW.to (s2 := ⟨kB ⟨⟨accs, props, ins, nxt, pks, decs, steps⟩, lo, am⟩, encS 1000001 (b), 1000002⟩) (Weak.normS hA [1, 3, 4] [(4, 1000000)] [(1000001, 1000001)] [1000000] 1000002 _ (by simp) (by simp) (by simp)) (by simp) ?_
  clear hjl hbl hpre h hj j
  rw [hb]
  clear hb b
  refine AW.seq ?_
  refine AW.st teOk [] (by simp [-Option.some.injEq] <;> rfl) trivial ?_
  refine AW.block (AW.loop (fun m s => ∃ (j : Nat) (b : List Int), m = decs.length - j ∧ j ≤ decs.length ∧ b = strN (H5 ++ (decs.take j).flatMap deN) ∧ s = ⟨kB ⟨⟨accs, props, ins, nxt, pks, decs, steps⟩, lo, am⟩ ++ [(141, .c (Cell.row 4 false (decs.map encDe))), (142, .c (cI decs.length)), (143, .c (cI j))], encS 1000001 b, 1000002⟩) _ (Weak.normS hA [1, 3, 4, 141, 142, 143] [(4, 1000000)] [(1000001, 1000001)] [1000000] 1000002 _ (by simp) (by simp) (by simp)) ⟨0, _, rfl, Nat.zero_le _, rfl, by simp⟩ ?_)
  rintro m s ⟨j, b, rfl, hj, hb, rfl⟩
  have hpre := take_pre (f := deN) decs j hK6
  have hbl := pre_len hpre hsm hlen
  rw [← hb] at hbl
  refine AW.st teOk [] (by simp [-Option.some.injEq] <;> rfl) trivial ?_
  refine AW.seq (AW.iff (decide (j < decs.length)) (by simp) (fun h => AW.skip ?_) (fun h => AW.exit (x_then (x_then (blockA_exit ?_)))))
  · rw [decide_eq_true_eq] at h
    obtain ⟨x, hx⟩ : ∃ x, decs[j]? = some x := ⟨_, List.getElem?_eq_getElem h⟩
    have hm : x ∈ decs := List.mem_of_getElem? hx
    have hinc : IntKind.i64.wrap ((j : Int) + 1) = (j : Int) + 1 := wrap_s _ (by omega)
    have hst := flat_step (f := deN) hx (H5)
    rw [← hb] at hst
    have hpre2 := take_pre (f := deN) decs (j + 1) hK6
    have hbl2 := pre_len hpre2 hsm hlen
    have hsub : ∀ y ∈ deN x, y ∈ K := fun y hy => by
      rw [hK6]
      exact List.mem_append_right _ (List.mem_append_left _ (List.mem_flatMap.2 ⟨x, hm, hy⟩))
    have hsx : ∀ y ∈ deN x, 0 ≤ y ∧ y < 100 := fun y hy => hsm y (hsub y hy)
    obtain ⟨pr, inp, v, stp⟩ := x
    have hv := sm_of (v := v) hsm (fun y hy => hsub y (by simp only [deN]; exact List.mem_append_right _ hy))
    have c1 := (numbers_con true 1000001 (.inl rfl) b [pr, inp, stp] (by simp) (fun y hy => hsx y (by simp only [deN]; exact List.mem_append_left _ hy)) (by simp; omega)).lower (show 1000010 ≤ 1000110 by decide)
    obtain ⟨b1, hb1⟩ : ∃ b1, b1 = b ++ strN [pr, inp, stp] := ⟨_, rfl⟩
    rw [← hb1] at c1
    have hfin : strN (H5 ++ (decs.take (j + 1)).flatMap deN) = b1 ++ strN (vecN v) := by
      rw [hst, hb1, deN, strN_app, List.append_assoc]
    rw [hfin, List.length_append] at hbl2
    have c2 := (evec_con b1 v hv (by omega)).lower (show 1000005 ≤ 1000052 by decide)
    obtain ⟨bn, hbn⟩ : ∃ bn, bn = b1 ++ strN (vecN v) := ⟨_, rfl⟩
    rw [← hbn] at c2 hfin
    refine AW.seq (AW.block ?_)
    refine AW.st teOk [] (by simp [hx, -Option.some.injEq] <;> rfl) ?_ ?_
    · simpa using h
    refine AW.to (s2 := ⟨kB ⟨⟨accs, props, ins, nxt, pks, decs, steps⟩, lo, am⟩ ++ [(141, .c (.row 4 false (decs.map encDe))), (142, .c (cI decs.length)), (143, .c (cI j)), (16, .c (.fad (encDe ⟨pr, inp, v, stp⟩)))], encS 1000001 b, 1000002⟩) ((Weak.freeze 1000005 ⟨4, [encDe ⟨pr, inp, v, stp⟩]⟩ [] _ (by simp) (by simp)).trans (Weak.normS hA [1, 3, 4, 141, 142, 143, 16] [(4, 1000000)] [(1000001, 1000001)] [1000000] 1000002 _ (by simp [mapAt_nil']) (by simp [mapAt_nil']) (by simp [mapAt_nil']))) (by simp [mapAt_nil']) ?_
    refine AW.st teOk [.own (.tup []) (encS 1000112 b1) 1000114] (by simp [-Option.some.injEq] <;> rfl) ?_ ?_
    · simpa using c1
    refine AW.to (s2 := ⟨kB ⟨⟨accs, props, ins, nxt, pks, decs, steps⟩, lo, am⟩ ++ [(141, .c (.row 4 false (decs.map encDe))), (142, .c (cI decs.length)), (143, .c (cI j)), (16, .c (.fad (encDe ⟨pr, inp, v, stp⟩)))], encS 1000001 b1, 1000002⟩) (Weak.normS hA [1, 3, 4, 141, 142, 143, 16] [(4, 1000000)] [(1000112, 1000001)] [1000000] 1000002 _ (by simp) (by simp) (by simp)) (by simp) ?_
    refine AW.text teOk (ans := [.own (.tup []) (encS 1000103 bn) 1000104]) (by simp [-Option.some.injEq] <;> rfl) ?_ ?_
    · simpa using c2
    refine AW.text teOk (ans := []) (by simp [-Option.some.injEq] <;> rfl) ?_ ?_
    · trivial
    refine ⟨_, _, Weak.normS hA [1, 3, 4, 141, 142, 143] [(4, 1000000)] [(1000103, 1000001)] [1000000] 1000002 _ (by simp) (by simp) (by simp), ?_, j + 1, bn, rfl, h, hfin.symm, ?_⟩
    · omega
    · simp [hinc]
  have hjl : j = decs.length := by
    rw [decide_eq_false_iff_not] at h
    omega
  rw [hjl, List.take_length] at hb
  have hend : b = strN K := by rw [hb, hK6, List.append_nil]
  subst hend
  refine AW.to (s2 := ⟨[(4, .c (.fad [.row 1 false ((strN K).map encb)]))], [], 2⟩) ((Weak.freeze 1000001 ⟨1, (strN K).map encb⟩ [1000000] _ (by simp) (by simp)).trans ((Weak.freeze 1000000 ⟨1, [[.row 1 false ((strN K).map encb)]]⟩ [] _ (by simp) (by simp)).trans (Weak.normS hA [4] [] [] [] 2 _ (by simp) (by simp) (by simp)))) (by simp [mapAt_nil']) ?_
  refine AW.st teOk [] (by simp [bytes_enc, -Option.some.injEq] <;> rfl) trivial ?_
  refine AW.ret ⟨.inr rfl, _, Weak.refl _, ?_⟩
  simp [strB]
end Go.Proofs.YtphlhadgcfndhaaDoor.Abs
