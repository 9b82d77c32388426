/- Joined for the claim: WXkw WXinv WXexp WXsafe -/
import Derived.Test.YtphlhadgcfndhaaGreatDoorJd7
import Derived.Test.YtphlhadgcfndhaaGreatDoorJd6
section
namespace Go.Proofs.YtphlhadgcfndhaaGreatDoor.Abs
open Go Go.RowKit
set_option linter.unusedVariables false
set_option linter.unusedSimpArgs false
set_option maxHeartbeats 4000000
theorem numbers0_con (t : Bool) (b : List Int) : Con Tryz.prog 81 [.c (.ptr 1000000 0 0), .c (.row 1 t [])] (encS 1000001 b) 1000110 (.tup []) (encS 1000001 b) 1000114 := by
  refine con_of teOk Tryz.func81 (by kernel_rfl) (c := _) rfl (N := 24) rfl (rs := []) rfl (by simp) fun base A w0 rest hrest hrefs hA => ?_
  have hh := hiS_low hrest
  have hl' := loS_low hrest
  have hdr := fun k hk => drop_rest hrest k hk
  have hrn : ∀ (ρ : List (Nat × Nat)) (ids : List Nat), (ids.all fun i => decide (1000000 ≤ i)) = true → rnS 1000000 ρ ids rest = rest := fun ρ ids h => rnS_low h hrest
  refine AW.st teOk [] (by simp [hdr, -Option.some.injEq] <;> rfl) trivial ?_
  refine AW.block (AW.loop (fun m s => m = 0 ∧ s = ⟨[(0, .c (.ptr 1000000 0 0)), (6, .c (.row 1 t [])), (7, .c (cI 0)), (8, .c (cI 0))], encS 1000001 b ++ rest, 1000114⟩) 0 (Weak.normCS hA hrefs [0, 6, 7, 8] [(0, 1000000)] [(1000001, 1000001)] [1000000] 1000114 _ (by simp [hl']) (by simp) (by simp) (by simp) (by simp [hh]) (by simp [hh])) ⟨rfl, by simp [normL, hh, hl', hrn]⟩ ?_)
  rintro m s ⟨rfl, rfl⟩
  refine AW.st teOk [] (by simp [hdr, -Option.some.injEq] <;> rfl) trivial ?_
  refine AW.seq (AW.iff false (by simp) (fun h => by cases h) (fun h => AW.exit (x_then (x_then (blockA_exit ?_)))))
  refine ⟨.inl rfl, _, Weak.normCS hA hrefs [0] [(0, 1000000)] [(1000001, 1000001)] [1000000] 1000114 _ (by simp [hl']) (by simp) (by simp) (by simp) (by simp [hh]) (by simp [hh]), by simp, by simp [normL, hh, hl', hrn], rfl⟩
/-- The numbers of a state are small. -/
structure XSm (s : XpS) : Prop where
  sm : ∀ x ∈ keyN s, 0 ≤ x ∧ x < 100
  len : (keyN s).length ≤ 100000
theorem take_pre {α : Type} {f : α → List Int} {H R K : List Int} (l : List α) (j : Nat) (hK : K = H ++ (l.flatMap f ++ R)) : H ++ (l.take j).flatMap f <+: K := by
  rw [hK]
  refine ⟨(l.drop j).flatMap f ++ R, ?_⟩
  rw [List.append_assoc, ← List.append_assoc ((l.take j).flatMap f), ← List.flatMap_append, List.take_append_drop]
theorem pre_len {P K : List Int} (h : P <+: K) (hs : ∀ x ∈ K, 0 ≤ x ∧ x < 100) (hl : K.length ≤ 100000) : (strN P).length ≤ 300000 := by
  have h1 := strN_len (l := P) fun x hx => hs x (h.subset hx)
  have := h.length_le
  omega
theorem sm_of {v : V2} {K : List Int} (hs : ∀ x ∈ K, 0 ≤ x ∧ x < 100) (h : ∀ x ∈ vecN v, x ∈ K) : Sm v := by
  have h1 : ∀ x ∈ vecN v, 0 ≤ x ∧ x < 100 := fun x hx => hs x (h x hx)
  refine ⟨?_, fun e he => ⟨h1 e.1 ?_, h1 e.2 ?_⟩⟩
  · have := (h1 (v.length : Int) (by simp [vecN])).2
    omega
  · unfold vecN
    exact List.mem_cons_of_mem _ (List.mem_flatMap.2 ⟨e, he, by simp [entN]⟩)
  · unfold vecN
    exact List.mem_cons_of_mem _ (List.mem_flatMap.2 ⟨e, he, by simp [entN]⟩)
theorem flat_step {α : Type} {f : α → List Int} {l : List α} {j : Nat} {x : α} (hx : l[j]? = some x) (H : List Int) : strN (H ++ (l.take (j + 1)).flatMap f) = strN (H ++ (l.take j).flatMap f) ++ strN (f x) := by
  rw [List.take_add_one, hx, List.flatMap_append, ← List.append_assoc, strN_app]
  simp
@[simp] def kB (s : XpS) : Tau := [(1, .c (.fad (encXp s))), (3, .c (.fad (encGr s.g))), (4, .c (.ptr 1000000 0 0))]
theorem bytes_enc : ∀ l : List Int, bytesOf (l.map encb) = some l
  | [] => rfl
  | x :: l => by
    rw [List.map_cons]
    show (match bytesOf (l.map encb) with | some l => some (x :: l) | none => none) = _
    rw [bytes_enc l]
/-- The text of bytes. -/
def strB (l : List Int) : ByteArray := strOfNums l
theorem xkey_pure (s : XpS) (hs : XSm s) : Pure Tryz.prog 42 [.agg (encXp s)] (.c (.sc (.string (strB (strN (keyN s)))))) := by
  obtain ⟨hsm, hlen⟩ := hs
  generalize hK : keyN s = K at *
  obtain ⟨⟨accs, props, ins, nxt, pks, decs, steps⟩, lo, am⟩ := s
  obtain ⟨H, hH⟩ : ∃ H, H = [lo, am, steps, (accs.length : Int), (props.length : Int), (ins.length : Int), (nxt.length : Int), (pks.length : Int), (decs.length : Int)] := ⟨_, rfl⟩
  have hK1 : K = H ++ (accs.flatMap vecN ++ (props.flatMap prN ++ (ins.flatMap inN ++ (nxt ++ (pks.flatMap pkN ++ decs.flatMap deN))))) := by rw [← hK, hH]; rfl
  have n0 := numbers_con true 1000001 (.inl rfl) [] H (by rw [hH]; simp) (fun x hx => hsm x (by rw [hK1]; simp [hx])) (by rw [hH]; simp)
  rw [List.nil_append] at n0
  refine pure_of teOk Tryz.func42 (by kernel_rfl) (c := _) rfl (N := 166) rfl (rs := [Go.ResultVar.tmp 2]) rfl (by simp) fun base A w0 hA => ?_
  refine AW.st teOk [] (by simp [-Option.some.injEq] <;> rfl) trivial ?_
  refine AW.st teOk [] (by simp [-Option.some.injEq] <;> rfl) trivial ?_
  refine AW.to (s2 := ⟨[(1, .c (.fad (encXp ⟨⟨accs, props, ins, nxt, pks, decs, steps⟩, lo, am⟩))), (3, .c (.fad (encGr ⟨accs, props, ins, nxt, pks, decs, steps⟩))), (4, .c (.ptr 1000000 0 0))], encS 1000001 [], 1000002⟩) ((Weak.nilO 5 0 1 _ (by simp <;> exact ⟨rfl, rfl⟩) rfl (by simp)).trans ((Weak.freeze 0 ⟨9, [encXp ⟨⟨accs, props, ins, nxt, pks, decs, steps⟩, lo, am⟩]⟩ [] _ (by simp [putA]) (by simp)).trans ((Weak.freeze 6 ⟨7, [encGr ⟨accs, props, ins, nxt, pks, decs, steps⟩]⟩ [] _ (by simp [putA]) (by simp)).trans (Weak.normS hA [1, 3, 4] [(4, 1000000)] [(9, 1000001)] [5] 1000002 _ (by simp [putA, mapAt_nil']) (by simp [putA, mapAt_nil']) (by simp [putA, mapAt_nil']))))) (by simp [putA, mapAt_nil']) ?_
  have n0' := n0.lower (show 1000028 ≤ 1000110 by decide)
  have hal : accs.length < 100 := by have := hsm accs.length (by rw [hK1, hH]; simp); omega
  have hpl : props.length < 100 := by have := hsm props.length (by rw [hK1, hH]; simp); omega
  have hil : ins.length < 100 := by have := hsm ins.length (by rw [hK1, hH]; simp); omega
  have hnl : nxt.length < 100 := by have := hsm nxt.length (by rw [hK1, hH]; simp); omega
  have hkl : pks.length < 100 := by have := hsm pks.length (by rw [hK1, hH]; simp); omega
  have hdl : decs.length < 100 := by have := hsm decs.length (by rw [hK1, hH]; simp); omega
  have n0' := n0.lower (show 1000028 ≤ 1000110 by decide)
  have hal : accs.length < 100 := by have := hsm accs.length (by rw [hK1, hH]; simp); omega
  have hpl : props.length < 100 := by have := hsm props.length (by rw [hK1, hH]; simp); omega
  have hil : ins.length < 100 := by have := hsm ins.length (by rw [hK1, hH]; simp); omega
  have hnl : nxt.length < 100 := by have := hsm nxt.length (by rw [hK1, hH]; simp); omega
  have hkl : pks.length < 100 := by have := hsm pks.length (by rw [hK1, hH]; simp); omega
  have hdl : decs.length < 100 := by have := hsm decs.length (by rw [hK1, hH]; simp); omega
  have n0' := n0.lower (show 1000028 ≤ 1000110 by decide)
  have hal : accs.length < 100 := by have := hsm accs.length (by rw [hK1, hH]; simp); omega
  have hpl : props.length < 100 := by have := hsm props.length (by rw [hK1, hH]; simp); omega
  have hil : ins.length < 100 := by have := hsm ins.length (by rw [hK1, hH]; simp); omega
  have hnl : nxt.length < 100 := by have := hsm nxt.length (by rw [hK1, hH]; simp); omega
  have hkl : pks.length < 100 := by have := hsm pks.length (by rw [hK1, hH]; simp); omega
  have hdl : decs.length < 100 := by have := hsm decs.length (by rw [hK1, hH]; simp); omega
  have n0' := n0.lower (show 1000028 ≤ 1000110 by decide)
  have hal : accs.length < 100 := by have := hsm accs.length (by rw [hK1, hH]; simp); omega
  have hpl : props.length < 100 := by have := hsm props.length (by rw [hK1, hH]; simp); omega
  have hil : ins.length < 100 := by have := hsm ins.length (by rw [hK1, hH]; simp); omega
  have hnl : nxt.length < 100 := by have := hsm nxt.length (by rw [hK1, hH]; simp); omega
  have hkl : pks.length < 100 := by have := hsm pks.length (by rw [hK1, hH]; simp); omega
  have hdl : decs.length < 100 := by have := hsm decs.length (by rw [hK1, hH]; simp); omega
  have n0' := n0.lower (show 1000028 ≤ 1000110 by decide)
  have hal : accs.length < 100 := by have := hsm accs.length (by rw [hK1, hH]; simp); omega
  have hpl : props.length < 100 := by have := hsm props.length (by rw [hK1, hH]; simp); omega
  have hil : ins.length < 100 := by have := hsm ins.length (by rw [hK1, hH]; simp); omega
  have hnl : nxt.length < 100 := by have := hsm nxt.length (by rw [hK1, hH]; simp); omega
  have hkl : pks.length < 100 := by have := hsm pks.length (by rw [hK1, hH]; simp); omega
  have hdl : decs.length < 100 := by have := hsm decs.length (by rw [hK1, hH]; simp); omega
  refine AW.st teOk [.own (.tup []) (encS 1000112 (strN H)) 1000114] (by simp [-Option.some.injEq] <;> rfl) ?_ ?_
  · rw [hH] at n0' ⊢
    simpa using n0'
  refine AW.to (s2 := ⟨kB ⟨⟨accs, props, ins, nxt, pks, decs, steps⟩, lo, am⟩, encS 1000001 (strN H), 1000002⟩) (Weak.normS hA [1, 3, 4] [(4, 1000000)] [(1000112, 1000001)] [1000000] 1000002 _ (by simp) (by simp) (by simp)) (by simp) ?_
  refine AW.seq ?_
  refine AW.st teOk [] (by simp [-Option.some.injEq] <;> rfl) trivial ?_
  refine AW.block (AW.loop (fun m s => ∃ (j : Nat) (b : List Int), m = accs.length - j ∧ j ≤ accs.length ∧ b = strN (H ++ (accs.take j).flatMap vecN) ∧ s = ⟨kB ⟨⟨accs, props, ins, nxt, pks, decs, steps⟩, lo, am⟩ ++ [(49, .c (encVs accs)), (50, .c (cI accs.length)), (51, .c (cI j))], encS 1000001 b, 1000002⟩) _ (Weak.normS hA [1, 3, 4, 49, 50, 51] [(4, 1000000)] [(1000001, 1000001)] [1000000] 1000002 _ (by simp) (by simp) (by simp)) ⟨0, _, rfl, Nat.zero_le _, rfl, by simp⟩ ?_)
  rintro m s ⟨j, b, rfl, hj, hb, rfl⟩
  have hpre := take_pre (f := vecN) accs j hK1
  have hbl := pre_len hpre hsm hlen
  rw [← hb] at hbl
  refine AW.st teOk [] (by simp [-Option.some.injEq] <;> rfl) trivial ?_
  refine AW.seq (AW.iff (decide (j < accs.length)) (by simp) (fun h => AW.skip ?_) (fun h => AW.exit (x_then (x_then (blockA_exit ?_)))))
  · rw [decide_eq_true_eq] at h
    obtain ⟨x, hx⟩ : ∃ x, accs[j]? = some x := ⟨_, List.getElem?_eq_getElem h⟩
    have hm : x ∈ accs := List.mem_of_getElem? hx
    have hinc : IntKind.i64.wrap ((j : Int) + 1) = (j : Int) + 1 := wrap_s _ (by omega)
    have hst := flat_step (f := vecN) hx (H)
    rw [← hb] at hst
    have hpre2 := take_pre (f := vecN) accs (j + 1) hK1
    have hbl2 := pre_len hpre2 hsm hlen
    have hsub : ∀ y ∈ vecN x, y ∈ K := fun y hy => by
      rw [hK1]
      exact List.mem_append_right _ (List.mem_append_left _ (List.mem_flatMap.2 ⟨x, hm, hy⟩))
    have hsx : ∀ y ∈ vecN x, 0 ≤ y ∧ y < 100 := fun y hy => hsm y (hsub y hy)
    have hv := sm_of hsm hsub
    have c0 := (evec_con b x hv (by omega)).lower (show 1000005 ≤ 1000052 by decide)
    obtain ⟨bn, hbn⟩ : ∃ bn, bn = b ++ strN (vecN x) := ⟨_, rfl⟩
    rw [← hbn] at hst c0
    refine AW.seq (AW.block ?_)
    refine AW.st teOk [] (by simp [hx, -Option.some.injEq] <;> rfl) ?_ ?_
    · simpa using h
    refine AW.to (s2 := ⟨kB ⟨⟨accs, props, ins, nxt, pks, decs, steps⟩, lo, am⟩ ++ [(49, .c (encVs accs)), (50, .c (cI accs.length)), (51, .c (cI j)), (6, .c (.fad ([encV x])))], encS 1000001 b, 1000002⟩) ((Weak.freeze 1000005 ⟨1, [[encV x]]⟩ [] _ (by simp) (by simp)).trans (Weak.normS hA [1, 3, 4, 49, 50, 51, 6] [(4, 1000000)] [(1000001, 1000001)] [1000000] 1000002 _ (by simp [mapAt_nil']) (by simp [mapAt_nil']) (by simp [mapAt_nil']))) (by simp [mapAt_nil']) ?_
    refine AW.text teOk (ans := [.own (.tup []) (encS 1000103 bn) 1000104]) (by simp [-Option.some.injEq] <;> rfl) ?_ ?_
    · simpa using c0
    refine AW.text teOk (ans := []) (by simp [-Option.some.injEq] <;> rfl) ?_ ?_
    · trivial
    refine ⟨_, _, Weak.normS hA [1, 3, 4, 49, 50, 51] [(4, 1000000)] [(1000103, 1000001)] [1000000] 1000002 _ (by simp) (by simp) (by simp), ?_, j + 1, bn, rfl, h, ?_, ?_⟩
    · omega
    · exact hst.symm
    · simp [hinc]
  have hjl : j = accs.length := by
    rw [decide_eq_false_iff_not] at h
    omega
  rw [hjl, List.take_length] at hb
  obtain ⟨H1, hH1⟩ : ∃ H', H' = H ++ accs.flatMap vecN := ⟨_, rfl⟩
  have hK2 : K = H1 ++ (props.flatMap prN ++ (ins.flatMap inN ++ (nxt ++ (pks.flatMap pkN ++ decs.flatMap deN)))) := by rw [hK1, hH1]; simp only [List.append_assoc, List.append_nil]
  rw [← hH1] at hb
  refine AW.to (s2 := ⟨kB ⟨⟨accs, props, ins, nxt, pks, decs, steps⟩, lo, am⟩, encS 1000001 (b), 1000002⟩) (Weak.normS hA [1, 3, 4] [(4, 1000000)] [(1000001, 1000001)] [1000000] 1000002 _ (by simp) (by simp) (by simp)) (by simp) ?_
  clear hjl hbl hpre h hj j
  rw [hb]
  clear hb b
  have get_pr : ∀ x ∈ props, ∀ y ∈ prN x, y ∈ K := fun x hx y hy => by
    rw [hK2]
    exact List.mem_append_right _ (List.mem_append_left _ (List.mem_flatMap.2 ⟨x, hx, hy⟩))
  refine AW.seq ?_
  refine AW.st teOk [] (by simp [-Option.some.injEq] <;> rfl) trivial ?_
  refine AW.block (AW.loop (fun m s => ∃ (j : Nat) (b : List Int), m = props.length - j ∧ j ≤ props.length ∧ b = strN (H1 ++ (props.take j).flatMap prN) ∧ s = ⟨kB ⟨⟨accs, props, ins, nxt, pks, decs, steps⟩, lo, am⟩ ++ [(61, .c (Cell.row 5 false (props.map encPr'))), (62, .c (cI props.length)), (63, .c (cI j))], encS 1000001 b, 1000002⟩) _ (Weak.normS hA [1, 3, 4, 61, 62, 63] [(4, 1000000)] [(1000001, 1000001)] [1000000] 1000002 _ (by simp) (by simp) (by simp)) ⟨0, _, rfl, Nat.zero_le _, rfl, by simp⟩ ?_)
  rintro m s ⟨j, b, rfl, hj, hb, rfl⟩
  have hpre := take_pre (f := prN) props j hK2
  have hbl := pre_len hpre hsm hlen
  rw [← hb] at hbl
  refine AW.st teOk [] (by simp [-Option.some.injEq] <;> rfl) trivial ?_
  refine AW.seq (AW.iff (decide (j < props.length)) (by simp) (fun h => AW.skip ?_) (fun h => AW.exit (x_then (x_then (blockA_exit ?_)))))
  · rw [decide_eq_true_eq] at h
    obtain ⟨x, hx⟩ : ∃ x, props[j]? = some x := ⟨_, List.getElem?_eq_getElem h⟩
    have hm : x ∈ props := List.mem_of_getElem? hx
    have hinc : IntKind.i64.wrap ((j : Int) + 1) = (j : Int) + 1 := wrap_s _ (by omega)
    have hst := flat_step (f := prN) hx (H1)
    rw [← hb] at hst
    have hpre2 := take_pre (f := prN) props (j + 1) hK2
    have hbl2 := pre_len hpre2 hsm hlen
    have hsub : ∀ y ∈ prN x, y ∈ K := fun y hy => by
      rw [hK2]
      exact List.mem_append_right _ (List.mem_append_left _ (List.mem_flatMap.2 ⟨x, hm, hy⟩))
    have hsx : ∀ y ∈ prN x, 0 ≤ y ∧ y < 100 := fun y hy => hsm y (hsub y hy)
    obtain ⟨n, v, r, acks, dc⟩ := x
    have hv := sm_of (v := v) hsm (fun y hy => hsub y (by simp [prN, hy]))
    have c0 := (evec_con b v hv (by omega)).lower (show 1000005 ≤ 1000052 by decide)
    obtain ⟨b1, hb1⟩ : ∃ b1, b1 = b ++ strN (vecN v) := ⟨_, rfl⟩
    rw [← hb1] at c0
    have hb1s : b ++ strN (prN ⟨n, v, r, acks, dc⟩) = b1 ++ (strN [n, r, numB dc, (acks.length : Int)] ++ strN acks) := by
      rw [hb1, prN, strN_app, strN_app, List.append_assoc]
    have hb1l : b1.length + (strN [n, r, numB dc, (acks.length : Int)]).length + (strN acks).length ≤ 300000 := by
      have h1 := hbl2
      rw [hst, hb1s] at h1
      simp only [List.length_append] at h1
      omega
    refine AW.seq (AW.block ?_)
    refine AW.st teOk [] (by simp [hx, -Option.some.injEq] <;> rfl) ?_ ?_
    · simpa using h
    refine AW.to (s2 := ⟨kB ⟨⟨accs, props, ins, nxt, pks, decs, steps⟩, lo, am⟩ ++ [(61, .c (.row 5 false (props.map encPr'))), (62, .c (cI props.length)), (63, .c (cI j)), (8, .c (.fad (encPr ⟨n, v, r, acks, dc⟩)))], encS 1000001 b, 1000002⟩) ((Weak.freeze 1000005 ⟨5, [encPr ⟨n, v, r, acks, dc⟩]⟩ [] _ (by simp) (by simp)).trans (Weak.normS hA [1, 3, 4, 61, 62, 63, 8] [(4, 1000000)] [(1000001, 1000001)] [1000000] 1000002 _ (by simp [mapAt_nil']) (by simp [mapAt_nil']) (by simp [mapAt_nil']))) (by simp [mapAt_nil']) ?_
    refine AW.st teOk [.own (.tup []) (encS 1000103 b1) 1000104] (by simp [-Option.some.injEq] <;> rfl) ?_ ?_
    · simpa using c0
    refine AW.to (s2 := ⟨kB ⟨⟨accs, props, ins, nxt, pks, decs, steps⟩, lo, am⟩ ++ [(61, .c (.row 5 false (props.map encPr'))), (62, .c (cI props.length)), (63, .c (cI j)), (8, .c (.fad (encPr ⟨n, v, r, acks, dc⟩)))], encS 1000001 b1, 1000002⟩) (Weak.normS hA [1, 3, 4, 61, 62, 63, 8] [(4, 1000000)] [(1000103, 1000001)] [1000000] 1000002 _ (by simp) (by simp) (by simp)) (by simp) ?_
    have hal1 : acks.length < 100 := by have := hsx acks.length (by simp [prN]); omega
    have c1 := (numbers_con true 1000001 (.inl rfl) b1 [n, r, numB dc, (acks.length : Int)] (by simp) (fun y hy => hsx y (by simp only [prN]; exact List.mem_append_right _ (List.mem_append_left _ hy))) (by simp; omega)).lower (show 1000013 ≤ 1000110 by decide)
    obtain ⟨b2, hb2⟩ : ∃ b2, b2 = b1 ++ strN [n, r, numB dc, (acks.length : Int)] := ⟨_, rfl⟩
    rw [← hb2] at c1
    have hb2s : strN (H1 ++ (props.take (j + 1)).flatMap prN) = b2 ++ strN acks := by rw [hst, hb1s, hb2, List.append_assoc]
    have hb2l : b2.length + (strN acks).length ≤ 300000 := by rw [hb2, List.length_append]; exact hb1l
    refine AW.drC mixed teOk [.c (cI (numB dc))] [.own (.tup []) (encS 1000112 b2) 1000114] 12 (by rfl) (by rfl) (by simp [-Option.some.injEq] <;> rfl) (by kernel_rfl) (by kernel_rfl) (by kernel_rfl) (by kernel_rfl) (by kernel_rfl) (by simp [-Option.some.injEq] <;> rfl) ?_ ?_ ?_
    · simp [allP]
      exact xnumber_pure dc
    · simpa using c1
    refine AW.to (s2 := ⟨kB ⟨⟨accs, props, ins, nxt, pks, decs, steps⟩, lo, am⟩ ++ [(61, .c (.row 5 false (props.map encPr'))), (62, .c (cI props.length)), (63, .c (cI j)), (8, .c (.fad (encPr ⟨n, v, r, acks, dc⟩)))], encS 1000001 b2, 1000002⟩) (Weak.normS hA [1, 3, 4, 61, 62, 63, 8] [(4, 1000000)] [(1000112, 1000001)] [1000000] 1000002 _ (by simp) (by simp) (by simp)) (by simp) ?_
    clear hst hb1s hb1l hb1 hb2 b1 c0 c1 n0' n0
    by_cases hak0 : acks = []
    · subst hak0
      have c2 := (numbers0_con false b2).lower (show 1000005 ≤ 1000110 by decide)
      refine AW.text teOk (ans := [.own (.tup []) (encS 1000001 b2) 1000114]) (by simp [-Option.some.injEq] <;> rfl) ?_ ?_
      · simp at c2 ⊢
        exact c2
      refine AW.text teOk (ans := []) (by simp [-Option.some.injEq] <;> rfl) ?_ ?_
      · trivial
      refine ⟨_, _, Weak.normS hA [1, 3, 4, 61, 62, 63] [(4, 1000000)] [(1000001, 1000001)] [1000000] 1000002 _ (by simp) (by simp) (by simp), ?_, j + 1, b2, rfl, h, ?_, ?_⟩
      · omega
      · rw [hb2s]
        simp [strN]
      · simp [hinc]
    · have c2 := (numbers_con false 1000001 (.inl rfl) b2 acks hak0 (fun y hy => hsx y (by simp only [prN]; exact List.mem_append_right _ (List.mem_append_right _ hy))) (by omega)).lower (show 1000005 ≤ 1000110 by decide)
      obtain ⟨b3, hb3⟩ : ∃ b3, b3 = b2 ++ strN acks := ⟨_, rfl⟩
      rw [← hb3] at c2 hb2s
      refine AW.text teOk (ans := [.own (.tup []) (encS 1000112 b3) 1000114]) (by simp [-Option.some.injEq] <;> rfl) ?_ ?_
      · simpa using c2
      refine AW.text teOk (ans := []) (by simp [-Option.some.injEq] <;> rfl) ?_ ?_
      · trivial
      refine ⟨_, _, Weak.normS hA [1, 3, 4, 61, 62, 63] [(4, 1000000)] [(1000112, 1000001)] [1000000] 1000002 _ (by simp) (by simp) (by simp), ?_, j + 1, b3, rfl, h, ?_, ?_⟩
      · omega
      · exact hb2s.symm
      · simp [hinc]
  have hjl : j = props.length := by
    rw [decide_eq_false_iff_not] at h
    omega
  rw [hjl, List.take_length] at hb
  obtain ⟨H2, hH2⟩ : ∃ H', H' = H1 ++ props.flatMap prN := ⟨_, rfl⟩
  have hK3 : K = H2 ++ (ins.flatMap inN ++ (nxt ++ (pks.flatMap pkN ++ decs.flatMap deN))) := by rw [hK2, hH2]; simp only [List.append_assoc, List.append_nil]
  rw [← hH2] at hb
  refine AW.to (s2 := ⟨kB ⟨⟨accs, props, ins, nxt, pks, decs, steps⟩, lo, am⟩, encS 1000001 (b), 1000002⟩) (Weak.normS hA [1, 3, 4] [(4, 1000000)] [(1000001, 1000001)] [1000000] 1000002 _ (by simp) (by simp) (by simp)) (by simp) ?_
  clear hjl hbl hpre h hj j
  rw [hb]
  clear hb b
  refine AW.seq ?_
  refine AW.st teOk [] (by simp [-Option.some.injEq] <;> rfl) trivial ?_
  refine AW.block (AW.loop (fun m s => ∃ (j : Nat) (b : List Int), m = ins.length - j ∧ j ≤ ins.length ∧ b = strN (H2 ++ (ins.take j).flatMap inN) ∧ s = ⟨kB ⟨⟨accs, props, ins, nxt, pks, decs, steps⟩, lo, am⟩ ++ [(90, .c (Cell.row 1 false (ins.map encIn))), (91, .c (cI ins.length)), (92, .c (cI j))], encS 1000001 b, 1000002⟩) _ (Weak.normS hA [1, 3, 4, 90, 91, 92] [(4, 1000000)] [(1000001, 1000001)] [1000000] 1000002 _ (by simp) (by simp) (by simp)) ⟨0, _, rfl, Nat.zero_le _, rfl, by simp⟩ ?_)
  rintro m s ⟨j, b, rfl, hj, hb, rfl⟩
  have hpre := take_pre (f := inN) ins j hK3
  have hbl := pre_len hpre hsm hlen
  rw [← hb] at hbl
  refine AW.st teOk [] (by simp [-Option.some.injEq] <;> rfl) trivial ?_
  refine AW.seq (AW.iff (decide (j < ins.length)) (by simp) (fun h => AW.skip ?_) (fun h => AW.exit (x_then (x_then (blockA_exit ?_)))))
  · rw [decide_eq_true_eq] at h
    obtain ⟨x, hx⟩ : ∃ x, ins[j]? = some x := ⟨_, List.getElem?_eq_getElem h⟩
    have hm : x ∈ ins := List.mem_of_getElem? hx
    have hinc : IntKind.i64.wrap ((j : Int) + 1) = (j : Int) + 1 := wrap_s _ (by omega)
    have hst := flat_step (f := inN) hx (H2)
    rw [← hb] at hst
    have hpre2 := take_pre (f := inN) ins (j + 1) hK3
    have hbl2 := pre_len hpre2 hsm hlen
    have hsub : ∀ y ∈ inN x, y ∈ K := fun y hy => by
      rw [hK3]
      exact List.mem_append_right _ (List.mem_append_left _ (List.mem_flatMap.2 ⟨x, hm, hy⟩))
    have hsx : ∀ y ∈ inN x, 0 ≤ y ∧ y < 100 := fun y hy => hsm y (hsub y hy)
    have hxl : x.length < 100 := by have := hsx x.length (by simp [inN]); omega
    have c1 := (numbers_con true 1000001 (.inl rfl) b [(x.length : Int)] (by simp) (fun y hy => hsx y (by simp only [inN, List.mem_singleton] at hy ⊢; rw [hy]; simp)) (by simp; omega)).lower (show 1000010 ≤ 1000110 by decide)
    obtain ⟨b1, hb1⟩ : ∃ b1, b1 = b ++ strN [(x.length : Int)] := ⟨_, rfl⟩
    rw [← hb1] at c1
    refine AW.seq (AW.block ?_)
    refine AW.st teOk [] (by simp [hx, -Option.some.injEq] <;> rfl) ?_ ?_
    · simpa using h
    refine AW.st teOk [.own (.tup []) (encS 1000112 b1) 1000114] (by simp [-Option.some.injEq] <;> rfl) ?_ ?_
    · simpa using c1
    refine AW.to (s2 := ⟨kB ⟨⟨accs, props, ins, nxt, pks, decs, steps⟩, lo, am⟩ ++ [(90, .c (.row 1 false (ins.map encIn))), (91, .c (cI ins.length)), (92, .c (cI j)), (10, .c (encVs x))], encS 1000001 b1, 1000002⟩) (Weak.normS hA [1, 3, 4, 90, 91, 92, 10] [(4, 1000000)] [(1000112, 1000001)] [1000000] 1000002 _ (by simp) (by simp) (by simp)) (by simp) ?_
    have hxK : K = (H2 ++ (ins.take j).flatMap inN ++ [(x.length : Int)]) ++ (x.flatMap vecN ++ ((ins.drop (j + 1)).flatMap inN ++ (nxt ++ (pks.flatMap pkN ++ decs.flatMap deN)))) := by
      have hd : ins = ins.take j ++ x :: ins.drop (j + 1) := by
        have h1 := List.take_append_drop j ins
        rw [List.drop_eq_getElem_cons h, (List.getElem?_eq_some_iff.1 hx).2] at h1
        exact h1.symm
      rw [hK3]
      conv => lhs; rw [hd]
      simp only [List.flatMap_append, List.flatMap_cons, inN, List.append_assoc, List.cons_append, List.nil_append]
    obtain ⟨P, hP⟩ : ∃ P, P = H2 ++ (ins.take j).flatMap inN ++ [(x.length : Int)] := ⟨_, rfl⟩
    rw [← hP] at hxK
    have hb1P : b1 = strN P := by
      rw [hb1, hb, hP]
      simp only [strN_app]
    have hfin : strN (H2 ++ (ins.take (j + 1)).flatMap inN) = strN (P ++ x.flatMap vecN) := by
      rw [hst, hb, hP, show inN x = [(x.length : Int)] ++ x.flatMap vecN from rfl]
      simp only [strN_app, List.append_assoc]
    clear hb1 c1
    subst hb1P
    clear n0' n0
    refine AW.st teOk [] (by simp [-Option.some.injEq] <;> rfl) trivial ?_
    refine AW.block (AW.loop (fun m s => ∃ (q : Nat) (c : List Int), m = x.length - q ∧ q ≤ x.length ∧ c = strN (P ++ (x.take q).flatMap vecN) ∧ s = ⟨kB ⟨⟨accs, props, ins, nxt, pks, decs, steps⟩, lo, am⟩ ++ [(90, .c (.row 1 false (ins.map encIn))), (91, .c (cI ins.length)), (92, .c (cI j)), (101, .c (encVs x)), (102, .c (cI x.length)), (103, .c (cI q))], encS 1000001 c, 1000002⟩) _ (Weak.normS hA [1, 3, 4, 90, 91, 92, 101, 102, 103] [(4, 1000000)] [(1000001, 1000001)] [1000000] 1000002 _ (by simp) (by simp) (by simp)) ⟨0, _, rfl, Nat.zero_le _, rfl, by simp⟩ ?_)
    rintro m s ⟨q, c, rfl, hq, hc, rfl⟩
    have hcl := pre_len (take_pre (f := vecN) x q hxK) hsm hlen
    rw [← hc] at hcl
    refine AW.st teOk [] (by simp [-Option.some.injEq] <;> rfl) trivial ?_
    refine AW.seq (AW.iff (decide (q < x.length)) (by simp) (fun h2 => AW.skip ?_) (fun h2 => AW.exit (x_then (x_then (blockA_exit ?_)))))
    · rw [decide_eq_true_eq] at h2
      obtain ⟨v, hv⟩ : ∃ v, x[q]? = some v := ⟨_, List.getElem?_eq_getElem h2⟩
      have hincq : IntKind.i64.wrap ((q : Int) + 1) = (q : Int) + 1 := wrap_s _ (by omega)
      have hsv := sm_of (v := v) hsm (fun y hy => hsub y (by
        unfold inN
        exact List.mem_cons_of_mem _ (List.mem_flatMap.2 ⟨v, List.mem_of_getElem? hv, hy⟩)))
      have hstq := flat_step (f := vecN) hv P
      rw [← hc] at hstq
      have c2 := (evec_con c v hsv (by omega)).lower (show 1000008 ≤ 1000052 by decide)
      obtain ⟨cn, hcn⟩ : ∃ cn, cn = c ++ strN (vecN v) := ⟨_, rfl⟩
      rw [← hcn] at hstq c2
      refine AW.seq (AW.block ?_)
      refine AW.st teOk [] (by simp [hv, -Option.some.injEq] <;> rfl) ?_ ?_
      · simpa using h2
      refine AW.text teOk (ans := [.own (.tup []) (encS 1000103 cn) 1000104]) (by simp [-Option.some.injEq] <;> rfl) ?_ ?_
      · simpa using c2
      refine AW.text teOk (ans := []) (by simp [-Option.some.injEq] <;> rfl) ?_ ?_
      · trivial
      refine ⟨_, _, Weak.normS hA [1, 3, 4, 90, 91, 92, 101, 102, 103] [(4, 1000000)] [(1000103, 1000001)] [1000000] 1000002 _ (by simp) (by simp) (by simp), ?_, q + 1, cn, rfl, h2, hstq.symm, ?_⟩
      · omega
      · simp [hincq]
    have hql : q = x.length := by
      rw [decide_eq_false_iff_not] at h2
      omega
    rw [hql, List.take_length, ← hfin] at hc
    refine AW.text teOk (ans := []) (by simp [-Option.some.injEq] <;> rfl) ?_ ?_
    · trivial
    refine ⟨_, _, Weak.normS hA [1, 3, 4, 90, 91, 92] [(4, 1000000)] [(1000001, 1000001)] [1000000] 1000002 _ (by simp) (by simp) (by simp), ?_, j + 1, c, rfl, h, hc, ?_⟩
    · omega
    · simp [hinc]
  have hjl : j = ins.length := by
    rw [decide_eq_false_iff_not] at h
    omega
  rw [hjl, List.take_length] at hb
  obtain ⟨H3, hH3⟩ : ∃ H', H' = H2 ++ ins.flatMap inN := ⟨_, rfl⟩
  have hK4 : K = H3 ++ (nxt ++ (pks.flatMap pkN ++ decs.flatMap deN)) := by rw [hK3, hH3]; simp only [List.append_assoc, List.append_nil]
  rw [← hH3] at hb
  refine AW.to (s2 := ⟨kB ⟨⟨accs, props, ins, nxt, pks, decs, steps⟩, lo, am⟩, encS 1000001 (b), 1000002⟩) (Weak.normS hA [1, 3, 4] [(4, 1000000)] [(1000001, 1000001)] [1000000] 1000002 _ (by simp) (by simp) (by simp)) (by simp) ?_
  clear hjl hbl hpre h hj j
  have hK5 : K = (H3 ++ nxt) ++ (pks.flatMap pkN ++ decs.flatMap deN) := by rw [hK4, List.append_assoc]
  have hb4 : (strN (H3 ++ nxt)).length ≤ 300000 := pre_len ⟨_, hK5.symm⟩ hsm hlen
  have hb4e : strN (H3 ++ nxt) = b ++ strN nxt := by rw [strN_app, hb]
  clear n0' n0
  refine AW.mid (fun s => s = ⟨kB ⟨⟨accs, props, ins, nxt, pks, decs, steps⟩, lo, am⟩, encS 1000001 (strN (H3 ++ nxt)), 1000002⟩) ?_ ?_
  · by_cases hn0 : nxt = []
    · have c2 := (numbers0_con false b).lower (show 1000005 ≤ 1000110 by decide)
      subst hn0
      refine AW.text teOk (ans := [.own (.tup []) (encS 1000001 b) 1000114]) (by simp [-Option.some.injEq] <;> rfl) ?_ ?_
      · simp at c2 ⊢
        exact c2
      refine ⟨_, Weak.normS hA [1, 3, 4] [(4, 1000000)] [(1000001, 1000001)] [1000000] 1000002 _ (by simp) (by simp) (by simp), ?_⟩
      rw [hb4e]
      simp [strN]
    · have c2 := (numbers_con false 1000001 (.inl rfl) b nxt hn0 (fun y hy => hsm y (by rw [hK4]; exact List.mem_append_right _ (List.mem_append_left _ hy))) (by rw [hb4e, List.length_append] at hb4; omega)).lower (show 1000005 ≤ 1000110 by decide)
      rw [← hb4e] at c2
      obtain ⟨bn, hbn⟩ : ∃ bn, bn = strN (H3 ++ nxt) := ⟨_, rfl⟩
      rw [← hbn] at c2 ⊢
      refine AW.text teOk (ans := [.own (.tup []) (encS 1000112 bn) 1000114]) (by simp [-Option.some.injEq] <;> rfl) ?_ ?_
      · simpa using c2
      refine ⟨_, Weak.normS hA [1, 3, 4] [(4, 1000000)] [(1000112, 1000001)] [1000000] 1000002 _ (by simp) (by simp) (by simp), ?_⟩
      simp
  rintro s rfl
  obtain ⟨H4, hH4⟩ : ∃ H4, H4 = H3 ++ nxt := ⟨_, rfl⟩
  rw [← hH4] at hK5 ⊢
  clear hb4e hb4 hb b
  refine AW.seq ?_
  refine AW.st teOk [] (by simp [-Option.some.injEq] <;> rfl) trivial ?_
  refine AW.block (AW.loop (fun m s => ∃ (j : Nat) (b : List Int), m = pks.length - j ∧ j ≤ pks.length ∧ b = strN (H4 ++ (pks.take j).flatMap pkN) ∧ s = ⟨kB ⟨⟨accs, props, ins, nxt, pks, decs, steps⟩, lo, am⟩ ++ [(117, .c (Cell.row 5 false (pks.map encPk))), (118, .c (cI pks.length)), (119, .c (cI j))], encS 1000001 b, 1000002⟩) _ (Weak.normS hA [1, 3, 4, 117, 118, 119] [(4, 1000000)] [(1000001, 1000001)] [1000000] 1000002 _ (by simp) (by simp) (by simp)) ⟨0, _, rfl, Nat.zero_le _, rfl, by simp⟩ ?_)
  rintro m s ⟨j, b, rfl, hj, hb, rfl⟩
  have hpre := take_pre (f := pkN) pks j hK5
  have hbl := pre_len hpre hsm hlen
  rw [← hb] at hbl
  refine AW.st teOk [] (by simp [-Option.some.injEq] <;> rfl) trivial ?_
  refine AW.seq (AW.iff (decide (j < pks.length)) (by simp) (fun h => AW.skip ?_) (fun h => AW.exit (x_then (x_then (blockA_exit ?_)))))
  · rw [decide_eq_true_eq] at h
    obtain ⟨x, hx⟩ : ∃ x, pks[j]? = some x := ⟨_, List.getElem?_eq_getElem h⟩
    have hm : x ∈ pks := List.mem_of_getElem? hx
    have hinc : IntKind.i64.wrap ((j : Int) + 1) = (j : Int) + 1 := wrap_s _ (by omega)
    have hst := flat_step (f := pkN) hx (H4)
    rw [← hb] at hst
    have hpre2 := take_pre (f := pkN) pks (j + 1) hK5
    have hbl2 := pre_len hpre2 hsm hlen
    have hsub : ∀ y ∈ pkN x, y ∈ K := fun y hy => by
      rw [hK5]
      exact List.mem_append_right _ (List.mem_append_left _ (List.mem_flatMap.2 ⟨x, hm, hy⟩))
    have hsx : ∀ y ∈ pkN x, 0 ≤ y ∧ y < 100 := fun y hy => hsm y (hsub y hy)
    obtain ⟨rp, pr, ac, rd, v⟩ := x
    have hv := sm_of (v := v) hsm (fun y hy => hsub y (by simp only [pkN]; exact List.mem_append_right _ hy))
    have c1 := (numbers_con true 1000001 (.inl rfl) b [numB rp, pr, ac, rd] (by simp) (fun y hy => hsx y (by simp only [pkN]; exact List.mem_append_left _ hy)) (by simp; omega)).lower (show 1000012 ≤ 1000110 by decide)
    obtain ⟨b1, hb1⟩ : ∃ b1, b1 = b ++ strN [numB rp, pr, ac, rd] := ⟨_, rfl⟩
    rw [← hb1] at c1
    have hfin : strN (H4 ++ (pks.take (j + 1)).flatMap pkN) = b1 ++ strN (vecN v) := by
      rw [hst, hb1, pkN, strN_app, List.append_assoc]
    rw [hfin, List.length_append] at hbl2
    have c2 := (evec_con b1 v hv (by omega)).lower (show 1000005 ≤ 1000052 by decide)
    obtain ⟨bn, hbn⟩ : ∃ bn, bn = b1 ++ strN (vecN v) := ⟨_, rfl⟩
    rw [← hbn] at c2 hfin
    refine AW.seq (AW.block ?_)
    refine AW.st teOk [] (by simp [hx, -Option.some.injEq] <;> rfl) ?_ ?_
    · simpa using h
    refine AW.to (s2 := ⟨kB ⟨⟨accs, props, ins, nxt, pks, decs, steps⟩, lo, am⟩ ++ [(117, .c (.row 5 false (pks.map encPk))), (118, .c (cI pks.length)), (119, .c (cI j)), (14, .c (.fad (encPk ⟨rp, pr, ac, rd, v⟩)))], encS 1000001 b, 1000002⟩) ((Weak.freeze 1000005 ⟨5, [encPk ⟨rp, pr, ac, rd, v⟩]⟩ [] _ (by simp) (by simp)).trans (Weak.normS hA [1, 3, 4, 117, 118, 119, 14] [(4, 1000000)] [(1000001, 1000001)] [1000000] 1000002 _ (by simp [mapAt_nil']) (by simp [mapAt_nil']) (by simp [mapAt_nil']))) (by simp [mapAt_nil']) ?_
    refine AW.drC mixed teOk [.c (cI (numB rp))] [.own (.tup []) (encS 1000112 b1) 1000114] 11 (by rfl) (by rfl) (by simp [-Option.some.injEq] <;> rfl) (by kernel_rfl) (by kernel_rfl) (by kernel_rfl) (by kernel_rfl) (by kernel_rfl) (by simp [-Option.some.injEq] <;> rfl) ?_ ?_ ?_
    · simp [allP]
      exact xnumber_pure rp
    · simpa using c1
    refine AW.to (s2 := ⟨kB ⟨⟨accs, props, ins, nxt, pks, decs, steps⟩, lo, am⟩ ++ [(117, .c (.row 5 false (pks.map encPk))), (118, .c (cI pks.length)), (119, .c (cI j)), (14, .c (.fad (encPk ⟨rp, pr, ac, rd, v⟩)))], encS 1000001 b1, 1000002⟩) (Weak.normS hA [1, 3, 4, 117, 118, 119, 14] [(4, 1000000)] [(1000112, 1000001)] [1000000] 1000002 _ (by simp) (by simp) (by simp)) (by simp) ?_
    refine AW.text teOk (ans := [.own (.tup []) (encS 1000103 bn) 1000104]) (by simp [-Option.some.injEq] <;> rfl) ?_ ?_
    · simpa using c2
    refine AW.text teOk (ans := []) (by simp [-Option.some.injEq] <;> rfl) ?_ ?_
    · trivial
    refine ⟨_, _, Weak.normS hA [1, 3, 4, 117, 118, 119] [(4, 1000000)] [(1000103, 1000001)] [1000000] 1000002 _ (by simp) (by simp) (by simp), ?_, j + 1, bn, rfl, h, hfin.symm, ?_⟩
    · omega
    · simp [hinc]
  have hjl : j = pks.length := by
    rw [decide_eq_false_iff_not] at h
    omega
  rw [hjl, List.take_length] at hb
  obtain ⟨H5, hH5⟩ : ∃ H', H' = H4 ++ pks.flatMap pkN := ⟨_, rfl⟩
  have hK6 : K = H5 ++ (decs.flatMap deN ++ []) := by rw [hK5, hH5]; simp only [List.append_assoc, List.append_nil]
  rw [← hH5] at hb
  refine AW.to (s2 := ⟨kB ⟨⟨accs, props, ins, nxt, pks, decs, steps⟩, lo, am⟩, encS 1000001 (b), 1000002⟩) (Weak.normS hA [1, 3, 4] [(4, 1000000)] [(1000001, 1000001)] [1000000] 1000002 _ (by simp) (by simp) (by simp)) (by simp) ?_
  clear hjl hbl hpre h hj j
  rw [hb]
  clear hb b
  refine AW.seq ?_
  refine AW.st teOk [] (by simp [-Option.some.injEq] <;> rfl) trivial ?_
  refine AW.block (AW.loop (fun m s => ∃ (j : Nat) (b : List Int), m = decs.length - j ∧ j ≤ decs.length ∧ b = strN (H5 ++ (decs.take j).flatMap deN) ∧ s = ⟨kB ⟨⟨accs, props, ins, nxt, pks, decs, steps⟩, lo, am⟩ ++ [(141, .c (Cell.row 4 false (decs.map encDe))), (142, .c (cI decs.length)), (143, .c (cI j))], encS 1000001 b, 1000002⟩) _ (Weak.normS hA [1, 3, 4, 141, 142, 143] [(4, 1000000)] [(1000001, 1000001)] [1000000] 1000002 _ (by simp) (by simp) (by simp)) ⟨0, _, rfl, Nat.zero_le _, rfl, by simp⟩ ?_)
  rintro m s ⟨j, b, rfl, hj, hb, rfl⟩
  have hpre := take_pre (f := deN) decs j hK6
  have hbl := pre_len hpre hsm hlen
  rw [← hb] at hbl
  refine AW.st teOk [] (by simp [-Option.some.injEq] <;> rfl) trivial ?_
  refine AW.seq (AW.iff (decide (j < decs.length)) (by simp) (fun h => AW.skip ?_) (fun h => AW.exit (x_then (x_then (blockA_exit ?_)))))
  · rw [decide_eq_true_eq] at h
    obtain ⟨x, hx⟩ : ∃ x, decs[j]? = some x := ⟨_, List.getElem?_eq_getElem h⟩
    have hm : x ∈ decs := List.mem_of_getElem? hx
    have hinc : IntKind.i64.wrap ((j : Int) + 1) = (j : Int) + 1 := wrap_s _ (by omega)
    have hst := flat_step (f := deN) hx (H5)
    rw [← hb] at hst
    have hpre2 := take_pre (f := deN) decs (j + 1) hK6
    have hbl2 := pre_len hpre2 hsm hlen
    have hsub : ∀ y ∈ deN x, y ∈ K := fun y hy => by
      rw [hK6]
      exact List.mem_append_right _ (List.mem_append_left _ (List.mem_flatMap.2 ⟨x, hm, hy⟩))
    have hsx : ∀ y ∈ deN x, 0 ≤ y ∧ y < 100 := fun y hy => hsm y (hsub y hy)
    obtain ⟨pr, inp, v, stp⟩ := x
    have hv := sm_of (v := v) hsm (fun y hy => hsub y (by simp only [deN]; exact List.mem_append_right _ hy))
    have c1 := (numbers_con true 1000001 (.inl rfl) b [pr, inp, stp] (by simp) (fun y hy => hsx y (by simp only [deN]; exact List.mem_append_left _ hy)) (by simp; omega)).lower (show 1000010 ≤ 1000110 by decide)
    obtain ⟨b1, hb1⟩ : ∃ b1, b1 = b ++ strN [pr, inp, stp] := ⟨_, rfl⟩
    rw [← hb1] at c1
    have hfin : strN (H5 ++ (decs.take (j + 1)).flatMap deN) = b1 ++ strN (vecN v) := by
      rw [hst, hb1, deN, strN_app, List.append_assoc]
    rw [hfin, List.length_append] at hbl2
    have c2 := (evec_con b1 v hv (by omega)).lower (show 1000005 ≤ 1000052 by decide)
    obtain ⟨bn, hbn⟩ : ∃ bn, bn = b1 ++ strN (vecN v) := ⟨_, rfl⟩
    rw [← hbn] at c2 hfin
    refine AW.seq (AW.block ?_)
    refine AW.st teOk [] (by simp [hx, -Option.some.injEq] <;> rfl) ?_ ?_
    · simpa using h
    refine AW.to (s2 := ⟨kB ⟨⟨accs, props, ins, nxt, pks, decs, steps⟩, lo, am⟩ ++ [(141, .c (.row 4 false (decs.map encDe))), (142, .c (cI decs.length)), (143, .c (cI j)), (16, .c (.fad (encDe ⟨pr, inp, v, stp⟩)))], encS 1000001 b, 1000002⟩) ((Weak.freeze 1000005 ⟨4, [encDe ⟨pr, inp, v, stp⟩]⟩ [] _ (by simp) (by simp)).trans (Weak.normS hA [1, 3, 4, 141, 142, 143, 16] [(4, 1000000)] [(1000001, 1000001)] [1000000] 1000002 _ (by simp [mapAt_nil']) (by simp [mapAt_nil']) (by simp [mapAt_nil']))) (by simp [mapAt_nil']) ?_
    refine AW.st teOk [.own (.tup []) (encS 1000112 b1) 1000114] (by simp [-Option.some.injEq] <;> rfl) ?_ ?_
    · simpa using c1
    refine AW.to (s2 := ⟨kB ⟨⟨accs, props, ins, nxt, pks, decs, steps⟩, lo, am⟩ ++ [(141, .c (.row 4 false (decs.map encDe))), (142, .c (cI decs.length)), (143, .c (cI j)), (16, .c (.fad (encDe ⟨pr, inp, v, stp⟩)))], encS 1000001 b1, 1000002⟩) (Weak.normS hA [1, 3, 4, 141, 142, 143, 16] [(4, 1000000)] [(1000112, 1000001)] [1000000] 1000002 _ (by simp) (by simp) (by simp)) (by simp) ?_
    refine AW.text teOk (ans := [.own (.tup []) (encS 1000103 bn) 1000104]) (by simp [-Option.some.injEq] <;> rfl) ?_ ?_
    · simpa using c2
    refine AW.text teOk (ans := []) (by simp [-Option.some.injEq] <;> rfl) ?_ ?_
    · trivial
    refine ⟨_, _, Weak.normS hA [1, 3, 4, 141, 142, 143] [(4, 1000000)] [(1000103, 1000001)] [1000000] 1000002 _ (by simp) (by simp) (by simp), ?_, j + 1, bn, rfl, h, hfin.symm, ?_⟩
    · omega
    · simp [hinc]
  have hjl : j = decs.length := by
    rw [decide_eq_false_iff_not] at h
    omega
  rw [hjl, List.take_length] at hb
  have hend : b = strN K := by rw [hb, hK6, List.append_nil]
  subst hend
  refine AW.to (s2 := ⟨[(4, .c (.fad [.row 1 false ((strN K).map encb)]))], [], 2⟩) ((Weak.freeze 1000001 ⟨1, (strN K).map encb⟩ [1000000] _ (by simp) (by simp)).trans ((Weak.freeze 1000000 ⟨1, [[.row 1 false ((strN K).map encb)]]⟩ [] _ (by simp) (by simp)).trans (Weak.normS hA [4] [] [] [] 2 _ (by simp) (by simp) (by simp)))) (by simp [mapAt_nil']) ?_
  refine AW.st teOk [] (by simp [bytes_enc, -Option.some.injEq] <;> rfl) trivial ?_
  refine AW.ret ⟨.inr rfl, _, Weak.refl _, ?_⟩
  simp [strB]
end Go.Proofs.YtphlhadgcfndhaaGreatDoor.Abs
end
section
namespace Go.Proofs.YtphlhadgcfndhaaGreatDoor.Abs
open Go Go.RowKit
set_option linter.unusedVariables false
set_option linter.unusedSimpArgs false
set_option maxHeartbeats 4000000
theorem can_W {g : GrS} {n N : Nat} (h : GrW g n N) : GrW (canG g) n N :=
  ⟨⟨h.nn.p, h.nn.i, h.nn.x, h.nn.b⟩, h.n4, h.al, h.a, h.p, h.i, h.x, fun k hk => h.k k (sortP_mem.1 hk), fun d hd => by
    obtain ⟨e, he, rfl⟩ := List.mem_map.1 hd
    exact h.d e he, by show (sortP g.pks).length ≤ N; rw [sortP_len]; exact h.kl, by show (g.decs.map _).length ≤ N; rw [List.length_map]; exact h.dl, ⟨Int.le_refl _, by show (0 : Int) ≤ N; omega⟩⟩
theorem lose_W' {g : GrS} {n N : Nat} (h : GrW g n N) (i : Nat) : GrW { g with pks := delL g.pks i } n N :=
  ⟨⟨h.nn.p, h.nn.i, h.nn.x, h.nn.b⟩, h.n4, h.al, h.a, h.p, h.i, h.x, fun k hk => h.k k (mem_delL hk), h.d, by
    show (delL g.pks i).length ≤ N
    have := h.kl
    unfold delL
    rw [List.length_append, List.length_take, List.length_drop]
    omega, h.dl, h.s⟩
def forgG (g : GrS) (i : Nat) : GrS := { g with accs := g.accs.set i [] }
theorem mem_set_nil {l : List V2} {i : Nat} {v : V2} (h : v ∈ l.set i []) : v = [] ∨ v ∈ l := by
  rcases List.mem_or_eq_of_mem_set h with h | h
  · exact .inr h
  · exact .inl h
theorem forg_W {g : GrS} {n N : Nat} (h : GrW g n N) (i : Nat) : GrW (forgG g i) n N :=
  ⟨⟨h.nn.p, h.nn.i, h.nn.x, h.nn.b⟩, h.n4, by show 0 < (g.accs.set i []).length ∧ (g.accs.set i []).length ≤ 12; rw [List.length_set]; exact h.al, fun v hv => by
    rcases mem_set_nil hv with rfl | hv
    · exact V4.nil
    · exact h.a v hv, fun p hp => by
    have := h.p p hp
    show PrW p ((g.accs.set i []).length : Nat) N
    rw [List.length_set]
    exact this, h.i, h.x, fun k hk => by
    obtain ⟨h1, h2, h3⟩ := h.k k hk
    refine ⟨h1, ⟨h2.1, ?_⟩, h3⟩
    show k.acc < ((g.accs.set i []).length : Nat)
    rw [List.length_set]
    exact h2.2, h.d, h.kl, h.dl, h.s⟩
/-- Kept where packets change their places and numbers of steps go. -/
theorem can_V {all : V2} {g : GrS} (h : InvV all g) : InvV all (canG g) :=
  ⟨h.ac, h.pr, fun k hk => h.pk k (sortP_mem.1 hk), h.inp, h.cu, fun d hd => by
    obtain ⟨e, he, rfl⟩ := List.mem_map.1 hd
    exact h.de e he, by
    show (g.decs.map _).Pairwise _
    rw [List.pairwise_map]
    exact h.or⟩
theorem lose_V {all : V2} {g : GrS} (h : InvV all g) (i : Nat) : InvV all { g with pks := delL g.pks i } :=
  ⟨h.ac, h.pr, fun k hk => h.pk k (mem_delL hk), h.inp, h.cu, h.de, h.or⟩
theorem forg_V {all : V2} (ha : Val all) {g : GrS} (h : InvV all g) (i : Nat) : InvV all (forgG g i) :=
  ⟨fun v hv => by
    rcases mem_set_nil hv with rfl | hv
    · exact nil_sub ha
    · exact h.ac v hv, h.pr, h.pk, h.inp, h.cu, h.de, h.or⟩
theorem decsOf_can (l : List DeS) (i : Nat) : decsOf (l.map fun d => { d with step := 0 }) i = decsOf l i := by
  unfold decsOf
  rw [List.filter_map, List.map_map]
  rfl
theorem can_E {dead : Nat → Bool} {g : GrS} (h : InvE dead g) : InvE dead (canG g) := by
  refine ⟨fun i hi => ?_, fun i p l x hp hl hx hne => ?_, fun d hd => ?_⟩
  · show decsOf (g.decs.map _) i = []
    rw [decsOf_can]
    exact h.e i hi
  · obtain ⟨h1, h2, h3, h4⟩ := h.f i p l x hp hl hx hne
    refine ⟨h1, h2, ?_, fun hd => ⟨(h4 hd).1, fun a ha hda => ?_⟩⟩
    · show decsOf (g.decs.map _) i = _
      rw [decsOf_can]
      exact h3
    · rcases (h4 hd).2 a ha hda with h5 | ⟨k, hk, h6⟩
      · exact .inl h5
      · exact .inr ⟨k, sortP_mem.2 hk, h6⟩
  · obtain ⟨e, he, rfl⟩ := List.mem_map.1 hd
    exact h.r e he
theorem forg_E {dead : Nat → Bool} {g : GrS} (h : InvE dead g) (i : Nat) : InvE dead (forgG g i) := by
  refine ⟨h.e, fun j p l x hp hl hx hne => ?_, h.r⟩
  obtain ⟨h1, h2, h3, h4⟩ := h.f j p l x hp hl hx hne
  refine ⟨h1, h2, h3, fun hd => ⟨(h4 hd).1, fun a ha hda => (h4 hd).2 a ?_ hda⟩⟩
  have : a < (g.accs.set i []).length := ha
  rwa [List.length_set] at this
def allD : Nat → Bool := fun _ => true
/-- A bound of the packets: where there are at most two acceptors. -/
def phi (g : GrS) : Int := (g.pks.length : Int) + ((g.props.map fun p => 4 - sizV p.v).sum + 2 - g.nxt.sum)
theorem del_len {l : List PkS} {i : Nat} {k : PkS} (hk : l[i]? = some k) : (delL l i).length + 1 = l.length := by
  have h := (List.getElem?_eq_some_iff.1 hk).1
  have := delL_len l i h
  omega
theorem case_phi {g : GrS} {n N : Nat} (hw : GrW g n N) (h2 : g.accs.length ≤ 2) {i : Nat} {k : PkS} (hk : g.pks[i]? = some k) {g' : GrS} (c : DCase g i k g') : phi g' ≤ phi g := by
  have hkm := List.mem_of_getElem? hk
  obtain ⟨hkv, hka, q, l0, hkp, hl0, hl0'⟩ := hw.k k hkm
  have hd := del_len hk
  cases c with
  | ask a hr ha =>
    unfold phi
    dsimp only
    rw [List.length_append]
    simp only [List.length_singleton]
    omega
  | idle p hr hp hdc =>
    unfold phi
    dsimp only
    omega
  | again p hr hp hdc hkr hle =>
    have hpw := hw.p p (List.mem_of_getElem? hp)
    have hn := hpw.n
    unfold phi
    dsimp only
    rw [List.length_append, propsTo_len, sum_set (fun p => 4 - sizV p.v) g.props _ _ p hp]
    have := siz_lt hpw.v hkv hle
    have e : (nextS p k.v).v = mergeI true p.v k.v := rfl
    rw [e]
    omega
  | ack p hr hp hdc hkr hle hn =>
    unfold phi
    dsimp only
    rw [sum_set (fun p => 4 - sizV p.v) g.props _ _ p hp, show (ackS p k.acc).v = p.v from rfl]
    omega
  | last p l x hr hp hdc hkr hle hn hl hx hv =>
    unfold phi
    dsimp only
    rw [sum_set (fun p => 4 - sizV p.v) g.props _ _ p hp, show (ackS p k.acc).v = p.v from rfl]
    omega
  | next p l x v hr hp hdc hkr hle hn hl hx hv =>
    have hpw := hw.p p (List.mem_of_getElem? hp)
    have hpn := hpw.n
    have hvv := (hw.i l (List.mem_of_getElem? hl)).2 v (List.mem_of_getElem? hv)
    unfold phi
    dsimp only
    have hnx := sum_set (fun x : Int => x) g.nxt k.prop.toNat (x + 1) x hx
    rw [List.map_id', List.map_id'] at hnx
    rw [List.length_append, propsTo_len, sum_set (fun p => 4 - sizV p.v) g.props _ _ p hp, hnx]
    have := siz_mono (sub_l hpw.v.val hvv.val)
    have e : (nextS p v).v = mergeI true p.v v := rfl
    rw [e]
    omega
/-- What holds of every state of an exploration; N bounds its numbers. -/
structure XInv (ins : List (List V2)) (all : V2) (m N : Nat) (g : GrS) : Prop where
  w : GrW g ins.length N
  v : InvV all g
  e : InvE allD g
  p : phi g ≤ 14
  al : g.accs.length = m
  i : g.ins = ins
  z : ∀ (i : Nat) (x : Int), g.nxt[i]? = some x → g.ins[i]? = some [] → x = 0
/-- What a program is made of. -/
structure XIns (ins : List (List V2)) (all : V2) (m : Nat) : Prop where
  m : 1 ≤ m ∧ m ≤ 2
  len : ins.length ≤ 2
  two : ∀ l ∈ ins, l.length ≤ 2 ∧ ∀ v ∈ l, V4 v ∧ Sub v all
  va : V4 all
  sz : sizV all ≤ 4
theorem XIns.ok {ins : List (List V2)} {all : V2} {m : Nat} (h : XIns ins all m) : InsOk ins := ⟨by have := h.len; omega, fun l hl => ⟨by have := (h.two l hl).1; omega, fun v hv => ((h.two l hl).2 v hv).1⟩⟩
theorem XInv.pks {ins : List (List V2)} {all : V2} {m N : Nat} {g : GrS} (h0 : XIns ins all m) (h : XInv ins all m N g) : g.pks.length ≤ 14 := by
  have h1 : 0 ≤ (g.props.map fun p => 4 - sizV p.v).sum := nn_sum _ fun x hx => by
    obtain ⟨p, hp, rfl⟩ := List.mem_map.1 hx
    have := siz_mono (h.v.pr p hp)
    have := h0.sz
    omega
  have h2 : g.nxt.sum ≤ 1 * g.nxt.length := le_sum 1 _ fun x hx => by
    obtain ⟨i, hi⟩ := List.mem_iff_getElem?.1 hx
    have hil := (List.getElem?_eq_some_iff.1 hi).1
    have e1 := h.w.nn.x
    have e2 := h.w.nn.i
    have e3 := h.w.nn.p
    obtain ⟨p, hp⟩ : ∃ p, g.props[i]? = some p := ⟨_, List.getElem?_eq_getElem (by omega)⟩
    obtain ⟨l, hl⟩ : ∃ l, g.ins[i]? = some l := ⟨_, List.getElem?_eq_getElem (by omega)⟩
    by_cases hne : l = []
    · subst hne
      have := h.z i x hi hl
      omega
    · have h3 := (h.e.f i p l x hp hl hi hne).1
      have h4 : l.length ≤ 2 := (h0.two l (by rw [← h.i]; exact List.mem_of_getElem? hl)).1
      have := (h.w.x i x hi).1
      omega
  have := h.w.nn.x
  have := h0.len
  have := h.p
  unfold phi at this
  omega
theorem XInv.ow {ins : List (List V2)} {all : V2} {m N M : Nat} {g : GrS} (h : XInv ins all m N g) (hM : N ≤ M) : XInv ins all m M g :=
  ⟨⟨h.w.nn, h.w.n4, h.w.al, h.w.a, fun p hp => (h.w.p p hp).mono hM, h.w.i, h.w.x, h.w.k, h.w.d, by have := h.w.kl; omega, by have := h.w.dl; omega, by have := h.w.s; omega⟩, h.v, h.e, h.p, h.al, h.i, h.z⟩
theorem can_X {ins : List (List V2)} {all : V2} {m N : Nat} {g : GrS} (h : XInv ins all m N g) : XInv ins all m N (canG g) :=
  ⟨can_W h.w, can_V h.v, can_E h.e, by
    have := h.p
    unfold phi at this ⊢
    show ((sortP g.pks).length : Int) + _ ≤ _
    rw [sortP_len]
    exact this, h.al, h.i, h.z⟩
theorem forg_X {ins : List (List V2)} {all : V2} {m N : Nat} (h0 : XIns ins all m) {g : GrS} (h : XInv ins all m N g) (i : Nat) : XInv ins all m N (forgG g i) :=
  ⟨forg_W h.w i, forg_V h0.va.val h.v i, forg_E h.e i, h.p, by show (g.accs.set i []).length = m; rw [List.length_set]; exact h.al, h.i, h.z⟩
theorem lose_X {ins : List (List V2)} {all : V2} {m N : Nat} {g : GrS} (h : XInv ins all m N g) {i : Nat} (hi : i < g.pks.length) : XInv ins all m N { g with pks := delL g.pks i } :=
  ⟨lose_W' h.w i, lose_V h.v i, lose_E h.e (List.getElem?_eq_getElem hi) rfl, by
    have := h.p
    have := delL_len g.pks i hi
    unfold phi at *
    dsimp only
    omega, h.al, h.i, h.z⟩
theorem case_z {g : GrS} {i : Nat} {k : PkS} (hz : ∀ (i : Nat) (x : Int), g.nxt[i]? = some x → g.ins[i]? = some [] → x = 0) {g' : GrS} (c : DCase g i k g') : ∀ (i : Nat) (x : Int), g'.nxt[i]? = some x → g'.ins[i]? = some [] → x = 0 := by
  cases c with
  | next p l x v hr hp hdc hkr hle hn hl hx hv =>
    intro j y hy hj
    dsimp only at hy hj
    rcases get_set hy with ⟨rfl, rfl⟩ | ⟨_, hy⟩
    · rw [hl] at hj
      cases hj
      simp at hv
    · exact hz j y hy hj
  | _ => exact hz
theorem case_fix {g : GrS} {i : Nat} {k : PkS} {g' : GrS} (c : DCase g i k g') : g'.accs.length = g.accs.length ∧ g'.ins = g.ins := by
  cases c <;> simp
theorem deliv_X {ins : List (List V2)} {all : V2} {m N : Nat} (h0 : XIns ins all m) {g : GrS} (h : XInv ins all m N g) {i : Nat} (hi : i < g.pks.length) : XInv ins all m (N + 14) (delivS g i) := by
  have hk : g.pks[i]? = some g.pks[i] := List.getElem?_eq_getElem hi
  have c := deliv_case h.w hk
  have hf := case_fix c
  exact ⟨case_W h.w hk c, case_V h.w h.v hk c, case_E h.w h.e hk c, by have := case_phi h.w (by rw [h.al]; exact h0.m.2) hk c; have := h.p; omega, hf.1.trans h.al, hf.2.trans h.i, case_z h.z c⟩
theorem new_X {ins : List (List V2)} {all : V2} {m : Nat} (h0 : XIns ins all m) : XInv ins all m 100 (newG m ins) := by
  have h := new_is m ins
  have hm := h0.m
  refine ⟨new_W ⟨hm.1, by omega⟩ h0.ok, new_V h0.va.val fun l hl v hv => ((h0.two l hl).2 v hv).2, new_E _, ?_, by rw [h.accs, List.length_replicate], h.ins, fun i x hx _ => ?_⟩
  · have h1 := h.pl
    have h2 : (newG m ins).nxt.sum = 0 := by
      rw [h.nxt]
      induction ins.length with
      | zero => rfl
      | succ k ih => rw [List.replicate_succ, List.sum_cons, ih]; rfl
    have h3 : ((newG m ins).props.map fun p => 4 - sizV p.v).sum ≤ 4 * ((newG m ins).props.map fun p => 4 - sizV p.v).length := le_sum 4 _ fun x hx => by
      obtain ⟨p, hp, rfl⟩ := List.mem_map.1 hx
      have := (siz_le ((new_W (n := m) ⟨hm.1, by omega⟩ h0.ok).p p hp).v).1
      omega
    rw [List.length_map, h.props, List.length_map] at h3
    have h4 := h0.len
    have h5 : m * ins.length ≤ 2 * 2 := Nat.mul_le_mul hm.2 h4
    unfold phi
    rw [h.props]
    omega
  · rw [h.nxt] at hx
    exact (List.mem_replicate.1 (List.mem_of_getElem? hx)).2
end Go.Proofs.YtphlhadgcfndhaaGreatDoor.Abs
end
section
namespace Go.Proofs.YtphlhadgcfndhaaGreatDoor.Abs
open Go Go.RowKit
set_option linter.unusedVariables false
set_option linter.unusedSimpArgs false
set_option maxHeartbeats 4000000
abbrev ActP := Int × Int
def actsD (n : Nat) : List ActP := (List.range n).map fun (i : Nat) => (1, (i : Int))
def actsL (lo : Int) (n : Nat) : List ActP := (List.range n).filterMap fun (i : Nat) => if lo > 0 then some (2, (i : Int)) else none
def actsF (am : Int) (accs : List V2) (n : Nat) : List ActP := (List.range n).filterMap fun (i : Nat) => if am > 0 ∧ 0 < (accs.getD i []).length then some (3, (i : Int)) else none
def actsX (s : XpS) : List ActP := actsD s.g.pks.length ++ actsL s.lo s.g.pks.length ++ actsF s.am s.g.accs s.g.accs.length
def perfX (s : XpS) (a : ActP) : XpS :=
  if a ∈ actsX s then
    if a.1 = 1 then { s with g := delivS s.g a.2.toNat }
    else if a.1 = 2 then { s with g := { s.g with pks := delL s.g.pks a.2.toNat }, lo := s.lo - 1 }
    else { s with g := forgG s.g a.2.toNat, am := s.am - 1 }
  else s
theorem mem_actsD {n : Nat} {a : ActP} : a ∈ actsD n ↔ ∃ i : Nat, i < n ∧ a = (1, (i : Int)) := by
  unfold actsD
  rw [List.mem_map]
  constructor
  · rintro ⟨i, hi, rfl⟩
    exact ⟨i, List.mem_range.1 hi, rfl⟩
  · rintro ⟨i, hi, rfl⟩
    exact ⟨i, List.mem_range.2 hi, rfl⟩
theorem mem_actsL {lo : Int} {n : Nat} {a : ActP} : a ∈ actsL lo n ↔ 0 < lo ∧ ∃ i : Nat, i < n ∧ a = (2, (i : Int)) := by
  unfold actsL
  rw [List.mem_filterMap]
  constructor
  · rintro ⟨i, hi, h⟩
    split at h
    · rename_i hl
      cases h
      exact ⟨hl, i, List.mem_range.1 hi, rfl⟩
    · cases h
  · rintro ⟨hl, i, hi, rfl⟩
    exact ⟨i, List.mem_range.2 hi, by rw [if_pos hl]⟩
theorem mem_actsF {am : Int} {accs : List V2} {n : Nat} {a : ActP} : a ∈ actsF am accs n ↔ 0 < am ∧ ∃ i : Nat, i < n ∧ 0 < (accs.getD i []).length ∧ a = (3, (i : Int)) := by
  unfold actsF
  rw [List.mem_filterMap]
  constructor
  · rintro ⟨i, hi, h⟩
    split at h
    · rename_i hl
      cases h
      exact ⟨hl.1, i, List.mem_range.1 hi, hl.2, rfl⟩
    · cases h
  · rintro ⟨hl, i, hi, h0, rfl⟩
    exact ⟨i, List.mem_range.2 hi, by rw [if_pos ⟨hl, h0⟩]⟩
theorem mem_actsX {s : XpS} {a : ActP} (h : a ∈ actsX s) : (∃ i : Nat, i < s.g.pks.length ∧ a = (1, (i : Int))) ∨ (0 < s.lo ∧ ∃ i : Nat, i < s.g.pks.length ∧ a = (2, (i : Int))) ∨ (0 < s.am ∧ ∃ i : Nat, i < s.g.accs.length ∧ a = (3, (i : Int))) := by
  unfold actsX at h
  rcases List.mem_append.1 h with h | h
  · rcases List.mem_append.1 h with h | h
    · exact .inl (mem_actsD.1 h)
    · exact .inr (.inl (mem_actsL.1 h))
  · obtain ⟨h1, i, h2, _, h3⟩ := mem_actsF.1 h
    exact .inr (.inr ⟨h1, i, h2, h3⟩)
theorem acts_first {s : XpS} (h : s.g.pks ≠ []) : ((1, 0) : ActP) ∈ actsX s := by
  unfold actsX
  exact List.mem_append_left _ (List.mem_append_left _ (mem_actsD.2 ⟨0, List.length_pos_iff.2 h, rfl⟩))
theorem acts_nil {s : XpS} (h : s.g.pks = []) (ha : s.am = 0) : actsX s = [] := by
  unfold actsX actsD actsL actsF
  rw [h, ha]
  simp
/-- What a step may do. -/
inductive XCase (s : XpS) (a : ActP) : XpS → Prop
  | del (i : Nat) (hi : i < s.g.pks.length) (ha : a = (1, (i : Int))) : XCase s a { s with g := delivS s.g i }
  | lose (i : Nat) (hi : i < s.g.pks.length) (hl : 0 < s.lo) (ha : a = (2, (i : Int))) : XCase s a { s with g := { s.g with pks := delL s.g.pks i }, lo := s.lo - 1 }
  | forg (i : Nat) (hi : i < s.g.accs.length) (hl : 0 < s.am) (ha : a = (3, (i : Int))) : XCase s a { s with g := forgG s.g i, am := s.am - 1 }
theorem perf_case {s : XpS} {a : ActP} (h : a ∈ actsX s) : XCase s a (perfX s a) := by
  have hp := mem_actsX h
  unfold perfX
  rw [if_pos h]
  rcases hp with ⟨i, hi, rfl⟩ | ⟨hl, i, hi, rfl⟩ | ⟨hl, i, hi, rfl⟩
  · rw [if_pos rfl]
    exact .del i hi rfl
  · rw [if_neg (show ¬ ((2 : Int) = 1) by decide), if_pos rfl]
    exact .lose i hi hl rfl
  · rw [if_neg (show ¬ ((3 : Int) = 1) by decide), if_neg (show ¬ ((3 : Int) = 2) by decide)]
    exact .forg i hi hl rfl
/-! ### what is right -/
def allIns (ins : List (List V2)) : V2 := ins.foldl (fun a l => l.foldl (mergeI true) a) []
def inpX (g : GrS) (d : DeS) : Option V2 := if 0 ≤ d.prop ∧ 0 ≤ d.input then (g.ins[d.prop.toNat]?).bind fun l => l[d.input.toNat]? else none
def compI (a b : V2) : Int := if a = b then 0 else if leI a b = true then 1 else if leI b a = true then 2 else 3
def safeAt (g : GrS) (all : V2) (i : Nat) (d : DeS) : Bool := match inpX g d with
  | none => false
  | some own => leI own d.v && (leI d.v all && (g.decs.take i).all fun o => decide (compI d.v o.v ≠ 3))
def safeG (g : GrS) : Bool := (List.range g.decs.length).all fun i => match g.decs[i]? with
  | none => true
  | some d => safeAt g (allIns g.ins) i d
/-! ### the search -/
structure Fd where
  s : XpS
  fr : Nat
  act : ActP
  dep : Nat
structure ExS where
  fds : List Fd
  steps : Nat
  fin : Nat
  dep : Nat
inductive ExO where
  | go (e : ExS)
  | long
  | bad (e : ExS)
def finN (s : XpS) : Nat := if s.g.pks.length = 0 then 1 else 0
def pushX (e : ExS) (i : Nat) (f : Fd) (a : ActP) (nx : XpS) : ExS := ⟨e.fds ++ [⟨nx, i, a, f.dep + 1⟩], e.steps + 1, e.fin + finN nx, max e.dep (f.dep + 1)⟩
def knownX (e : ExS) (nx : XpS) : Bool := decide (keyN nx ∈ e.fds.map fun d => keyN d.s)
def oneX (lim i : Nat) (f : Fd) (a : ActP) (e : ExS) : ExO :=
  let nx := canX (perfX f.s a)
  if knownX e nx = true then .go { e with steps := e.steps + 1 }
  else if e.fds.length = lim then .long
  else if safeG nx.g = true then .go (pushX e i f a nx) else .bad (pushX e i f a nx)
def innerX (lim i : Nat) (f : Fd) : List ActP → ExS → ExO
  | [], e => .go e
  | a :: l, e => match oneX lim i f a e with
    | .go e' => innerX lim i f l e'
    | o => o
def outerX (lim : Nat) : Nat → Nat → ExS → ExO
  | 0, _, e => .go e
  | n + 1, i, e => match e.fds[i]? with
    | none => .go e
    | some f => match innerX lim i f (actsX f.s) e with
      | .go e' => outerX lim n (i + 1) e'
      | o => o
def firstX (s : XpS) : ExS := ⟨[⟨s, 0, (0, 0), 0⟩], 0, finN s, 0⟩
def exploreX (lim : Nat) (s : XpS) : ExO := if safeG s.g = true then outerX lim lim 0 (firstX s) else .bad (firstX s)
def schedX (fds : List Fd) : Nat → Nat → List ActP
  | 0, _ => []
  | n + 1, i => if i = 0 then [] else match fds[i]? with
    | none => []
    | some f => schedX fds n f.fr ++ [f.act]
/-! ### what holds while it runs -/
structure InvF (s0 : XpS) (L : List Fd) : Prop where
  z : ∃ f, L[0]? = some f ∧ f.s = s0 ∧ f.dep = 0
  st : ∀ (j : Nat) f, 0 < j → L[j]? = some f → f.fr < j ∧ ∃ q, L[f.fr]? = some q ∧ f.act ∈ actsX q.s ∧ f.s = canX (perfX q.s f.act) ∧ f.dep = q.dep + 1
  nd : L.Pairwise fun x y => x.s ≠ y.s
  mono : L.Pairwise fun x y => x.dep ≤ y.dep
theorem getD_last {α : Type} {L : List α} {x : α} {j : Nat} {y : α} (h : (L ++ [x])[j]? = some y) : L[j]? = some y ∨ j = L.length ∧ y = x := by
  rw [List.getElem?_append] at h
  split at h
  · exact .inl h
  · rename_i hj
    rcases Nat.lt_or_ge (j - L.length) 1 with h1 | h1
    · have : j - L.length = 0 := by omega
      rw [this] at h
      simp at h
      exact .inr ⟨by omega, h.symm⟩
    · rw [List.getElem?_eq_none (by simpa using h1)] at h
      cases h
theorem get_app_l {α : Type} {L R : List α} {j : Nat} {y : α} (h : L[j]? = some y) : (L ++ R)[j]? = some y := by
  rw [List.getElem?_append_left (List.getElem?_eq_some_iff.1 h).1]
  exact h
theorem InvF.push {s0 : XpS} {L : List Fd} (h : InvF s0 L) {i : Nat} {f : Fd} (hf : L[i]? = some f) {a : ActP} (ha : a ∈ actsX f.s) (hn : ∀ q ∈ L, q.s ≠ canX (perfX f.s a)) (hd : ∀ q ∈ L, q.dep ≤ f.dep + 1) : InvF s0 (L ++ [⟨canX (perfX f.s a), i, a, f.dep + 1⟩]) := by
  obtain ⟨g, hg, h1, h2⟩ := h.z
  have hil := (List.getElem?_eq_some_iff.1 hf).1
  refine ⟨⟨g, get_app_l hg, h1, h2⟩, fun j q hj hq => ?_, ?_, ?_⟩
  · rcases getD_last hq with hq | ⟨rfl, rfl⟩
    · obtain ⟨g1, p, g2, g3⟩ := h.st j q hj hq
      exact ⟨g1, p, get_app_l g2, g3⟩
    · exact ⟨hil, f, get_app_l hf, ha, rfl, rfl⟩
  · rw [List.pairwise_append]
    exact ⟨h.nd, List.pairwise_singleton _ _, fun x hx y hy => by
      rw [List.mem_singleton] at hy
      subst hy
      exact hn x hx⟩
  · rw [List.pairwise_append]
    exact ⟨h.mono, List.pairwise_singleton _ _, fun x hx y hy => by
      rw [List.mem_singleton] at hy
      subst hy
      exact hd x hx⟩
/-- Every state that was found has what a first state has and every step keeps. -/
theorem InvF.all {s0 : XpS} {L : List Fd} (h : InvF s0 L) {J : Nat → XpS → Prop} (h0 : J 0 s0) (hs : ∀ k s a, J k s → a ∈ actsX s → J (k + 1) (canX (perfX s a))) : ∀ (j : Nat) f, L[j]? = some f → J f.dep f.s := by
  intro j
  induction j using Nat.strongRecOn with
  | _ j ih =>
    intro f hf
    by_cases hj : j = 0
    · subst hj
      obtain ⟨g, hg, h1, h2⟩ := h.z
      rw [hf] at hg
      cases hg
      rw [h1, h2]
      exact h0
    · obtain ⟨g1, q, g2, g3, g4, g5⟩ := h.st j f (by omega) hf
      rw [g4, g5]
      exact hs _ _ _ (ih _ g1 q g2) g3
theorem InvF.dep_le {s0 : XpS} {L : List Fd} (h : InvF s0 L) : ∀ (j : Nat) f, L[j]? = some f → f.dep ≤ j := by
  intro j
  induction j using Nat.strongRecOn with
  | _ j ih =>
    intro f hf
    by_cases hj : j = 0
    · subst hj
      obtain ⟨g, hg, h1, h2⟩ := h.z
      rw [hf] at hg
      cases hg
      omega
    · obtain ⟨g1, q, g2, g3, g4, g5⟩ := h.st j f (by omega) hf
      have := ih _ g1 q g2
      omega
/-- The numbers that are counted. -/
structure InvN (lim : Nat) (e : ExS) : Prop where
  len : e.fds.length ≤ lim
  fin : e.fin = (e.fds.map fun f => finN f.s).sum
  dep : (∀ f ∈ e.fds, f.dep ≤ e.dep) ∧ ∃ f ∈ e.fds, f.dep = e.dep
def safeL (L : List Fd) : Prop := ∀ f ∈ L, safeG f.s.g = true
/-- Found before place i is closed. -/
def Closed (L : List Fd) (i : Nat) : Prop := ∀ (j : Nat) f, j < i → L[j]? = some f → ∀ a ∈ actsX f.s, ∃ q ∈ L, q.s = canX (perfX f.s a)
structure InvX (lim : Nat) (s0 : XpS) (e : ExS) : Prop where
  f : InvF s0 e.fds
  n : InvN lim e
  s : safeL e.fds
structure BadX (lim : Nat) (s0 : XpS) (e : ExS) : Prop where
  f : InvF s0 e.fds
  n : InvN lim e
  s : ∃ L x, e.fds = L ++ [x] ∧ safeL L ∧ safeG x.s.g = false ∧ x.dep = e.dep
theorem known_iff {e : ExS} {nx : XpS} : knownX e nx = true ↔ ∃ q ∈ e.fds, q.s = nx := by
  unfold knownX
  rw [decide_eq_true_eq, List.mem_map]
  constructor
  · rintro ⟨q, hq, h⟩
    exact ⟨q, hq, keyN_inj h⟩
  · rintro ⟨q, hq, rfl⟩
    exact ⟨q, hq, rfl⟩
theorem InvN.push {lim : Nat} {e : ExS} (h : InvN lim e) (hl : e.fds.length ≠ lim) (i : Nat) (f : Fd) (a : ActP) (nx : XpS) (hd : ∀ q ∈ e.fds, q.dep ≤ f.dep + 1) : InvN lim (pushX e i f a nx) ∧ (pushX e i f a nx).dep = f.dep + 1 := by
  have hm : max e.dep (f.dep + 1) = f.dep + 1 := by
    obtain ⟨q, hq, h1⟩ := h.dep.2
    have := hd q hq
    omega
  refine ⟨⟨?_, ?_, ?_, ?_⟩, hm⟩
  · show (e.fds ++ [_]).length ≤ lim
    rw [List.length_append, List.length_singleton]
    have := h.len
    omega
  · show e.fin + finN nx = ((e.fds ++ [_]).map _).sum
    rw [List.map_append, List.sum_append, ← h.fin]
    simp
  · show ∀ q ∈ e.fds ++ [_], q.dep ≤ max e.dep (f.dep + 1)
    rw [hm]
    intro q hq
    rcases List.mem_append.1 hq with hq | hq
    · exact hd q hq
    · rw [List.mem_singleton] at hq
      subst hq
      exact Nat.le_refl _
  · show ∃ q ∈ e.fds ++ [_], q.dep = max e.dep (f.dep + 1)
    rw [hm]
    exact ⟨_, List.mem_append_right _ (List.mem_singleton.2 rfl), rfl⟩
theorem InvX.step {lim : Nat} {s0 : XpS} {e : ExS} (h : InvX lim s0 e) (k : Nat) : InvX lim s0 { e with steps := k } := ⟨h.f, ⟨h.n.len, h.n.fin, h.n.dep⟩, h.s⟩
/-- One step is looked at. -/
theorem one_is {lim : Nat} {s0 : XpS} {e : ExS} (h : InvX lim s0 e) {i : Nat} {f : Fd} (hf : e.fds[i]? = some f) {a : ActP} (ha : a ∈ actsX f.s) (hd : ∀ q ∈ e.fds, q.dep ≤ f.dep + 1) :
    match oneX lim i f a e with
    | .go e' => InvX lim s0 e' ∧ (∃ R, e'.fds = e.fds ++ R) ∧ (∀ q ∈ e'.fds, q.dep ≤ f.dep + 1) ∧ ∃ q ∈ e'.fds, q.s = canX (perfX f.s a)
    | .long => True
    | .bad e' => BadX lim s0 e' := by
  unfold oneX
  dsimp only
  by_cases hk : knownX e (canX (perfX f.s a)) = true
  · rw [if_pos hk]
    exact ⟨h.step _, ⟨[], by simp⟩, hd, known_iff.1 hk⟩
  · rw [if_neg hk]
    by_cases hl : e.fds.length = lim
    · rw [if_pos hl]
      trivial
    · rw [if_neg hl]
      have hnew : ∀ q ∈ e.fds, q.s ≠ canX (perfX f.s a) := fun q hq he => hk (known_iff.2 ⟨q, hq, he⟩)
      obtain ⟨hN, hdp⟩ := h.n.push hl i f a (canX (perfX f.s a)) hd
      have hF := h.f.push hf ha hnew hd
      by_cases hs : safeG (canX (perfX f.s a)).g = true
      · rw [if_pos hs]
        refine ⟨⟨hF, hN, fun q hq => ?_⟩, ⟨_, rfl⟩, fun q hq => ?_, ⟨_, List.mem_append_right _ (List.mem_singleton.2 rfl), rfl⟩⟩
        · rcases List.mem_append.1 hq with hq | hq
          · exact h.s q hq
          · rw [List.mem_singleton] at hq
            subst hq
            exact hs
        · rcases List.mem_append.1 hq with hq | hq
          · exact hd q hq
          · rw [List.mem_singleton] at hq
            subst hq
            exact Nat.le_refl _
      · rw [if_neg hs]
        exact ⟨hF, hN, e.fds, _, rfl, h.s, by simpa using hs, hdp.symm⟩
theorem inner_is {lim : Nat} {s0 : XpS} {i : Nat} {f : Fd} : ∀ (l : List ActP) {e : ExS}, InvX lim s0 e → e.fds[i]? = some f → (∀ a ∈ l, a ∈ actsX f.s) → (∀ q ∈ e.fds, q.dep ≤ f.dep + 1) →
    match innerX lim i f l e with
    | .go e' => InvX lim s0 e' ∧ (∃ R, e'.fds = e.fds ++ R) ∧ (∀ q ∈ e'.fds, q.dep ≤ f.dep + 1) ∧ ∀ a ∈ l, ∃ q ∈ e'.fds, q.s = canX (perfX f.s a)
    | .long => True
    | .bad e' => BadX lim s0 e'
  | [], e, h, hf, ha, hd => ⟨h, ⟨[], by simp⟩, hd, fun a ha => by cases ha⟩
  | a :: l, e, h, hf, ha, hd => by
    have h1 := one_is h hf (ha a (by simp)) hd
    rw [innerX]
    generalize oneX lim i f a e = o at h1
    cases o with
    | go e' =>
      obtain ⟨g1, ⟨R, hR⟩, g3, q, hq, g4⟩ := h1
      have h2 := inner_is l g1 (i := i) (f := f) (by rw [hR]; exact get_app_l hf) (fun b hb => ha b (by simp [hb])) g3
      dsimp only at h2 ⊢
      generalize innerX lim i f l e' = o2 at h2
      cases o2 with
      | go e2 =>
        obtain ⟨k1, ⟨R2, hR2⟩, k3, k4⟩ := h2
        refine ⟨k1, ⟨R ++ R2, by rw [hR2, hR, List.append_assoc]⟩, k3, fun b hb => ?_⟩
        rcases List.mem_cons.1 hb with rfl | hb
        · exact ⟨q, by rw [hR2]; exact List.mem_append_left _ hq, g4⟩
        · exact k4 b hb
      | long => trivial
      | bad e2 => exact h2
    | long => trivial
    | bad e' => exact h1
theorem outer_is {lim : Nat} {s0 : XpS} : ∀ (n i : Nat) {e : ExS}, InvX lim s0 e → lim ≤ i + n → (∀ (f : Fd) , e.fds[i]? = some f → ∀ q ∈ e.fds, q.dep ≤ f.dep + 1) → i ≤ e.fds.length → Closed e.fds i →
    match outerX lim n i e with
    | .go e' => InvX lim s0 e' ∧ Closed e'.fds e'.fds.length
    | .long => True
    | .bad e' => BadX lim s0 e'
  | 0, i, e, h, hn, hd, hi, hc => ⟨h, by
    have := h.n.len
    have : i = e.fds.length := by omega
    rw [← this]
    exact hc⟩
  | n + 1, i, e, h, hn, hd, hi, hc => by
    rw [outerX]
    cases hf : e.fds[i]? with
    | none =>
      have := List.getElem?_eq_none_iff.1 hf
      have : i = e.fds.length := by omega
      exact ⟨h, by rw [← this]; exact hc⟩
    | some f =>
      have h1 := inner_is (actsX f.s) h hf (fun a ha => ha) (hd f hf)
      dsimp only
      generalize innerX lim i f (actsX f.s) e = o at h1
      cases o with
      | go e' =>
        obtain ⟨g1, ⟨R, hR⟩, g3, g4⟩ := h1
        have hil := (List.getElem?_eq_some_iff.1 hf).1
        refine outer_is n (i + 1) g1 (by omega) (fun f2 hf2 q hq => ?_) (by rw [hR, List.length_append]; omega) (fun j fj hj hfj a ha => ?_)
        · have hm : f.dep ≤ f2.dep := by
            have hff : e'.fds[i]? = some f := by rw [hR]; exact get_app_l hf
            have hmono := List.pairwise_iff_getElem.1 g1.f.mono i (i + 1) (List.getElem?_eq_some_iff.1 hff).1 (List.getElem?_eq_some_iff.1 hf2).1 (by omega)
            rw [(List.getElem?_eq_some_iff.1 hff).2, (List.getElem?_eq_some_iff.1 hf2).2] at hmono
            exact hmono
          have := g3 q hq
          omega
        · by_cases hji : j = i
          · subst hji
            have : e'.fds[j]? = some f := by rw [hR]; exact get_app_l hf
            rw [hfj] at this
            cases this
            exact g4 a ha
          · have hjl : e.fds[j]? = some fj := by
              rw [hR, List.getElem?_append_left (by omega)] at hfj
              exact hfj
            obtain ⟨q, hq, h5⟩ := hc j fj (by omega) hjl a ha
            exact ⟨q, by rw [hR]; exact List.mem_append_left _ hq, h5⟩
      | long => trivial
      | bad e' => exact h1
theorem first_X {lim : Nat} (hl : 1 ≤ lim) {s0 : XpS} (hs : safeG s0.g = true) : InvX lim s0 (firstX s0) :=
  ⟨⟨⟨_, rfl, rfl, rfl⟩, fun j f hj hf => by
    have : j < 1 := (List.getElem?_eq_some_iff.1 hf).1
    omega, List.pairwise_singleton _ _, List.pairwise_singleton _ _⟩, ⟨hl, by simp [firstX], fun f hf => by
    rw [List.mem_singleton.1 hf]
    exact Nat.le_refl _, ⟨_, List.mem_singleton.2 rfl, rfl⟩⟩, fun f hf => by
    rw [List.mem_singleton.1 hf]
    exact hs⟩
theorem explore_is {lim : Nat} (hl : 1 ≤ lim) {s0 : XpS} (hs : safeG s0.g = true) :
    match exploreX lim s0 with
    | .go e => InvX lim s0 e ∧ Closed e.fds e.fds.length
    | .long => True
    | .bad e => BadX lim s0 e := by
  unfold exploreX
  rw [if_pos hs]
  exact outer_is lim 0 (first_X hl hs) (by omega) (fun f hf q hq => by
    rw [List.mem_singleton.1 hq]
    exact Nat.zero_le _) (Nat.zero_le _) fun j f hj => by omega
/-- The schedule of a state leads to it. -/
inductive Leads : XpS → List ActP → XpS → Prop
  | nil (s : XpS) : Leads s [] s
  | snoc {s t : XpS} {l : List ActP} {a : ActP} (h : Leads s l t) (ha : a ∈ actsX t) : Leads s (l ++ [a]) (canX (perfX t a))
theorem sched_is {s0 : XpS} {L : List Fd} (h : InvF s0 L) : ∀ (n j : Nat) f, j ≤ n → L[j]? = some f → (schedX L n j).length = f.dep ∧ Leads s0 (schedX L n j) f.s
  | 0, j, f, hj, hf => by
    have : j = 0 := by omega
    subst this
    obtain ⟨g, hg, h1, h2⟩ := h.z
    rw [hf] at hg
    cases hg
    rw [schedX, h1, h2]
    exact ⟨rfl, .nil _⟩
  | n + 1, j, f, hj, hf => by
    rw [schedX]
    by_cases hz : j = 0
    · subst hz
      obtain ⟨g, hg, h1, h2⟩ := h.z
      rw [hf] at hg
      cases hg
      rw [if_pos rfl, h1, h2]
      exact ⟨rfl, .nil _⟩
    · rw [if_neg hz, hf]
      obtain ⟨g1, q, g2, g3, g4, g5⟩ := h.st j f (by omega) hf
      obtain ⟨k1, k2⟩ := sched_is h n f.fr q (by omega) g2
      dsimp only
      rw [List.length_append, k1, g4, g5]
      exact ⟨rfl, .snoc k2 g3⟩
end Go.Proofs.YtphlhadgcfndhaaGreatDoor.Abs
end
section
namespace Go.Proofs.YtphlhadgcfndhaaGreatDoor.Abs
open Go Go.RowKit
set_option linter.unusedVariables false
set_option linter.unusedSimpArgs false
set_option maxHeartbeats 4000000
theorem fold1 : ∀ (l : List V2) (a : V2), V4 a → (∀ v ∈ l, V4 v) → V4 (l.foldl (mergeI true) a) ∧ Sub a (l.foldl (mergeI true) a) ∧ ∀ v ∈ l, Sub v (l.foldl (mergeI true) a)
  | [], a, ha, _ => ⟨ha, Sub.refl _, fun v hv => by cases hv⟩
  | x :: l, a, ha, hl => by
    have hx := hl x (by simp)
    obtain ⟨h1, h2, h3⟩ := fold1 l (mergeI true a x) (ha.merge hx) fun v hv => hl v (by simp [hv])
    refine ⟨h1, (sub_l ha.val hx.val).trans h2, fun v hv => ?_⟩
    rcases List.mem_cons.1 hv with rfl | hv
    · exact (sub_r ha.val hx.val).trans h2
    · exact h3 v hv
theorem fold2 : ∀ (ls : List (List V2)) (a : V2), V4 a → (∀ l ∈ ls, ∀ v ∈ l, V4 v) →
    V4 (ls.foldl (fun a l => l.foldl (mergeI true) a) a) ∧ Sub a (ls.foldl (fun a l => l.foldl (mergeI true) a) a) ∧ ∀ l ∈ ls, ∀ v ∈ l, Sub v (ls.foldl (fun a l => l.foldl (mergeI true) a) a)
  | [], a, ha, _ => ⟨ha, Sub.refl _, fun v hv => by cases hv⟩
  | l :: ls, a, ha, hl => by
    obtain ⟨k1, k2, k3⟩ := fold1 l a ha (hl l (by simp))
    obtain ⟨h1, h2, h3⟩ := fold2 ls (l.foldl (mergeI true) a) k1 fun v hv => hl v (by simp [hv])
    refine ⟨h1, k2.trans h2, fun q hq v hv => ?_⟩
    rcases List.mem_cons.1 hq with rfl | hq
    · exact (k3 v hv).trans h2
    · exact h3 q hq v hv
theorem all_4 {ins : List (List V2)} (h : ∀ l ∈ ins, ∀ v ∈ l, V4 v) : V4 (allIns ins) := (fold2 ins [] V4.nil h).1
theorem all_sub {ins : List (List V2)} (h : ∀ l ∈ ins, ∀ v ∈ l, V4 v) : ∀ l ∈ ins, ∀ v ∈ l, Sub v (allIns ins) := (fold2 ins [] V4.nil h).2.2
/-- Decisions are right where they name inputs, and form a chain. -/
theorem safe_of {g : GrS} {n N : Nat} (hw : GrW g n N) (hv : InvV (allIns g.ins) g) (hc : ∀ d ∈ g.decs, ∀ e ∈ g.decs, Sub d.v e.v ∨ Sub e.v d.v) : safeG g = true := by
  unfold safeG
  rw [List.all_eq_true]
  intro i hi
  cases hd : g.decs[i]? with
  | none => rfl
  | some d =>
    have hm := List.mem_of_getElem? hd
    obtain ⟨h1, q, l, p, v, e1, e2, e3, e4, e5, e6, e7⟩ := hv.de d hm
    have hd4 := hw.d d hm
    have hv4 := (hw.i l (List.mem_of_getElem? e2)).2 v (List.mem_of_getElem? e4)
    have ha4 : V4 (allIns g.ins) := all_4 fun l hl => (hw.i l hl).2
    show safeAt g (allIns g.ins) i d = true
    have hin : inpX g d = some v := by
      unfold inpX
      rw [if_pos ⟨by omega, e3⟩, e1, show ((q : Int)).toNat = q from rfl, e2]
      exact e4
    unfold safeAt
    rw [hin]
    simp only [Bool.and_eq_true]
    refine ⟨(leI_sub hv4.val hd4.val).2 e5, (leI_sub hd4.val ha4.val).2 h1, ?_⟩
    rw [List.all_eq_true]
    intro o ho
    have hom := List.mem_of_mem_take ho
    have ho4 := hw.d o hom
    rw [decide_eq_true_eq]
    unfold compI
    split
    · decide
    · split
      · decide
      · rename_i h2
        rw [if_pos]
        · decide
        · rcases hc d hm o hom with h3 | h3
          · exact absurd ((leI_sub hd4.val ho4.val).2 h3) h2
          · exact (leI_sub ho4.val hd4.val).2 h3
theorem safe_nil {g : GrS} (h : g.decs = []) : safeG g = true := by
  unfold safeG
  rw [h]
  rfl
/-! ### chains -/
theorem can_C {H : Nat → V2 → Prop} {base : List V2} {g : GrS} (h : InvC H base g) : InvC H base (canG g) :=
  ⟨h.val, h.ch, h.up, h.bs, fun k hk => h.rp k (sortP_mem.1 hk), fun k hk => h.pk k (sortP_mem.1 hk), h.ak, fun d hd => by
    obtain ⟨e, he, rfl⟩ := List.mem_map.1 hd
    exact h.de e he⟩
theorem lose_C {H : Nat → V2 → Prop} {base : List V2} {g : GrS} (h : InvC H base g) (i : Nat) : InvC H base { g with pks := delL g.pks i } :=
  ⟨h.val, h.ch, h.up, h.bs, fun k hk => h.rp k (mem_delL hk), fun k hk => h.pk k (mem_delL hk), h.ak, h.de⟩
/-! ### small numbers -/
structure XB (g : GrS) : Prop where
  r : ∀ (i : Nat) p x, g.props[i]? = some p → g.nxt[i]? = some x → p.r ≤ 1 + sizV p.v + x
  k : ∀ k ∈ g.pks, 0 ≤ k.round ∧ k.round ≤ 16
  a : ∀ p ∈ g.props, ∀ a ∈ p.acks, 0 ≤ a ∧ a < 12
theorem XB.rle {g : GrS} {n N : Nat} (hw : GrW g n N) (h : XB g) {p : PrS} (hp : p ∈ g.props) : 0 ≤ p.r ∧ p.r ≤ 16 := by
  obtain ⟨i, hi⟩ := List.mem_iff_getElem?.1 hp
  have hil := (List.getElem?_eq_some_iff.1 hi).1
  have e1 := hw.nn.x
  have e3 := hw.nn.p
  obtain ⟨x, hx⟩ : ∃ x, g.nxt[i]? = some x := ⟨_, List.getElem?_eq_getElem (by omega)⟩
  have h1 := h.r i p x hi hx
  have h2 := (siz_le (hw.p p hp).v).2
  have h3 := (hw.x i x hx).2
  have h4 := (hw.p p hp).r0
  omega
theorem can_B {g : GrS} (h : XB g) : XB (canG g) := ⟨h.r, fun k hk => h.k k (sortP_mem.1 hk), h.a⟩
theorem lose_B {g : GrS} (h : XB g) (i : Nat) : XB { g with pks := delL g.pks i } := ⟨h.r, fun k hk => h.k k (mem_delL hk), h.a⟩
theorem forg_B {g : GrS} (h : XB g) (i : Nat) : XB (forgG g i) := ⟨h.r, h.k, h.a⟩
theorem new_B {n : Nat} {ins : List (List V2)} (hv : ∀ l ∈ ins, ∀ v ∈ l, V4 v) : XB (newG n ins) := by
  have h := new_is n ins
  refine ⟨fun i p x hp hx => ?_, fun k hk => ?_, fun p hp a ha => ?_⟩
  · obtain ⟨l, hl, rfl⟩ := new_pr hp
    have h0 := (siz_le (headV_4 (hv l (List.mem_of_getElem? hl)))).1
    rw [h.nxt] at hx
    have := (List.mem_replicate.1 (List.mem_of_getElem? hx)).2
    show (1 : Int) ≤ 1 + sizV (headV l) + x
    omega
  · obtain ⟨i, l, _, _, h1⟩ := h.pk k hk
    obtain ⟨a, _, rfl⟩ := mem_propsTo.1 h1
    show (0 : Int) ≤ 1 ∧ (1 : Int) ≤ 16
    omega
  · obtain ⟨i, hi⟩ := List.mem_iff_getElem?.1 hp
    obtain ⟨l, hl, rfl⟩ := new_pr hi
    cases ha
theorem case_B {g : GrS} {n N : Nat} (hw : GrW g n N) (h : XB g) {i : Nat} {k : PkS} (hk : g.pks[i]? = some k) {g' : GrS} (c : DCase g i k g') : XB g' := by
  have hkm := List.mem_of_getElem? hk
  obtain ⟨hkv, hka, q, l0, hkp, hl0, hl0'⟩ := hw.k k hkm
  have hal := hw.al.2
  have hkr := h.k k hkm
  cases c with
  | ask a hr ha =>
    refine ⟨h.r, fun k2 hk2 => ?_, h.a⟩
    rcases List.mem_append.1 hk2 with hk2 | hk2
    · exact h.k k2 (mem_delL hk2)
    · rw [List.mem_singleton.1 hk2]
      exact hkr
  | idle p hr hp hdc => exact ⟨h.r, fun k2 hk2 => h.k k2 (mem_delL hk2), h.a⟩
  | again p hr hp hdc hkr2 hle =>
    have hpm := List.mem_of_getElem? hp
    have hpw := hw.p p hpm
    have hs := siz_lt hpw.v hkv hle
    have hN := nextS_W hpw hkv
    have hnr : ∀ x, g.nxt[k.prop.toNat]? = some x → (nextS p k.v).r ≤ 1 + sizV (nextS p k.v).v + x := fun x hx => by
      have := h.r _ p x hp hx
      show p.r + 1 ≤ 1 + sizV (mergeI true p.v k.v) + x
      omega
    have e1 := hw.nn.x
    have e3 := hw.nn.p
    have hpl := (List.getElem?_eq_some_iff.1 hp).1
    obtain ⟨x, hx⟩ : ∃ x, g.nxt[k.prop.toNat]? = some x := ⟨_, List.getElem?_eq_getElem (by omega)⟩
    have hr16 : 0 ≤ (nextS p k.v).r ∧ (nextS p k.v).r ≤ 16 := by
      have h1 := hnr x hx
      have h2 := (siz_le hN.v).2
      have h3 := (hw.x _ x hx).2
      have h4 := hN.r0
      omega
    refine ⟨fun j p2 x2 hp2 hx2 => ?_, fun k2 hk2 => ?_, fun p2 hp2 a ha => ?_⟩
    · rcases get_set hp2 with ⟨rfl, rfl⟩ | ⟨_, hp2⟩
      · exact hnr x2 hx2
      · exact h.r j p2 x2 hp2 hx2
    · rcases List.mem_append.1 hk2 with hk2 | hk2
      · exact h.k k2 (mem_delL hk2)
      · obtain ⟨a, _, rfl⟩ := mem_propsTo.1 hk2
        exact hr16
    · rcases List.mem_or_eq_of_mem_set hp2 with hp2 | rfl
      · exact h.a p2 hp2 a ha
      · cases ha
  | ack p hr hp hdc hkr2 hle hn =>
    have hpm := List.mem_of_getElem? hp
    refine ⟨fun j p2 x2 hp2 hx2 => ?_, fun k2 hk2 => h.k k2 (mem_delL hk2), fun p2 hp2 a ha => ?_⟩
    · rcases get_set hp2 with ⟨rfl, rfl⟩ | ⟨_, hp2⟩
      · exact h.r _ p x2 hp hx2
      · exact h.r j p2 x2 hp2 hx2
    · rcases List.mem_or_eq_of_mem_set hp2 with hp2 | rfl
      · exact h.a p2 hp2 a ha
      · rcases ins_mem.1 ha with rfl | ha
        · omega
        · exact h.a p hpm a ha
  | last p l x hr hp hdc hkr2 hle hn hl hx hv =>
    have hpm := List.mem_of_getElem? hp
    refine ⟨fun j p2 x2 hp2 hx2 => ?_, fun k2 hk2 => h.k k2 (mem_delL hk2), fun p2 hp2 a ha => ?_⟩
    · rcases get_set hp2 with ⟨rfl, rfl⟩ | ⟨_, hp2⟩
      · exact h.r _ p x2 hp hx2
      · exact h.r j p2 x2 hp2 hx2
    · rcases List.mem_or_eq_of_mem_set hp2 with hp2 | rfl
      · exact h.a p2 hp2 a ha
      · rcases ins_mem.1 ha with rfl | ha
        · omega
        · exact h.a p hpm a ha
  | next p l x v hr hp hdc hkr2 hle hn hl hx hv =>
    have hpm := List.mem_of_getElem? hp
    have hpw := hw.p p hpm
    have hvv := (hw.i l (List.mem_of_getElem? hl)).2 v (List.mem_of_getElem? hv)
    have hs := siz_mono (sub_l hpw.v.val hvv.val)
    have hN := nextS_W hpw hvv
    have hnr : (nextS p v).r ≤ 1 + sizV (nextS p v).v + (x + 1) := by
      have := h.r _ p x hp hx
      show p.r + 1 ≤ 1 + sizV (mergeI true p.v v) + (x + 1)
      omega
    have hx3 := (hw.i l (List.mem_of_getElem? hl)).1
    have hxl := (List.getElem?_eq_some_iff.1 hv).1
    have hr16 : 0 ≤ (nextS p v).r ∧ (nextS p v).r ≤ 16 := by
      have h2 := (siz_le hN.v).2
      have h3 := (hw.x _ x hx)
      have h4 := hN.r0
      omega
    refine ⟨fun j p2 x2 hp2 hx2 => ?_, fun k2 hk2 => ?_, fun p2 hp2 a ha => ?_⟩
    · rcases get_set hp2 with ⟨rfl, rfl⟩ | ⟨hne, hp2⟩
      · rcases get_set hx2 with ⟨_, rfl⟩ | ⟨hne, _⟩
        · exact hnr
        · exact absurd rfl hne
      · rcases get_set hx2 with ⟨rfl, _⟩ | ⟨_, hx2⟩
        · exact absurd rfl hne
        · exact h.r j p2 x2 hp2 hx2
    · rcases List.mem_append.1 hk2 with hk2 | hk2
      · exact h.k k2 (mem_delL hk2)
      · obtain ⟨a, _, rfl⟩ := mem_propsTo.1 hk2
        exact hr16
    · rcases List.mem_or_eq_of_mem_set hp2 with hp2 | rfl
      · exact h.a p2 hp2 a ha
      · cases ha
end Go.Proofs.YtphlhadgcfndhaaGreatDoor.Abs
end
