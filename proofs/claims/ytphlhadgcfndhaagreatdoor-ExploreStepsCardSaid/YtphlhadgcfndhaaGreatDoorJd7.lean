/- Joined for the claim: WXord WXcmp WXsort WXcan -/
import Derived.Test.YtphlhadgcfndhaaGreatDoorJd6
import Derived.Test.YtphlhadgcfndhaaGreatDoorJd5
section
namespace Go.Proofs.YtphlhadgcfndhaaGreatDoor.Abs
open Go Go.RowKit
set_option linter.unusedVariables false
set_option linter.unusedSimpArgs false
set_option maxHeartbeats 4000000
def cmpL : List Int → List Int → Int
  | [], [] => 0
  | [], _ :: _ => -1
  | _ :: _, [] => 1
  | x :: a, y :: b => if x < y then -1 else if x > y then 1 else cmpL a b
theorem cmpL_zero : ∀ {a b : List Int}, cmpL a b = 0 → a = b
  | [], [], _ => rfl
  | [], _ :: _, h => by cases h
  | _ :: _, [], h => by cases h
  | x :: a, y :: b, h => by
    rw [cmpL] at h
    split at h
    · cases h
    · split at h
      · cases h
      · rw [cmpL_zero h, show x = y by omega]
theorem cmpL_neg : ∀ a b : List Int, cmpL b a = - cmpL a b
  | [], [] => rfl
  | [], _ :: _ => rfl
  | _ :: _, [] => rfl
  | x :: a, y :: b => by
    rw [cmpL, cmpL, cmpL_neg a b]
    by_cases h1 : x < y
    · rw [if_neg (by omega), if_pos (by omega), if_pos h1]; rfl
    · by_cases h2 : x > y
      · rw [if_pos (by omega), if_neg h1, if_pos h2]
      · rw [if_neg (by omega), if_neg (by omega), if_neg h1, if_neg h2]
theorem cmpL_trans : ∀ {a b c : List Int}, cmpL a b ≤ 0 → cmpL b c ≤ 0 → cmpL a c ≤ 0
  | [], _, [], _, _ => by simp [cmpL]
  | [], _, _ :: _, _, _ => by simp [cmpL]
  | _ :: _, [], _, h, _ => by simp [cmpL] at h
  | _ :: _, _ :: _, [], _, h => by simp [cmpL] at h
  | x :: a, y :: b, z :: c, h1, h2 => by
    rw [cmpL] at h1 h2 ⊢
    split at h1
    · split at h2
      · rw [if_pos (by omega)]; omega
      · split at h2
        · omega
        · rw [if_pos (by omega)]; omega
    · split at h1
      · omega
      · split at h2
        · rw [if_pos (by omega)]; omega
        · split at h2
          · omega
          · rw [if_neg (by omega), if_neg (by omega)]
            exact cmpL_trans h1 h2
def pkL (k : PkS) : List Int := numB k.reply :: k.prop :: k.acc :: k.round :: k.v.flatMap entN
theorem cmpI_or (x y : Int) (l : List Int) : orI (cmpI x y :: l) = if x < y then -1 else if x > y then 1 else orI l := by
  rw [orI]
  unfold cmpI
  split
  · simp
  · split <;> simp
theorem cmpV_L : ∀ a b : V2, cmpV a b = cmpL (a.flatMap entN) (b.flatMap entN)
  | [], [] => rfl
  | [], _ :: _ => rfl
  | _ :: _, [] => rfl
  | x :: a, y :: b => by
    rw [cmpV, cmpV_L a b, List.flatMap_cons, List.flatMap_cons]
    show _ = cmpL (x.1 :: x.2 :: a.flatMap entN) (y.1 :: y.2 :: b.flatMap entN)
    rw [cmpL, cmpL]
    have e : cmpE x y = if x.1 < y.1 then -1 else if x.1 > y.1 then 1 else if x.2 < y.2 then -1 else if x.2 > y.2 then 1 else 0 := by
      unfold cmpE
      rw [cmpI_or, cmpI_or]
      rfl
    rw [e]
    by_cases h1 : x.1 < y.1
    · simp [h1]
    · by_cases h2 : x.1 > y.1
      · simp [h1, h2]
      · by_cases h3 : x.2 < y.2
        · simp [h1, h2, h3]
        · by_cases h4 : x.2 > y.2
          · simp [h1, h2, h3, h4]
          · simp [h1, h2, h3, h4]
theorem cmpP_L (a b : PkS) : cmpP a b = cmpL (pkL a) (pkL b) := by
  unfold cmpP pkL
  rw [cmpI_or, cmpI_or, cmpI_or, cmpI_or, cmpL, cmpL, cmpL, cmpL, cmpV_L]
  have : ∀ x : Int, orI [x] = x := fun x => by
    rw [orI]
    split
    · rfl
    · show (0 : Int) = x
      omega
  rw [this]
theorem pkL_inj {a b : PkS} (h : pkL a = pkL b) : a = b := by
  obtain ⟨a1, a2, a3, a4, a5⟩ := a
  obtain ⟨b1, b2, b3, b4, b5⟩ := b
  simp only [pkL, List.cons.injEq] at h
  obtain ⟨h1, rfl, rfl, rfl, h⟩ := h
  rw [numB_inj h1]
  have hl : a5.length = b5.length := by
    have := congrArg List.length h
    have e : ∀ v : V2, (v.flatMap entN).length = 2 * v.length := fun v => by
      induction v with
      | nil => rfl
      | cons x v ih => rw [List.flatMap_cons, List.length_append, ih, List.length_cons]; simp [entN]; omega
    rw [e, e] at this
    omega
  obtain ⟨rfl, _⟩ := pi_list pi_ent (r := []) (r' := []) hl (by simpa using h)
  rfl
theorem cmpP_zero {a b : PkS} (h : cmpP a b = 0) : a = b := pkL_inj (cmpL_zero (by rw [← cmpP_L]; exact h))
theorem cmpP_neg (a b : PkS) : cmpP b a = - cmpP a b := by rw [cmpP_L, cmpP_L, cmpL_neg]
theorem cmpP_trans {a b c : PkS} (h1 : cmpP a b ≤ 0) (h2 : cmpP b c ≤ 0) : cmpP a c ≤ 0 := by
  rw [cmpP_L] at *
  exact cmpL_trans h1 h2
/-- The last first. -/
def Desc (l : List PkS) : Prop := l.Pairwise fun x y => 0 ≤ cmpP x y
theorem insR_perm (x : PkS) : ∀ l : List PkS, (insR x l).Perm (x :: l)
  | [] => .refl _
  | y :: l => by
    rw [insR]
    split
    · exact ((insR_perm x l).cons y).trans (.swap x y l)
    · exact .refl _
theorem insR_desc (x : PkS) : ∀ {l : List PkS}, Desc l → Desc (insR x l)
  | [], _ => by simp [insR, Desc]
  | y :: l, h => by
    obtain ⟨h1, h2⟩ := List.pairwise_cons.1 h
    rw [insR]
    split
    · rename_i hlt
      refine List.pairwise_cons.2 ⟨fun z hz => ?_, insR_desc x h2⟩
      rcases insR_mem.1 hz with rfl | hz
      · rw [cmpP_neg]; omega
      · exact h1 z hz
    · rename_i hge
      refine List.pairwise_cons.2 ⟨fun z hz => ?_, h⟩
      rcases List.mem_cons.1 hz with rfl | hz
      · omega
      · have a1 := h1 z hz
        have a2 : cmpP z x ≤ 0 := cmpP_trans (b := y) (by rw [cmpP_neg]; omega) (by rw [cmpP_neg]; omega)
        rw [cmpP_neg] at a2
        omega
theorem sortR_perm : ∀ (r l : List PkS), (sortR l r).Perm (l ++ r)
  | [], l => by rw [List.append_nil]; exact .refl _
  | x :: r, l => (sortR_perm r (insR x l)).trans (((insR_perm x l).append_right r).trans (by
    show (x :: l ++ r).Perm (l ++ x :: r)
    exact List.perm_middle.symm))
theorem sortR_desc : ∀ (r : List PkS) {l : List PkS}, Desc l → Desc (sortR l r)
  | [], l, h => h
  | x :: r, l, h => sortR_desc r (insR_desc x h)
theorem desc_uniq : ∀ {a b : List PkS}, Desc a → Desc b → a.Perm b → a = b
  | [], b, _, _, h => (List.Perm.nil_eq h)
  | x :: a, [], _, _, h => by have := h.length_eq; simp at this
  | x :: a, y :: b, ha, hb, h => by
    obtain ⟨a1, a2⟩ := List.pairwise_cons.1 ha
    obtain ⟨b1, b2⟩ := List.pairwise_cons.1 hb
    have e : x = y := by
      have hx : x ∈ y :: b := h.mem_iff.1 (by simp)
      have hy : y ∈ x :: a := h.mem_iff.2 (by simp)
      rcases List.mem_cons.1 hx with rfl | hx
      · rfl
      · rcases List.mem_cons.1 hy with rfl | hy
        · rfl
        · have h1 := b1 x hx
          have h2 := a1 y hy
          rw [cmpP_neg] at h1
          exact cmpP_zero (by omega)
    subst e
    rw [desc_uniq a2 b2 ((List.perm_cons x).1 h)]
theorem sortP_perm (l : List PkS) : (sortP l).Perm l := by
  unfold sortP
  exact (List.reverse_perm _).trans ((sortR_perm l []).trans (by rw [List.nil_append]))
theorem sortP_eq {a b : List PkS} (h : a.Perm b) : sortP a = sortP b := by
  unfold sortP
  congr 1
  refine desc_uniq (sortR_desc a List.Pairwise.nil) (sortR_desc b List.Pairwise.nil) ?_
  have ha := sortR_perm a []
  have hb := sortR_perm b []
  rw [List.nil_append] at ha hb
  exact ha.trans (h.trans hb.symm)
theorem sortP_idem (l : List PkS) : sortP (sortP l) = sortP l := sortP_eq (sortP_perm l)
theorem canG_idem (g : GrS) : canG (canG g) = canG g := by
  unfold canG
  simp only [sortP_idem, List.map_map]
  congr 1
end Go.Proofs.YtphlhadgcfndhaaGreatDoor.Abs
end
section
namespace Go.Proofs.YtphlhadgcfndhaaGreatDoor.Abs
open Go Go.RowKit
set_option linter.unusedVariables false
set_option linter.unusedSimpArgs false
set_option maxHeartbeats 4000000
theorem or_pure (t : Bool) (l : List Int) (hl : l.length < 1000000) : Pure Tryz.prog 60 [.c (.row 1 t (l.map encn))] (.c (cI (orI l))) := by
  refine pure_of teOk Tryz.func60 (by kernel_rfl) (c := _) rfl (N := 18) rfl (rs := [Go.ResultVar.tmp 2]) rfl (by simp) fun base A w0 hA => ?_
  refine AW.st teOk [] (by simp [-Option.some.injEq] <;> rfl) trivial ?_
  refine AW.st teOk [] (by simp [-Option.some.injEq] <;> rfl) trivial ?_
  refine AW.seq ?_
  refine AW.st teOk [] (by simp [-Option.some.injEq] <;> rfl) trivial ?_
  refine AW.block (AW.loop (fun m s => ∃ j : Nat, m = l.length - j ∧ j ≤ l.length ∧ orI l = orI (l.drop j) ∧ s = ⟨[(3, .c (cI 0)), (6, .c (.row 1 t (l.map encn))), (7, .c (cI l.length)), (8, .c (cI j))], [], 0⟩) _ (Weak.normT hA [3, 6, 7, 8] [] [] 0 _ (by simp) (by simp) (by simp)) ⟨0, rfl, Nat.zero_le _, rfl, by simp⟩ ?_)
  rintro m s ⟨j, rfl, hj, ho, rfl⟩
  refine AW.st teOk [] (by simp [-Option.some.injEq] <;> rfl) trivial ?_
  refine AW.seq (AW.iff (decide (j < l.length)) (by simp) (fun h => AW.skip ?_) (fun h => AW.exit (x_then (x_then (blockA_exit ?_)))))
  · rw [decide_eq_true_eq] at h
    obtain ⟨x, hx⟩ : ∃ x, l[j]? = some x := ⟨_, List.getElem?_eq_getElem h⟩
    have hd : l.drop j = x :: l.drop (j + 1) := by
      rw [List.drop_eq_getElem_cons h, (List.getElem?_eq_some_iff.1 hx).2]
    rw [hd, orI] at ho
    refine AW.seq (AW.block ?_)
    refine AW.st teOk [] (by simp [hx, -Option.some.injEq] <;> rfl) ?_ ?_
    · first | trivial | omega | (simp [allP, growOk] <;> omega)
    by_cases h0 : x = 0
    · refine AW.st teOk [] (by simp [h0, -Option.some.injEq] <;> rfl) trivial ?_
      refine AW.iff false (by simp) (fun h => by cases h) (fun _ => AW.skip ?_)
      refine AW.text teOk (ans := []) (by simp [-Option.some.injEq] <;> rfl) ?_ ?_
      · trivial
      refine ⟨_, _, Weak.normT hA [3, 6, 7, 8] [] [] 0 _ (by simp) (by simp) (by simp), ?_, j + 1, rfl, h, ?_, ?_⟩
      · omega
      · rw [ho, if_neg (by simpa using h0)]
      · simp
        exact wrap_s j (by omega)
    · refine AW.st teOk [] (by simp [h0, -Option.some.injEq] <;> rfl) trivial ?_
      refine AW.iff true (by simp [h0]) (fun _ => ?_) (fun h => by cases h)
      refine AW.st teOk [] (by simp [-Option.some.injEq] <;> rfl) trivial ?_
      refine AW.ret ⟨.inr rfl, _, Weak.refl _, ?_⟩
      rw [ho, if_pos h0]
      simp
  · rw [decide_eq_false_iff_not] at h
    refine AW.st teOk [] (by simp [-Option.some.injEq] <;> rfl) trivial ?_
    refine AW.ret ⟨.inr rfl, _, Weak.refl _, ?_⟩
    rw [ho, List.drop_eq_nil_of_le (by omega)]
    simp [orI]
theorem cmpE_pure (x y : E2) : Pure Tryz.prog 63 [.agg (encE x), .agg (encE y)] (.c (cI (cmpE x y))) := by
  refine pure_of teOk Tryz.func63 (by kernel_rfl) (c := _) rfl (N := 17) rfl (rs := [Go.ResultVar.tmp 4]) rfl (by simp) fun base A w0 hA => ?_
  refine AW.st teOk [] (by simp [-Option.some.injEq] <;> rfl) trivial ?_
  refine AW.dr mixed teOk [.c (cI (cmpI x.1 y.1)), .c (cI (cmpI x.2 y.2)), .c (cI (cmpE x y))] (by simp [-Option.some.injEq] <;> rfl) (by kernel_rfl) (by kernel_rfl) ?_ ?_
  · simp [allP]
    exact ⟨cmp_pure x.1 y.1, cmp_pure x.2 y.2, or_pure true [cmpI x.1 y.1, cmpI x.2 y.2] (by simp)⟩
  refine AW.ret ⟨.inr rfl, _, Weak.refl _, ?_⟩
  simp
abbrev fE : Cell := .sc (.func (.func 63) #[] #[])
theorem cmpV_step {a b : V2} {j : Nat} {x y : E2} (hx : a[j]? = some x) (hy : b[j]? = some y) : cmpV (a.drop j) (b.drop j) = if cmpE x y ≠ 0 then cmpE x y else cmpV (a.drop (j + 1)) (b.drop (j + 1)) := by
  have h1 := (List.getElem?_eq_some_iff.1 hx).1
  have h2 := (List.getElem?_eq_some_iff.1 hy).1
  have hd : a.drop j = x :: a.drop (j + 1) := by rw [List.drop_eq_getElem_cons h1, (List.getElem?_eq_some_iff.1 hx).2]
  have hd2 : b.drop j = y :: b.drop (j + 1) := by rw [List.drop_eq_getElem_cons h2, (List.getElem?_eq_some_iff.1 hy).2]
  rw [hd, hd2, cmpV]
theorem cmpF_pure (a b : V2) (hl : a.length < 1000000) : Pure Tryz.prog 62 [.c (encV a), .c (encV b), .c fE] (.c (cI (cmpV a b))) := by
  refine pure_of teOk Tryz.func62 (by kernel_rfl) (c := _) rfl (N := 39) rfl (rs := [Go.ResultVar.tmp 6]) rfl (by simp) fun base A w0 hA => ?_
  refine AW.st teOk [] (by simp [-Option.some.injEq] <;> rfl) trivial ?_
  refine AW.seq ?_
  refine AW.st teOk [] (by simp [-Option.some.injEq] <;> rfl) trivial ?_
  refine AW.block (AW.loop (fun m s => ∃ j : Nat, m = a.length - j ∧ j ≤ a.length ∧ j ≤ b.length ∧ cmpV a b = cmpV (a.drop j) (b.drop j) ∧ s = ⟨[(0, .c (encV a)), (1, .c (encV b)), (2, .c fE), (11, .c (encV a)), (12, .c (cI a.length)), (13, .c (cI j))], [], 0⟩) _ (Weak.normT hA [0, 1, 2, 11, 12, 13] [] [] 0 _ (by simp) (by simp) (by simp)) ⟨0, rfl, Nat.zero_le _, Nat.zero_le _, rfl, by simp⟩ ?_)
  rintro m s ⟨j, rfl, hj, hjb, hc, rfl⟩
  refine AW.st teOk [] (by simp [-Option.some.injEq] <;> rfl) trivial ?_
  refine AW.seq (AW.iff (decide (j < a.length)) (by simp) (fun h => AW.skip ?_) (fun h => AW.exit (x_then (x_then (blockA_exit ?_)))))
  · rw [decide_eq_true_eq] at h
    obtain ⟨x, hx⟩ : ∃ x, a[j]? = some x := ⟨_, List.getElem?_eq_getElem h⟩
    refine AW.seq (AW.block ?_)
    refine AW.st teOk [] (by simp [hx, -Option.some.injEq] <;> rfl) ?_ ?_
    · exact h
    refine AW.seq ?_
    by_cases hb : j < b.length
    · obtain ⟨y, hy⟩ : ∃ y, b[j]? = some y := ⟨_, List.getElem?_eq_getElem hb⟩
      have hst := cmpV_step hx hy
      have hb' : ¬ (b.length : Int) ≤ j := by omega
      refine AW.st teOk [] (by simp [hb', -Option.some.injEq] <;> rfl) trivial ?_
      refine AW.iff false (by simp <;> omega) (fun h => by cases h) (fun _ => AW.skip ?_)
      refine AW.st teOk [] (by simp [hy, -Option.some.injEq] <;> rfl) ?_ ?_
      · exact hb
      refine AW.st teOk [.fz (.c (cI (cmpE x y)))] (by simp [-Option.some.injEq] <;> rfl) ?_ ?_
      · exact cmpE_pure x y
      by_cases h0 : cmpE x y = 0
      · refine AW.st teOk [] (by simp [h0, -Option.some.injEq] <;> rfl) trivial ?_
        refine AW.iff false (by simp) (fun h => by cases h) (fun _ => AW.skip ?_)
        refine AW.text teOk (ans := []) (by simp [-Option.some.injEq] <;> rfl) ?_ ?_
        · trivial
        refine ⟨_, _, Weak.normT hA [0, 1, 2, 11, 12, 13] [] [] 0 _ (by simp) (by simp) (by simp), ?_, j + 1, rfl, h, hb, ?_, ?_⟩
        · omega
        · rw [hc, hst, if_neg (by simpa using h0)]
        · simp
          exact wrap_s j (by omega)
      · refine AW.st teOk [] (by simp [h0, -Option.some.injEq] <;> rfl) trivial ?_
        refine AW.iff true (by simp [h0]) (fun _ => ?_) (fun h => by cases h)
        refine AW.st teOk [] (by simp [-Option.some.injEq] <;> rfl) trivial ?_
        refine AW.ret ⟨.inr rfl, _, Weak.refl _, ?_⟩
        rw [hc, hst, if_pos h0]
        simp
    · have hb' : (b.length : Int) ≤ j := by omega
      refine AW.st teOk [] (by simp [hb', -Option.some.injEq] <;> rfl) trivial ?_
      refine AW.iff true (by simp <;> omega) (fun _ => ?_) (fun h => by cases h)
      refine AW.st teOk [] (by simp [-Option.some.injEq] <;> rfl) trivial ?_
      refine AW.ret ⟨.inr rfl, _, Weak.refl _, ?_⟩
      have hd : a.drop j = x :: a.drop (j + 1) := by rw [List.drop_eq_getElem_cons h, (List.getElem?_eq_some_iff.1 hx).2]
      rw [hc, hd, show b.drop _ = [] from List.drop_eq_nil_of_le (by omega)]
      simp [cmpV]
  · rw [decide_eq_false_iff_not] at h
    have hja : j = a.length := by omega
    subst hja
    rw [List.drop_length] at hc
    refine AW.seq ?_
    by_cases hlt : a.length < b.length
    · have hlt' : (a.length : Int) < b.length := by omega
      refine AW.st teOk [] (by simp [hlt', -Option.some.injEq] <;> rfl) trivial ?_
      refine AW.iff true (by simp <;> omega) (fun _ => ?_) (fun h => by cases h)
      refine AW.st teOk [] (by simp [-Option.some.injEq] <;> rfl) trivial ?_
      refine AW.ret ⟨.inr rfl, _, Weak.refl _, ?_⟩
      rw [hc]
      cases hd : b.drop a.length with
      | nil =>
        have := congrArg List.length hd
        rw [List.length_drop] at this
        simp at this
        omega
      | cons y r => simp [cmpV]
    · have hlt' : ¬ (a.length : Int) < b.length := by omega
      refine AW.st teOk [] (by simp [hlt', -Option.some.injEq] <;> rfl) trivial ?_
      refine AW.iff false (by simp <;> omega) (fun h => by cases h) (fun _ => AW.skip ?_)
      refine AW.st teOk [] (by simp [-Option.some.injEq] <;> rfl) trivial ?_
      refine AW.ret ⟨.inr rfl, _, Weak.refl _, ?_⟩
      rw [hc, show b.drop _ = [] from List.drop_eq_nil_of_le (by omega)]
      simp [cmpV]
theorem cmpP_pure (x y : PkS) (hl : x.v.length < 1000000) : Pure Tryz.prog 28 [.agg (encPk x), .agg (encPk y)] (.c (cI (cmpP x y))) := by
  refine pure_of teOk Tryz.func28 (by kernel_rfl) (c := _) rfl (N := 34) rfl (rs := [Go.ResultVar.tmp 4]) rfl (by simp) fun base A w0 hA => ?_
  refine AW.st teOk [] (by simp [-Option.some.injEq] <;> rfl) trivial ?_
  refine AW.dr mixed teOk [.c (cI (numB x.reply)), .c (cI (numB y.reply)), .c (cI (cmpI (numB x.reply) (numB y.reply))), .c (cI (cmpI x.prop y.prop)), .c (cI (cmpI x.acc y.acc)), .c (cI (cmpI x.round y.round)), .c (cI (cmpV x.v y.v)), .c (cI (cmpP x y))] (by simp [-Option.some.injEq] <;> rfl) (by kernel_rfl) (by kernel_rfl) ?_ ?_
  · simp [allP]
    exact ⟨xnumber_pure _, xnumber_pure _, cmp_pure _ _, cmp_pure _ _, cmp_pure _ _, cmp_pure _ _, cmpF_pure x.v y.v hl, or_pure true [cmpI (numB x.reply) (numB y.reply), cmpI x.prop y.prop, cmpI x.acc y.acc, cmpI x.round y.round, cmpV x.v y.v] (by simp)⟩
  refine AW.ret ⟨.inr rfl, _, Weak.refl _, ?_⟩
  simp
end Go.Proofs.YtphlhadgcfndhaaGreatDoor.Abs
end
section
namespace Go.Proofs.YtphlhadgcfndhaaGreatDoor.Abs
open Go Go.RowKit
set_option linter.unusedVariables false
set_option linter.unusedSimpArgs false
set_option maxHeartbeats 4000000
abbrev fP : Cell := .sc (.func (.func 28) #[] #[])
/-- Packet x goes down among t; done ones stand behind it. -/
theorem swap_two {α : Type} (t : List α) (y x : α) (r : List α) : ((t ++ y :: x :: r).set (t.length + 1) y).set t.length x = t ++ x :: y :: r := by
  simp [List.set_append]
theorem get_two {α : Type} (t : List α) (y x : α) (r : List α) : (t ++ y :: x :: r)[t.length]? = some y ∧ (t ++ y :: x :: r)[t.length + 1]? = some x := by
  simp [List.getElem?_append]
theorem isort_con (l : List PkS) (hl : l.length ≤ 20) (hv : ∀ k ∈ l, k.v.length < 1000000) : Con Tryz.prog 86 [.c (.ref 1000000 0 l.length), .c (cI 0), .c (cI l.length), .c fP] [(1000000, ⟨5, l.map encPk⟩)] 1000020 (.tup []) [(1000000, ⟨5, (sortP l).map encPk⟩)] 1000021 := by
  refine con_of teOk Tryz.func86 (by kernel_rfl) (c := _) rfl (N := 53) rfl (rs := []) rfl (by simp) fun base A w0 rest hrest hrefs hA => ?_
  have hh := hiS_low hrest
  have hl' := loS_low hrest
  have hdr := fun k hk => drop_rest hrest k hk
  have hrn : ∀ (ρ : List (Nat × Nat)) (ids : List Nat), (ids.all fun i => decide (1000000 ≤ i)) = true → rnS 1000000 ρ ids rest = rest := fun ρ ids h => rnS_low h hrest
  refine AW.st teOk [] (by simp [hdr, -Option.some.injEq] <;> rfl) trivial ?_
  refine AW.block (AW.loop (fun m s => ∃ (i : Nat) (r L : List PkS), m = l.length + 1 - i ∧ 1 ≤ i ∧ (i ≤ l.length ∨ l.length = 0 ∧ i = 1) ∧ r = sortR [] (l.take i) ∧ L = r.reverse ++ l.drop i ∧ s = ⟨[(0, .c (.ref 1000000 0 l.length)), (1, .c (cI 0)), (2, .c (cI l.length)), (3, .c fP), (8, .c (cI i))], (1000000, ⟨5, L.map encPk⟩) :: rest, 1000021⟩) (l.length + 1 - 1) (Weak.normCS hA hrefs [0, 1, 2, 3, 8] [(0, 1000000)] [] [1000000] 1000021 _ (by simp [hl', hdr]) (by simp) (by simp) (by simp) (by simp [hh, hdr]) (by simp [hh, hdr])) ?_ ?_)
  · refine ⟨1, _, l, rfl, Nat.le_refl _, by omega, rfl, ?_, ?_⟩
    · cases l with
      | nil => rfl
      | cons x l => rfl
    · simp [normL, hh, hl', hrn, hdr]
  rintro m s ⟨i, r, L, rfl, hi1, hi, hr, hL, rfl⟩
  by_cases hil : i < l.length
  · obtain ⟨x, hx⟩ : ∃ x, l[i]? = some x := ⟨_, List.getElem?_eq_getElem hil⟩
    have hrl : r.length = i := by rw [hr, sortR_len, List.length_take]; simp; omega
    have hdx : l.drop i = x :: l.drop (i + 1) := by rw [List.drop_eq_getElem_cons hil, (List.getElem?_eq_some_iff.1 hx).2]
    have htk : sortR [] (l.take (i + 1)) = insR x r := by
      rw [List.take_add_one, hx, sortR_app, ← hr]
      rfl
    have hrv : ∀ k ∈ r, k.v.length < 1000000 := fun k hk => by
      rw [hr] at hk
      rcases sortR_mem.1 hk with hk | hk
      · cases hk
      · exact hv k (List.mem_of_mem_take hk)
    have hxv := hv x (List.mem_of_getElem? hx)
    have hinc : IntKind.i64.wrap ((i : Int) + 1) = (i : Int) + 1 := wrap_s _ (by omega)
    rw [hdx] at hL
    refine AW.seq ?_
    refine AW.st teOk [] (by simp [hdr, -Option.some.injEq] <;> rfl) trivial ?_
    refine AW.iff true (by simp [hil]) (fun _ => AW.skip ?_) (fun h => by cases h)
    refine AW.seq (AW.block ?_)
    refine AW.st teOk [] (by simp [hdr, -Option.some.injEq] <;> rfl) trivial ?_
    generalize htl : l.drop (i + 1) = tl at *
    refine AW.block (AW.loop (fun m s => ∃ (done todo L : List PkS), m = todo.length ∧ insR x r = done ++ insR x todo ∧ done.length + todo.length = i ∧ (∀ k ∈ todo, k.v.length < 1000000) ∧ L = todo.reverse ++ x :: (done.reverse ++ tl) ∧ s = ⟨[(0, .c (.ref 1000000 0 l.length)), (1, .c (cI 0)), (2, .c (cI l.length)), (3, .c fP), (8, .c (cI i)), (9, .c (cI todo.length))], (1000000, ⟨5, L.map encPk⟩) :: rest, 1000021⟩) _ (Weak.normCS hA hrefs [0, 1, 2, 3, 8, 9] [(0, 1000000)] [] [1000000] 1000021 _ (by simp [hl', hdr]) (by simp) (by simp) (by simp) (by simp [hh, hdr]) (by simp [hh, hdr])) ⟨[], r, L, rfl, rfl, by simp [hrl], hrv, hL, by simp [normL, hh, hl', hrn, hdr, hrl]⟩ ?_)
    clear hL
    rintro m s ⟨done, todo, L, rfl, hins, hlen, htv, hL, rfl⟩
    refine AW.seq ?_
    have fin : insR x todo = x :: todo → L = (insR x r).reverse ++ tl := fun h => by
      rw [hins, h, hL]
      simp
    cases todo with
    | nil =>
      refine AW.dr mixed teOk [] (by simp [hdr, -Option.some.injEq] <;> rfl) (by kernel_rfl) (by kernel_rfl) ?_ ?_
      · simp [allP]
      have hf := fin rfl
      refine AW.iff false (by simp) (fun h => by cases h) (fun h => AW.exit (x_then (x_then (blockA_exit ?_))))
      refine AW.text teOk (ans := []) (by simp [hdr, -Option.some.injEq] <;> rfl) ?_ ?_
      · trivial
      refine ⟨_, _, Weak.normCS hA hrefs [0, 1, 2, 3, 8] [(0, 1000000)] [] [1000000] 1000021 _ (by simp [hl', hdr]) (by simp) (by simp) (by simp) (by simp [hh, hdr]) (by simp [hh, hdr]), ?_, i + 1, insR x r, L, rfl, by omega, by omega, htk.symm, by rw [htl]; exact hf, ?_⟩
      · omega
      · simp [normL, hh, hl', hrn, hdr, hinc]
    | cons y t =>
      obtain ⟨j, hj⟩ : ∃ j, j = t.length + 1 := ⟨_, rfl⟩
      have hlen2 : done.length + (t.length + 1) = i := hlen
      have hsub : IntKind.i64.wrap ((j : Int) - 1) = (t.length : Int) := by rw [IntKind.wrap_i64]; omega
      have hL2 : L = t.reverse ++ y :: x :: (done.reverse ++ tl) := by rw [hL]; simp
      have hg := get_two t.reverse y x (done.reverse ++ tl)
      rw [← hL2, List.length_reverse, ← hj] at hg
      obtain ⟨hg1, hg2⟩ := hg
      rw [show (y :: t).length = j from hj.symm]
      have hj0 : 0 < j := by omega
      have hg3 : ∀ c : List Cell, ((L.map encPk).set j c)[t.length]? = some (encPk y) := fun c => by
        rw [List.getElem?_set, if_neg (by omega), List.getElem?_map, hg1]
        rfl
      have hyv := htv y (by simp)
      have hset : (L.set j y).set t.length x = t.reverse ++ x :: y :: (done.reverse ++ tl) := by
        have := swap_two t.reverse y x (done.reverse ++ tl)
        rw [List.length_reverse, ← hj, ← hL2] at this
        exact this
      obtain ⟨L', hL'⟩ : ∃ L', L' = t.reverse ++ x :: y :: (done.reverse ++ tl) := ⟨_, rfl⟩
      have hmap : ((L.map encPk).set j (encPk y)).set t.length (encPk x) = L'.map encPk := by rw [set_enc, set_enc, hset, hL']
      simp only [encPk] at hmap
      have hLl : L.length = l.length := by
        have h1 := congrArg List.length hL2
        have h2 := congrArg List.length htl
        simp only [List.length_append, List.length_reverse, List.length_cons] at h1
        rw [List.length_drop] at h2
        omega
      refine AW.dr mixed teOk [.c (cI (cmpP x y))] (by simp [hdr, hg1, hg2, hsub, hj0, -Option.some.injEq] <;> rfl) (by kernel_rfl) (by kernel_rfl) ?_ ?_
      · simp [allP, hj0]
        exact ⟨by omega, by omega, cmpP_pure x y hxv⟩
      by_cases hc : cmpP x y < 0
      · refine AW.iff true (by simp [hc]) (fun _ => AW.skip ?_) (fun h => by cases h)
        refine AW.seq (AW.block ?_)
        refine AW.draw mixed teOk (ans := []) (by simp [hdr, hg1, hg2, hg3, hsub, hmap, -Option.some.injEq] <;> rfl) (by kernel_rfl) (by kernel_rfl) ?_ ?_
        · simp [allP]
          omega
        refine AW.text teOk (ans := []) (by simp [hdr, hsub, -Option.some.injEq] <;> rfl) ?_ ?_
        · trivial
        refine ⟨_, _, Weak.normCS hA hrefs [0, 1, 2, 3, 8, 9] [(0, 1000000)] [] [1000000] 1000021 _ (by simp [hl', hdr]) (by simp) (by simp) (by simp) (by simp [hh, hdr]) (by simp [hh, hdr]), ?_, done ++ [y], t, L', rfl, ?_, ?_, fun k hk => htv k (by simp [hk]), ?_, ?_⟩
        · omega
        · rw [hins, List.append_assoc, insR, if_pos hc]
          rfl
        · simp
          omega
        · rw [hL']
          simp
        · simp [normL, hh, hl', hrn, hdr, hsub]
      · refine AW.iff false (by simp [hc]) (fun h => by cases h) (fun h => AW.exit (x_then (x_then (blockA_exit ?_))))
        have hf := fin (by rw [insR, if_neg hc])
        refine AW.text teOk (ans := []) (by simp [hdr, -Option.some.injEq] <;> rfl) ?_ ?_
        · trivial
        refine ⟨_, _, Weak.normCS hA hrefs [0, 1, 2, 3, 8] [(0, 1000000)] [] [1000000] 1000021 _ (by simp [hl', hdr]) (by simp) (by simp) (by simp) (by simp [hh, hdr]) (by simp [hh, hdr]), ?_, i + 1, insR x r, L, rfl, by omega, by omega, htk.symm, by rw [htl]; exact hf, ?_⟩
        · omega
        · simp [normL, hh, hl', hrn, hdr, hinc]
  · have hend : l.take i = l := List.take_of_length_le (by omega)
    have hdr0 : l.drop i = [] := List.drop_eq_nil_of_le (by omega)
    refine AW.seq ?_
    refine AW.st teOk [] (by simp [hdr, -Option.some.injEq] <;> rfl) trivial ?_
    refine AW.iff false (by simp; omega) (fun h => by cases h) (fun h => AW.exit (x_then (x_then (blockA_exit ?_))))
    rw [hdr0, hr, hend, List.append_nil] at hL
    rw [hL]
    refine ⟨.inl rfl, _, Weak.normCS hA hrefs [] [] [(1000000, 1000000)] [1000000] 1000021 _ (by simp [hl']) (by simp) (by simp) (by simp) (by simp [hh]) (by simp [hh]), by simp, by simp [normL, hh, hl', hrn, sortP], rfl⟩
theorem stable_con (l : List PkS) (hl : l.length < 20) (hv : ∀ k ∈ l, k.v.length < 1000000) : Con Tryz.prog 59 [.c (.ref 1000000 0 l.length), .c (cI l.length), .c fP] [(1000000, ⟨5, l.map encPk⟩)] 1000008 (.tup []) [(1000000, ⟨5, (sortP l).map encPk⟩)] 1000022 := by
  have hc := isort_con l (by omega) hv
  refine con_of teOk Tryz.func59 (by kernel_rfl) (c := _) rfl (N := 63) rfl (rs := []) rfl (by simp) fun base A w0 rest hrest hrefs hA => ?_
  have hh := hiS_low hrest
  have hl' := loS_low hrest
  have hdr := fun k hk => drop_rest hrest k hk
  have hrn : ∀ (ρ : List (Nat × Nat)) (ids : List Nat), (ids.all fun i => decide (1000000 ≤ i)) = true → rnS 1000000 ρ ids rest = rest := fun ρ ids h => rnS_low h hrest
  refine AW.st teOk [] (by simp [hdr, -Option.some.injEq] <;> rfl) trivial ?_
  refine AW.st teOk [] (by simp [hdr, -Option.some.injEq] <;> rfl) trivial ?_
  refine AW.seq (AW.block (AW.loop (fun m s => m = 0 ∧ s = ⟨[(0, .c (.ref 1000000 0 l.length)), (1, .c (cI l.length)), (2, .c fP), (6, .c (cI 20)), (7, .c (cI 0)), (8, .c (cI 20))], (1000000, ⟨5, l.map encPk⟩) :: rest, 1000008⟩) 0 (Weak.normCS hA hrefs [0, 1, 2, 6, 7, 8] [(0, 1000000)] [] [1000000] 1000008 _ (by simp [hl', hdr]) (by simp) (by simp) (by simp) (by simp [hh, hdr]) (by simp [hh, hdr])) ⟨rfl, by simp [normL, hh, hl', hrn, hdr]⟩ ?_))
  rintro m s ⟨rfl, rfl⟩
  refine AW.seq ?_
  refine AW.st teOk [] (by simp [hdr, -Option.some.injEq] <;> rfl) trivial ?_
  refine AW.iff false (by simp; omega) (fun h => by cases h) (fun h => AW.exit (x_then (x_then (blockA_exit ?_))))
  refine AW.to (s2 := ⟨[(0, .c (.ref 1000000 0 l.length)), (1, .c (cI l.length)), (2, .c fP), (6, .c (cI 20)), (7, .c (cI 0))], (1000000, ⟨5, l.map encPk⟩) :: rest, 1000016⟩) (Weak.normCS hA hrefs [0, 1, 2, 6, 7] [(0, 1000000)] [] [1000000] 1000016 _ (by simp [hl', hdr]) (by simp) (by simp) (by simp) (by simp [hh, hdr]) (by simp [hh, hdr])) (by simp [normL, hh, hl', hrn, hdr]) ?_
  refine AW.st teOk [.own (.tup []) [(1000000, ⟨5, (sortP l).map encPk⟩)] 1000021] (by simp [hdr, hh, hl', -Option.some.injEq] <;> rfl) ?_ ?_
  · simpa using hc
  refine AW.block (AW.loop (fun m s => m = 0 ∧ s = ⟨[(0, .c (.ref 1000000 0 l.length)), (1, .c (cI l.length)), (2, .c fP), (6, .c (cI 20)), (7, .c (cI 0))], (1000000, ⟨5, (sortP l).map encPk⟩) :: rest, 1000022⟩) 0 (Weak.normCS hA hrefs [0, 1, 2, 6, 7] [(0, 1000000)] [] [1000000] 1000022 _ (by simp [hl', hdr]) (by simp) (by simp) (by simp) (by simp [hh, hdr]) (by simp [hh, hdr])) ⟨rfl, by simp [normL, hh, hl', hrn, hdr]⟩ ?_)
  rintro m s ⟨rfl, rfl⟩
  refine AW.seq ?_
  refine AW.st teOk [] (by simp [hdr, -Option.some.injEq] <;> rfl) trivial ?_
  refine AW.iff false (by simp; omega) (fun h => by cases h) (fun h => AW.exit (x_then (x_then (blockA_exit ?_))))
  refine ⟨.inl rfl, _, Weak.normCS hA hrefs [] [] [(1000000, 1000000)] [1000000] 1000022 _ (by simp [hl']) (by simp) (by simp) (by simp) (by simp [hh]) (by simp [hh]), by simp, by simp [normL, hh, hl', hrn], rfl⟩
theorem sort_con (l : List PkS) (hl : l.length < 20) (hv : ∀ k ∈ l, k.v.length < 1000000) : Con Tryz.prog 27 [.c (.ref 1000000 0 l.length), .c fP] [(1000000, ⟨5, l.map encPk⟩)] 1000004 (.tup []) [(1000000, ⟨5, (sortP l).map encPk⟩)] 1000023 := by
  have hc := stable_con l hl hv
  refine con_of teOk Tryz.func27 (by kernel_rfl) (c := _) rfl (N := 9) rfl (rs := []) rfl (by simp) fun base A w0 rest hrest hrefs hA => ?_
  have hh := hiS_low hrest
  have hl' := loS_low hrest
  have hdr := fun k hk => drop_rest hrest k hk
  have hrn : ∀ (ρ : List (Nat × Nat)) (ids : List Nat), (ids.all fun i => decide (1000000 ≤ i)) = true → rnS 1000000 ρ ids rest = rest := fun ρ ids h => rnS_low h hrest
  refine AW.text teOk (ans := [.own (.tup []) [(1000000, ⟨5, (sortP l).map encPk⟩)] 1000022]) (by simp [hdr, hh, hl', -Option.some.injEq] <;> rfl) ?_ ?_
  · simpa using hc
  refine ⟨.inl rfl, _, Weak.normCS hA hrefs [] [] [(1000000, 1000000)] [1000000] 1000023 _ (by simp [hl', hdr]) (by simp) (by simp) (by simp) (by simp [hh, hdr]) (by simp [hh, hdr]), by simp, by simp [normL, hh, hl', hrn, hdr], rfl⟩
end Go.Proofs.YtphlhadgcfndhaaGreatDoor.Abs
end
section
namespace Go.Proofs.YtphlhadgcfndhaaGreatDoor.Abs
open Go Go.RowKit
set_option linter.unusedVariables false
set_option linter.unusedSimpArgs false
set_option maxHeartbeats 4000000
theorem cloneA_new (es : List (List Cell)) (hk : ∀ e ∈ es, e.length = 1) (hf : flatO ⟨1, es⟩ = true) (hb : es.length < 1000000000) : New Tryz.prog 52 [.c (.row 1 false es)] (.c (.ref 0 0 es.length)) [(0, ⟨1, es⟩)] 1 := by
  refine new_of teOk Tryz.func52 (by kernel_rfl) (c := _) rfl (N := 8) rfl (rs := [Go.ResultVar.tmp 2]) rfl (by simp) fun base A w0 hA => ?_
  refine AW.st teOk [] (by simp [-Option.some.injEq] <;> rfl) trivial ?_
  refine AW.mid (fun s => s = ⟨[(0, .c (.row 1 false es))], [], 0⟩) ?_ ?_
  · by_cases he : es = []
    · subst he
      refine AW.st teOk [] (by simp [-Option.some.injEq] <;> rfl) trivial ?_
      refine AW.either (by simp) ?_ (AW.skip ⟨_, Weak.normT hA [0] [] [] 0 _ (by simp) (by simp) (by simp), by simp⟩)
      refine AW.st teOk [] (by simp [-Option.some.injEq] <;> rfl) trivial ?_
      refine AW.ret ⟨.inr rfl, _, (Weak.nil 2 1 _ (by simp <;> rfl)).trans (Weak.normT hA [2] [(2, 0)] [] 1 _ (by simp [putT]) (by simp [putT]) (by simp [putT])), ?_⟩
      simp [putT]
    · refine AW.st teOk [] (by simp [he, -Option.some.injEq] <;> rfl) trivial ?_
      refine AW.iff false (by simp) (fun h => by cases h) fun _ => AW.skip ⟨_, Weak.normT hA [0] [] [] 0 _ (by simp) (by simp) (by simp), by simp⟩
  · rintro s rfl
    refine AW.st teOk [] (by simp [-Option.some.injEq] <;> rfl) ?_ ?_
    · simp [growOk]
      exact ⟨by omega, hk⟩
    refine AW.ret ⟨.inr rfl, _, Weak.normT hA [2] [(2, 0)] [] 1 _ (by simp) (by simp) (by simp [hf]), ?_⟩
    simp
theorem cloneQ_new (es : List (List Cell)) (hk : ∀ e ∈ es, e.length = 5) (hf : flatO ⟨5, es⟩ = true) (hb : es.length < 1000000000) : New Tryz.prog 53 [.c (.row 5 false es)] (.c (.ref 0 0 es.length)) [(0, ⟨5, es⟩)] 1 := by
  refine new_of teOk Tryz.func53 (by kernel_rfl) (c := _) rfl (N := 8) rfl (rs := [Go.ResultVar.tmp 2]) rfl (by simp) fun base A w0 hA => ?_
  refine AW.st teOk [] (by simp [-Option.some.injEq] <;> rfl) trivial ?_
  refine AW.mid (fun s => s = ⟨[(0, .c (.row 5 false es))], [], 0⟩) ?_ ?_
  · by_cases he : es = []
    · subst he
      refine AW.st teOk [] (by simp [-Option.some.injEq] <;> rfl) trivial ?_
      refine AW.either (by simp) ?_ (AW.skip ⟨_, Weak.normT hA [0] [] [] 0 _ (by simp) (by simp) (by simp), by simp⟩)
      refine AW.st teOk [] (by simp [-Option.some.injEq] <;> rfl) trivial ?_
      refine AW.ret ⟨.inr rfl, _, (Weak.nil 2 5 _ (by simp <;> rfl)).trans (Weak.normT hA [2] [(2, 0)] [] 1 _ (by simp [putT]) (by simp [putT]) (by simp [putT])), ?_⟩
      simp [putT]
    · refine AW.st teOk [] (by simp [he, -Option.some.injEq] <;> rfl) trivial ?_
      refine AW.iff false (by simp) (fun h => by cases h) fun _ => AW.skip ⟨_, Weak.normT hA [0] [] [] 0 _ (by simp) (by simp) (by simp), by simp⟩
  · rintro s rfl
    refine AW.st teOk [] (by simp [-Option.some.injEq] <;> rfl) ?_ ?_
    · simp [growOk]
      exact ⟨by omega, hk⟩
    refine AW.ret ⟨.inr rfl, _, Weak.normT hA [2] [(2, 0)] [] 1 _ (by simp) (by simp) (by simp [hf]), ?_⟩
    simp
theorem cloneI_new (es : List (List Cell)) (hk : ∀ e ∈ es, e.length = 1) (hf : flatO ⟨1, es⟩ = true) (hb : es.length < 1000000000) : New Tryz.prog 55 [.c (.row 1 false es)] (.c (.ref 0 0 es.length)) [(0, ⟨1, es⟩)] 1 := by
  refine new_of teOk Tryz.func55 (by kernel_rfl) (c := _) rfl (N := 8) rfl (rs := [Go.ResultVar.tmp 2]) rfl (by simp) fun base A w0 hA => ?_
  refine AW.st teOk [] (by simp [-Option.some.injEq] <;> rfl) trivial ?_
  refine AW.mid (fun s => s = ⟨[(0, .c (.row 1 false es))], [], 0⟩) ?_ ?_
  · by_cases he : es = []
    · subst he
      refine AW.st teOk [] (by simp [-Option.some.injEq] <;> rfl) trivial ?_
      refine AW.either (by simp) ?_ (AW.skip ⟨_, Weak.normT hA [0] [] [] 0 _ (by simp) (by simp) (by simp), by simp⟩)
      refine AW.st teOk [] (by simp [-Option.some.injEq] <;> rfl) trivial ?_
      refine AW.ret ⟨.inr rfl, _, (Weak.nil 2 1 _ (by simp <;> rfl)).trans (Weak.normT hA [2] [(2, 0)] [] 1 _ (by simp [putT]) (by simp [putT]) (by simp [putT])), ?_⟩
      simp [putT]
    · refine AW.st teOk [] (by simp [he, -Option.some.injEq] <;> rfl) trivial ?_
      refine AW.iff false (by simp) (fun h => by cases h) fun _ => AW.skip ⟨_, Weak.normT hA [0] [] [] 0 _ (by simp) (by simp) (by simp), by simp⟩
  · rintro s rfl
    refine AW.st teOk [] (by simp [-Option.some.injEq] <;> rfl) ?_ ?_
    · simp [growOk]
      exact ⟨by omega, hk⟩
    refine AW.ret ⟨.inr rfl, _, Weak.normT hA [2] [(2, 0)] [] 1 _ (by simp) (by simp) (by simp [hf]), ?_⟩
    simp
theorem cloneW_new (es : List (List Cell)) (hk : ∀ e ∈ es, e.length = 1) (hf : flatO ⟨1, es⟩ = true) (hb : es.length < 1000000000) : New Tryz.prog 56 [.c (.row 1 false es)] (.c (.ref 0 0 es.length)) [(0, ⟨1, es⟩)] 1 := by
  refine new_of teOk Tryz.func56 (by kernel_rfl) (c := _) rfl (N := 8) rfl (rs := [Go.ResultVar.tmp 2]) rfl (by simp) fun base A w0 hA => ?_
  refine AW.st teOk [] (by simp [-Option.some.injEq] <;> rfl) trivial ?_
  refine AW.mid (fun s => s = ⟨[(0, .c (.row 1 false es))], [], 0⟩) ?_ ?_
  · by_cases he : es = []
    · subst he
      refine AW.st teOk [] (by simp [-Option.some.injEq] <;> rfl) trivial ?_
      refine AW.either (by simp) ?_ (AW.skip ⟨_, Weak.normT hA [0] [] [] 0 _ (by simp) (by simp) (by simp), by simp⟩)
      refine AW.st teOk [] (by simp [-Option.some.injEq] <;> rfl) trivial ?_
      refine AW.ret ⟨.inr rfl, _, (Weak.nil 2 1 _ (by simp <;> rfl)).trans (Weak.normT hA [2] [(2, 0)] [] 1 _ (by simp [putT]) (by simp [putT]) (by simp [putT])), ?_⟩
      simp [putT]
    · refine AW.st teOk [] (by simp [he, -Option.some.injEq] <;> rfl) trivial ?_
      refine AW.iff false (by simp) (fun h => by cases h) fun _ => AW.skip ⟨_, Weak.normT hA [0] [] [] 0 _ (by simp) (by simp) (by simp), by simp⟩
  · rintro s rfl
    refine AW.st teOk [] (by simp [-Option.some.injEq] <;> rfl) ?_ ?_
    · simp [growOk]
      exact ⟨by omega, hk⟩
    refine AW.ret ⟨.inr rfl, _, Weak.normT hA [2] [(2, 0)] [] 1 _ (by simp) (by simp) (by simp [hf]), ?_⟩
    simp
theorem encC1 (l : List V2) : ∀ e ∈ l.map encC, e.length = 1 := fun e he => by obtain ⟨x, _, rfl⟩ := List.mem_map.1 he; rfl
theorem encP5 (l : List PrS) : ∀ e ∈ l.map encPr', e.length = 5 := fun e he => by obtain ⟨x, _, rfl⟩ := List.mem_map.1 he; rfl
theorem encI1 (l : List (List V2)) : ∀ e ∈ l.map encIn, e.length = 1 := fun e he => by obtain ⟨x, _, rfl⟩ := List.mem_map.1 he; rfl
theorem cloneW_pure (l : List V2) (hl : l.length < 1000000000) : Pure Tryz.prog 56 [.c (encVs l)] (.c (encVs l)) := by
  have h := cloneW_new (l.map encC) (encC1 l) (by simp) (by simpa using hl)
  exact h.pure ⟨[(0, .c (encVs l))], [], 1⟩ (fun A => (Weak.freeze 0 ⟨1, l.map encC⟩ [] _ (by simp) (by simp)).be (by simp)) rfl rfl
structure XpB (s : XpS) : Prop where
  g : GrB s.g
@[simp] def refX (b : Nat) (s : XpS) : List Cell := [.ref b 0 s.g.accs.length, .row 5 false (s.g.props.map encPr'), .row 1 false (s.g.ins.map encIn), encIs s.g.nxt, .ref (b + 1) 0 s.g.pks.length, .ref (b + 2) 0 s.g.decs.length, cI s.g.steps, cI s.lo, cI s.am]
@[simp] def sigX (b : Nat) (s : XpS) : Sig := [(b, ⟨1, s.g.accs.map encC⟩), (b + 1, ⟨5, s.g.pks.map encPk⟩), (b + 2, ⟨4, s.g.decs.map encDe⟩)]
@[simp] def nilX : List Cell := nilG ++ [cI 0, cI 0]
theorem xclone_new (s : XpS) (hg : GrB s.g) : New Tryz.prog 26 [.agg (encXp s)] (.agg (refX 0 s)) (sigX 0 s) 3 := by
  obtain ⟨⟨accs, props, ins, nxt, pks, decs, steps⟩, lo, am⟩ := s
  obtain ⟨hal, hpl, hil, hnl, hkl, hdl, ha, hp, hi, hk, hd⟩ := hg
  dsimp only at *
  have c1 := cloneA_new (accs.map encC) (encC1 accs) (by simp) (by simp; omega)
  have c2 := cloneQ_new (props.map encPr') (encP5 props) (by simp) (by simp; omega)
  have c3 := cloneI_new (ins.map encIn) (encI1 ins) (by simp) (by simp; omega)
  have c5 := cloneP_new (pks.map encPk) (enc5 pks) (flat_encPk pks) (by simp; omega)
  have c6 := cloneD_new (decs.map encDe) (enc4 decs) (flat_encDe decs) (by simp; omega)
  rw [List.length_map] at c1 c2 c3 c5 c6
  refine new_drop teOk Tryz.func26 (by kernel_rfl) (c := _) rfl (N := 104) rfl (rs := [Go.ResultVar.cell 2 36]) rfl (by simp) fun base A w0 hA => ?_
  refine AW.st teOk [] (by simp [-Option.some.injEq] <;> rfl) trivial ?_
  refine AW.st teOk [] (by simp [-Option.some.injEq] <;> rfl) trivial ?_
  refine AW.dr mixed teOk [.tup [.c (.ref 0 0 accs.length), .c (.row 1 true (accs.map encC))], .tup [.c (.ref 0 0 props.length), .c (.row 5 true (props.map encPr'))]] (by simp [-Option.some.injEq] <;> rfl) (by kernel_rfl) (by kernel_rfl) ?_ ?_
  · simp [allP]
    exact ⟨c1, c2⟩
  refine AW.to (s2 := ⟨[(1, .c (.ptr 0 0 0)), (2, .c (.ptr 1 0 0)), (3, .c (.ptr 0 0 0))], [(0, ⟨9, [[.ref 2 0 accs.length, .ref 3 0 props.length, .row 1 false (ins.map encIn), encIs nxt, .row 5 false (pks.map encPk), .row 4 false (decs.map encDe), cI steps, cI lo, cI am]]⟩), (1, ⟨9, [nilX]⟩), (2, ⟨1, accs.map encC⟩), (3, ⟨5, props.map encPr'⟩)], 4⟩) (Weak.normS hA [1, 2, 3] [(1, 0), (2, 1)] [(10, 2), (15, 3)] [0] 4 _ (by simp [putA]) (by simp [putA]) (by simp [putA])) (by simp [putA]) ?_
  refine AW.seq ?_
  refine AW.st teOk [] (by simp [-Option.some.injEq] <;> rfl) trivial ?_
  refine AW.block (AW.loop (fun m s => ∃ j : Nat, m = props.length - j ∧ j ≤ props.length ∧ s = ⟨[(1, .c (.ptr 0 0 0)), (2, .c (.ptr 1 0 0)), (3, .c (.ptr 0 0 0)), (27, .c (cI props.length)), (28, .c (cI j))], [(0, ⟨9, [[.ref 2 0 accs.length, .ref 3 0 props.length, .row 1 false (ins.map encIn), encIs nxt, .row 5 false (pks.map encPk), .row 4 false (decs.map encDe), cI steps, cI lo, cI am]]⟩), (1, ⟨9, [nilX]⟩), (2, ⟨1, accs.map encC⟩), (3, ⟨5, props.map encPr'⟩)], 4⟩) _ (Weak.normS hA [1, 2, 3, 27, 28] [(1, 0), (2, 1)] [(2, 2), (3, 3)] [0] 4 _ (by simp) (by simp) (by simp)) ⟨0, rfl, Nat.zero_le _, by simp⟩ ?_)
  rintro m s ⟨j, rfl, hj, rfl⟩
  refine AW.st teOk [] (by simp [-Option.some.injEq] <;> rfl) trivial ?_
  refine AW.seq (AW.iff (decide (j < props.length)) (by simp) (fun h => AW.skip ?_) (fun h => AW.exit (x_then (x_then (blockA_exit ?_)))))
  · rw [decide_eq_true_eq] at h
    obtain ⟨x, hx⟩ : ∃ x, props[j]? = some x := ⟨_, List.getElem?_eq_getElem h⟩
    have hm : x ∈ props := List.mem_of_getElem? hx
    have hinc : IntKind.i64.wrap ((j : Int) + 1) = (j : Int) + 1 := wrap_s _ (by omega)
    have hset : (props.map encPr').set j (encPr' x) = props.map encPr' := by rw [set_enc, set_same hx]
    obtain ⟨hv, hak⟩ := hp _ hm
    obtain ⟨n, v, r, acks, dc⟩ := x
    simp only [encPr', encPr] at hset
    dsimp only at hv hak
    refine AW.seq (AW.block ?_)
    refine AW.st teOk [] (by simp [-Option.some.injEq] <;> rfl) trivial ?_
    refine AW.draw mixed teOk (ans := [.c (encIs acks)]) (by simp [hx, hset, -Option.some.injEq] <;> rfl) (by kernel_rfl) (by kernel_rfl) ?_ ?_
    · simp [allP]
      exact ⟨h, cloneN_pure acks (by omega), h⟩
    refine AW.text teOk (ans := []) (by simp [-Option.some.injEq] <;> rfl) ?_ ?_
    · trivial
    refine ⟨_, _, Weak.normS hA [1, 2, 3, 27, 28] [(1, 0), (2, 1)] [(2, 2), (3, 3)] [0] 4 _ (by simp) (by simp) (by simp), ?_, j + 1, rfl, h, ?_⟩
    · omega
    · simp [hinc]
  refine AW.to (s2 := ⟨[(1, .c (.ptr 0 0 0)), (2, .c (.ptr 1 0 0)), (3, .c (.ptr 0 0 0))], [(0, ⟨9, [[.ref 2 0 accs.length, .row 5 false (props.map encPr'), .row 1 false (ins.map encIn), encIs nxt, .row 5 false (pks.map encPk), .row 4 false (decs.map encDe), cI steps, cI lo, cI am]]⟩), (1, ⟨9, [nilX]⟩), (2, ⟨1, accs.map encC⟩)], 3⟩) ((Weak.freeze 3 ⟨5, props.map encPr'⟩ [0] _ (by simp) (by simp)).trans (Weak.normS hA [1, 2, 3] [(1, 0), (2, 1)] [(2, 2)] [0] 3 _ (by simp) (by simp) (by simp))) (by simp) ?_
  refine AW.dr mixed teOk [.tup [.c (.ref 0 0 ins.length), .c (.row 1 true (ins.map encIn))], .c (encIs nxt)] (by simp [-Option.some.injEq] <;> rfl) (by kernel_rfl) (by kernel_rfl) ?_ ?_
  · simp [allP]
    exact ⟨c3, cloneN_pure nxt (by omega)⟩
  refine AW.to (s2 := ⟨[(1, .c (.ptr 0 0 0)), (2, .c (.ptr 1 0 0)), (3, .c (.ptr 0 0 0))], [(0, ⟨9, [[.ref 2 0 accs.length, .row 5 false (props.map encPr'), .ref 3 0 ins.length, encIs nxt, .row 5 false (pks.map encPk), .row 4 false (decs.map encDe), cI steps, cI lo, cI am]]⟩), (1, ⟨9, [nilX]⟩), (2, ⟨1, accs.map encC⟩), (3, ⟨1, ins.map encIn⟩)], 4⟩) (Weak.normS hA [1, 2, 3] [(1, 0), (2, 1)] [(2, 2), (9, 3)] [0] 4 _ (by simp [putA]) (by simp [putA]) (by simp [putA])) (by simp [putA]) ?_
  refine AW.seq ?_
  refine AW.st teOk [] (by simp [-Option.some.injEq] <;> rfl) trivial ?_
  refine AW.block (AW.loop (fun m s => ∃ j : Nat, m = ins.length - j ∧ j ≤ ins.length ∧ s = ⟨[(1, .c (.ptr 0 0 0)), (2, .c (.ptr 1 0 0)), (3, .c (.ptr 0 0 0)), (68, .c (cI ins.length)), (69, .c (cI j))], [(0, ⟨9, [[.ref 2 0 accs.length, .row 5 false (props.map encPr'), .ref 3 0 ins.length, encIs nxt, .row 5 false (pks.map encPk), .row 4 false (decs.map encDe), cI steps, cI lo, cI am]]⟩), (1, ⟨9, [nilX]⟩), (2, ⟨1, accs.map encC⟩), (3, ⟨1, ins.map encIn⟩)], 4⟩) _ (Weak.normS hA [1, 2, 3, 68, 69] [(1, 0), (2, 1)] [(2, 2), (3, 3)] [0] 4 _ (by simp) (by simp) (by simp)) ⟨0, rfl, Nat.zero_le _, by simp⟩ ?_)
  rintro m s ⟨j, rfl, hj, rfl⟩
  refine AW.st teOk [] (by simp [-Option.some.injEq] <;> rfl) trivial ?_
  refine AW.seq (AW.iff (decide (j < ins.length)) (by simp) (fun h => AW.skip ?_) (fun h => AW.exit (x_then (x_then (blockA_exit ?_)))))
  · rw [decide_eq_true_eq] at h
    obtain ⟨x, hx⟩ : ∃ x, ins[j]? = some x := ⟨_, List.getElem?_eq_getElem h⟩
    have hm : x ∈ ins := List.mem_of_getElem? hx
    have hinc : IntKind.i64.wrap ((j : Int) + 1) = (j : Int) + 1 := wrap_s _ (by omega)
    have hset : (ins.map encIn).set j (encIn x) = ins.map encIn := by rw [set_enc, set_same hx]
    simp only [encIn] at hset
    refine AW.seq (AW.block ?_)
    refine AW.st teOk [] (by simp [-Option.some.injEq] <;> rfl) trivial ?_
    refine AW.draw mixed teOk (ans := [.c (encVs x)]) (by simp [hx, hset, -Option.some.injEq] <;> rfl) (by kernel_rfl) (by kernel_rfl) ?_ ?_
    · simp [allP]
      exact ⟨h, cloneW_pure x (hi x hm).1, h⟩
    refine AW.text teOk (ans := []) (by simp [-Option.some.injEq] <;> rfl) ?_ ?_
    · trivial
    refine ⟨_, _, Weak.normS hA [1, 2, 3, 68, 69] [(1, 0), (2, 1)] [(2, 2), (3, 3)] [0] 4 _ (by simp) (by simp) (by simp), ?_, j + 1, rfl, h, ?_⟩
    · omega
    · simp [hinc]
  refine AW.to (s2 := ⟨[(1, .c (.ptr 0 0 0)), (2, .c (.ptr 1 0 0)), (3, .c (.ptr 0 0 0))], [(0, ⟨9, [[.ref 2 0 accs.length, .row 5 false (props.map encPr'), .row 1 false (ins.map encIn), encIs nxt, .row 5 false (pks.map encPk), .row 4 false (decs.map encDe), cI steps, cI lo, cI am]]⟩), (1, ⟨9, [nilX]⟩), (2, ⟨1, accs.map encC⟩)], 3⟩) ((Weak.freeze 3 ⟨1, ins.map encIn⟩ [0] _ (by simp) (by simp)).trans (Weak.normS hA [1, 2, 3] [(1, 0), (2, 1)] [(2, 2)] [0] 3 _ (by simp) (by simp) (by simp))) (by simp) ?_
  refine AW.dr mixed teOk [.tup [.c (.ref 0 0 pks.length), .c (.row 5 true (pks.map encPk))], .tup [.c (.ref 0 0 decs.length), .c (.row 4 true (decs.map encDe))]] (by simp [-Option.some.injEq] <;> rfl) (by kernel_rfl) (by kernel_rfl) ?_ ?_
  · simp [allP]
    exact ⟨c5, c6⟩
  refine AW.st teOk [] (by simp [-Option.some.injEq] <;> rfl) trivial ?_
  refine AW.ret ⟨.inr rfl, _, _, Weak.normS hA [1, 2, 3] [(1, 0), (2, 1)] [(2, 2), (9, 3), (14, 4)] [0, 1] 5 _ (by simp [putA]) (by simp [putA]) (by simp [putA]), by simp [putA] <;> rfl, ?_⟩
  simp [putA]
  exact (Weak.normS hA [0] [] [(2, 0), (3, 1), (4, 2)] [0, 1] 3 _ (by simp) (by simp) (by simp)).be (by simp)
theorem clear_set (l : List DeS) (j : Nat) {d : DeS} (h : l[j]? = some d) : ((l.take j).map (fun d => ({ d with step := 0 } : DeS)) ++ l.drop j).set j { d with step := 0 } = (l.take (j + 1)).map (fun d => ({ d with step := 0 } : DeS)) ++ l.drop (j + 1) := by
  have hj := (List.getElem?_eq_some_iff.1 h).1
  have hd : l.drop j = d :: l.drop (j + 1) := by rw [List.drop_eq_getElem_cons hj, (List.getElem?_eq_some_iff.1 h).2]
  have hl : ((l.take j).map (fun d => ({ d with step := 0 } : DeS))).length = j := by rw [List.length_map, List.length_take]; omega
  rw [List.take_add_one, h, List.set_append_right _ _ (by omega), hl, hd, Nat.sub_self, List.map_append, List.append_assoc]
  rfl
theorem clear_get (l : List DeS) (j : Nat) {d : DeS} (h : l[j]? = some d) : ((l.take j).map (fun d => ({ d with step := 0 } : DeS)) ++ l.drop j)[j]? = some d := by
  have hj := (List.getElem?_eq_some_iff.1 h).1
  have hl : ((l.take j).map (fun d => ({ d with step := 0 } : DeS))).length = j := by rw [List.length_map, List.length_take]; omega
  rw [List.getElem?_append_right (by omega), hl, Nat.sub_self, List.getElem?_drop, Nat.add_zero, h]
theorem xcan_pure (s : XpS) (hg : GrB s.g) (hk : s.g.pks.length < 20) (hkv : ∀ k ∈ s.g.pks, k.v.length < 1000000) : Pure Tryz.prog 10 [.agg (encXp s)] (.agg (encXp (canX s))) := by
  have c0 := xclone_new s hg
  have c1 := sort_con s.g.pks hk hkv
  have hdl := hg.dl
  obtain ⟨⟨accs, props, ins, nxt, pks, decs, steps⟩, lo, am⟩ := s
  dsimp only at *
  refine pure_of teOk Tryz.func10 (by kernel_rfl) (c := _) rfl (N := 27) rfl (rs := [Go.ResultVar.cell 2 36]) rfl (by simp) fun base A w0 hA => ?_
  refine AW.st teOk [] (by simp [-Option.some.injEq] <;> rfl) trivial ?_
  refine AW.st teOk [.new (.agg (refX 0 ⟨⟨accs, props, ins, nxt, pks, decs, steps⟩, lo, am⟩)) (sigX 0 ⟨⟨accs, props, ins, nxt, pks, decs, steps⟩, lo, am⟩) 3] (by simp [-Option.some.injEq] <;> rfl) ?_ ?_
  · simpa using c0
  refine AW.to (s2 := ⟨[(1, .c (.ptr 0 0 0)), (2, .c (.ptr 1 0 0))], [(0, ⟨9, [[.ref 2 0 accs.length, .row 5 false (props.map encPr'), .row 1 false (ins.map encIn), encIs nxt, .ref 1000000 0 pks.length, .ref 3 0 decs.length, cI steps, cI lo, cI am]]⟩), (1, ⟨9, [nilX]⟩), (2, ⟨1, accs.map encC⟩), (3, ⟨4, decs.map encDe⟩), (1000000, ⟨5, pks.map encPk⟩)], 1000001⟩) (Weak.normS hA [1, 2] [(1, 0), (2, 1)] [(3, 2), (4, 1000000), (5, 3)] [0] 1000001 _ (by simp [putA]) (by simp [putA]) (by simp [putA])) (by simp [putA]) ?_
  refine AW.st teOk [.own (.tup []) [(1000000, ⟨5, (sortP pks).map encPk⟩)] 1000023] (by simp [-Option.some.injEq] <;> rfl) ?_ ?_
  · simpa using c1
  have htkp : (List.map encPk (sortP pks)).take pks.length = List.map encPk (sortP pks) := List.take_of_length_le (by rw [List.length_map, sortP_len]; exact Nat.le_refl _)
  refine AW.to (s2 := ⟨[(1, .c (.ptr 0 0 0)), (2, .c (.ptr 1 0 0))], [(0, ⟨9, [[.ref 2 0 accs.length, .row 5 false (props.map encPr'), .row 1 false (ins.map encIn), encIs nxt, .row 5 false ((sortP pks).map encPk), .ref 3 0 decs.length, cI steps, cI lo, cI am]]⟩), (1, ⟨9, [nilX]⟩), (2, ⟨1, accs.map encC⟩), (3, ⟨4, decs.map encDe⟩)], 4⟩) ((Weak.freeze 1000000 ⟨5, (sortP pks).map encPk⟩ [0] _ (by simp) (by simp)).trans (Weak.normS hA [1, 2] [(1, 0), (2, 1)] [(2, 2), (3, 3)] [0] 4 _ (by simp [sortP_len]) (by simp [sortP_len]) (by simp [sortP_len]))) (by simp [sortP_len, htkp]) ?_
  refine AW.st teOk [] (by simp [-Option.some.injEq] <;> rfl) trivial ?_
  refine AW.seq ?_
  refine AW.st teOk [] (by simp [-Option.some.injEq] <;> rfl) trivial ?_
  refine AW.block (AW.loop (fun m s => ∃ (j : Nat) (D : List DeS), m = decs.length - j ∧ j ≤ decs.length ∧ D = (decs.take j).map (fun d => ({ d with step := 0 } : DeS)) ++ decs.drop j ∧ s = ⟨[(1, .c (.ptr 0 0 0)), (2, .c (.ptr 1 0 0)), (15, .c (cI decs.length)), (16, .c (cI j))], [(0, ⟨9, [[.ref 2 0 accs.length, .row 5 false (props.map encPr'), .row 1 false (ins.map encIn), encIs nxt, .row 5 false ((sortP pks).map encPk), .ref 3 0 decs.length, cI 0, cI lo, cI am]]⟩), (1, ⟨9, [nilX]⟩), (2, ⟨1, accs.map encC⟩), (3, ⟨4, D.map encDe⟩)], 4⟩) _ (Weak.normS hA [1, 2, 15, 16] [(1, 0), (2, 1)] [(2, 2), (3, 3)] [0] 4 _ (by simp) (by simp) (by simp)) ⟨0, decs, rfl, Nat.zero_le _, rfl, by simp⟩ ?_)
  rintro m s ⟨j, D, rfl, hj, hD, rfl⟩
  refine AW.st teOk [] (by simp [-Option.some.injEq] <;> rfl) trivial ?_
  refine AW.seq (AW.iff (decide (j < decs.length)) (by simp) (fun h => AW.skip ?_) (fun h => AW.exit (x_then (x_then (blockA_exit ?_)))))
  · rw [decide_eq_true_eq] at h
    obtain ⟨d, hd⟩ : ∃ d, decs[j]? = some d := ⟨_, List.getElem?_eq_getElem h⟩
    have hinc : IntKind.i64.wrap ((j : Int) + 1) = (j : Int) + 1 := wrap_s _ (by omega)
    have hg := clear_get decs j hd
    have hs := clear_set decs j hd
    rw [← hD] at hg hs
    obtain ⟨D', hD'⟩ : ∃ D', D' = (decs.take (j + 1)).map (fun d => ({ d with step := 0 } : DeS)) ++ decs.drop (j + 1) := ⟨_, rfl⟩
    have hset : (D.map encDe).set j (encDe { d with step := 0 }) = D'.map encDe := by rw [set_enc, hs, hD']
    simp only [encDe] at hset
    refine AW.seq (AW.block ?_)
    refine AW.st teOk [] (by simp [-Option.some.injEq] <;> rfl) trivial ?_
    refine AW.text teOk (ans := []) (by simp [hg, hset, -Option.some.injEq] <;> rfl) ?_ ?_
    · first | trivial | omega | (simp [allP, growOk] <;> omega)
    refine AW.text teOk (ans := []) (by simp [-Option.some.injEq] <;> rfl) ?_ ?_
    · trivial
    refine ⟨_, _, Weak.normS hA [1, 2, 15, 16] [(1, 0), (2, 1)] [(2, 2), (3, 3)] [0] 4 _ (by simp) (by simp) (by simp), ?_, j + 1, D', rfl, h, hD', ?_⟩
    · omega
    · simp [hinc]
  rw [decide_eq_false_iff_not] at h
  rw [List.take_of_length_le (show decs.length ≤ j by omega), List.drop_eq_nil_of_le (show decs.length ≤ j by omega), List.append_nil] at hD
  have hDl : D.length = decs.length := by rw [hD, List.length_map]
  have htkd : (List.map encDe D).take decs.length = List.map encDe D := List.take_of_length_le (by rw [List.length_map]; omega)
  refine AW.to (s2 := ⟨[(1, .c (.ptr 0 0 0)), (2, .c (.ptr 1 0 0))], [(0, ⟨9, [[encVs accs, .row 5 false (props.map encPr'), .row 1 false (ins.map encIn), encIs nxt, .row 5 false ((sortP pks).map encPk), .row 4 false (D.map encDe), cI 0, cI lo, cI am]]⟩), (1, ⟨9, [nilX]⟩)], 2⟩) ((Weak.freeze 2 ⟨1, accs.map encC⟩ [0] _ (by simp) (by simp)).trans ((Weak.freeze 3 ⟨4, D.map encDe⟩ [0] _ (by simp) (by simp)).trans (Weak.normS hA [1, 2] [(1, 0), (2, 1)] [] [0] 2 _ (by simp [hDl, htkd]) (by simp [hDl, htkd]) (by simp [hDl, htkd])))) (by simp [hDl, htkd]) ?_
  refine AW.st teOk [] (by simp [-Option.some.injEq] <;> rfl) trivial ?_
  refine AW.ret ⟨.inr rfl, _, Weak.refl _, ?_⟩
  rw [hD]
  simp [canX, canG]
end Go.Proofs.YtphlhadgcfndhaaGreatDoor.Abs
end
