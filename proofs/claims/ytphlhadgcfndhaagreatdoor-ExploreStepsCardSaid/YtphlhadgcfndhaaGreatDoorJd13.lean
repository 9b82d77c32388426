/- Joined for the claim: WRc WRv WRe WXsch -/
import Derived.Test.YtphlhadgcfndhaaGreatDoorJd8
import Derived.Test.YtphlhadgcfndhaaGreatDoorJd12
import Derived.Test.YtphlhadgcfndhaaGreatDoorJd9
section
namespace Go.Proofs.YtphlhadgcfndhaaGreatDoor.Abs
open Go Go.RowKit
set_option linter.unusedVariables false
set_option linter.unusedSimpArgs false
set_option maxHeartbeats 4000000
theorem rcmpV_pure (a b : V2) (hla : a.length < 1000000) (hlb : b.length < 1000000) : Pure Tryz.prog 64 [.c (encV a), .c (encV b)] (.c (cI (cmpV a b))) := by
  refine pure_of teOk Tryz.func64 (by kernel_rfl) (c := _) rfl (N := 76) rfl (rs := [Go.ResultVar.tmp 4]) rfl (by simp) fun base A w0 hA => ?_
  refine AW.st teOk [] (by simp [-Option.some.injEq] <;> rfl) trivial ?_
  refine AW.mid (fun s => ∃ j : Nat, cmpV a b = cmpV (a.drop j) (b.drop j) ∧ ¬ (j < a.length ∧ j < b.length) ∧ j ≤ a.length ∧ j ≤ b.length ∧ s = ⟨[(0, .c (encV a)), (1, .c (encV b))], [], 0⟩) ?_ ?_
  · refine AW.st teOk [] (by simp [-Option.some.injEq] <;> rfl) trivial ?_
    refine AW.block (AW.loop (fun m s => ∃ j : Nat, m = a.length - j ∧ j ≤ a.length ∧ j ≤ b.length ∧ cmpV a b = cmpV (a.drop j) (b.drop j) ∧ s = ⟨[(0, .c (encV a)), (1, .c (encV b)), (5, .c (cI j))], [], 0⟩) (a.length - 0) (Weak.normS hA [0, 1, 5] [] [] [] 0 _ (by simp) (by simp) (by simp)) ⟨0, rfl, Nat.zero_le _, Nat.zero_le _, rfl, by simp⟩ ?_)
    rintro m s ⟨j, rfl, hja, hjb, hv, rfl⟩
    refine AW.seq ?_
    by_cases hlt : j < a.length ∧ j < b.length
    · obtain ⟨hlt1, hlt2⟩ := hlt
      obtain ⟨x, hx⟩ : ∃ x, a[j]? = some x := ⟨_, List.getElem?_eq_getElem hlt1⟩
      obtain ⟨y, hy⟩ : ∃ y, b[j]? = some y := ⟨_, List.getElem?_eq_getElem hlt2⟩
      have hinc : IntKind.i64.wrap ((j : Int) + 1) = (j : Int) + 1 := wrap_s _ (by omega)
      have hst := cmpV_step hx hy
      have hE : cmpE x y = if x.1 < y.1 then -1 else if x.1 > y.1 then 1 else if x.2 < y.2 then -1 else if x.2 > y.2 then 1 else 0 := by
        unfold cmpE
        rw [cmpI_or, cmpI_or]
        rfl
      refine AW.st teOk [] (by simp [hlt1, hlt2, -Option.some.injEq] <;> rfl) trivial ?_
      refine AW.iff true (by simp) (fun _ => AW.skip ?_) (fun h => by cases h)
      refine AW.seq (AW.block (AW.block ?_))
      refine AW.dr mixed teOk [] (by simp [hx, hy, -Option.some.injEq] <;> rfl) (by kernel_rfl) (by kernel_rfl) ?_ ?_
      · simp [allP, hlt1, hlt2]
      refine AW.iff (decide (x.1 ≠ y.1)) (by simp <;> rfl) (fun h => ?_) (fun h => ?_)
      · rw [decide_eq_true_eq] at h
        refine AW.seq ?_
        refine AW.dr mixed teOk [] (by simp [hx, hy, -Option.some.injEq] <;> rfl) (by kernel_rfl) (by kernel_rfl) ?_ ?_
        · simp [allP, hlt1, hlt2]
        refine AW.iff (decide (x.1 < y.1)) (by simp) (fun h1 => ?_) (fun h1 => AW.skip ?_)
        · rw [decide_eq_true_eq] at h1
          rw [if_pos h1] at hE
          rw [hst, if_pos (by omega), hE] at hv
          refine AW.st teOk [] (by simp [-Option.some.injEq] <;> rfl) trivial ?_
          refine AW.ret ⟨.inr rfl, _, Weak.refl _, ?_⟩
          simp [hv]
        · rw [decide_eq_false_iff_not] at h1
          rw [if_neg h1, if_pos (by omega)] at hE
          rw [hst, if_pos (by omega), hE] at hv
          refine AW.st teOk [] (by simp [-Option.some.injEq] <;> rfl) trivial ?_
          refine AW.ret ⟨.inr rfl, _, Weak.refl _, ?_⟩
          simp [hv]
      · rw [decide_eq_false_iff_not] at h
        have h0 : x.1 = y.1 := by omega
        rw [if_neg (by omega), if_neg (by omega)] at hE
        refine AW.dr mixed teOk [] (by simp [hx, hy, -Option.some.injEq] <;> rfl) (by kernel_rfl) (by kernel_rfl) ?_ ?_
        · simp [allP, hlt1, hlt2]
        refine AW.iff (decide (x.2 ≠ y.2)) (by simp <;> rfl) (fun h => ?_) (fun h => AW.skip ?_)
        · rw [decide_eq_true_eq] at h
          refine AW.seq ?_
          refine AW.dr mixed teOk [] (by simp [hx, hy, -Option.some.injEq] <;> rfl) (by kernel_rfl) (by kernel_rfl) ?_ ?_
          · simp [allP, hlt1, hlt2]
          refine AW.iff (decide (x.2 < y.2)) (by simp) (fun h1 => ?_) (fun h1 => AW.skip ?_)
          · rw [decide_eq_true_eq] at h1
            rw [if_pos h1] at hE
            rw [hst, if_pos (by omega), hE] at hv
            refine AW.st teOk [] (by simp [-Option.some.injEq] <;> rfl) trivial ?_
            refine AW.ret ⟨.inr rfl, _, Weak.refl _, ?_⟩
            simp [hv]
          · rw [decide_eq_false_iff_not] at h1
            rw [if_neg h1, if_pos (by omega)] at hE
            rw [hst, if_pos (by omega), hE] at hv
            refine AW.st teOk [] (by simp [-Option.some.injEq] <;> rfl) trivial ?_
            refine AW.ret ⟨.inr rfl, _, Weak.refl _, ?_⟩
            simp [hv]
        · rw [decide_eq_false_iff_not] at h
          rw [if_neg (by omega), if_neg (by omega)] at hE
          rw [hst, if_neg (by omega)] at hv
          refine AW.text teOk (ans := []) (by simp [-Option.some.injEq] <;> rfl) ?_ ?_
          · trivial
          refine ⟨_, _, Weak.normS hA [0, 1, 5] [] [] [] 0 _ (by simp) (by simp) (by simp), ?_, j + 1, rfl, hlt1, hlt2, hv, ?_⟩
          · omega
          · simp [hinc]
    · have hf : decide (j < a.length) = false ∨ decide (j < a.length) = true ∧ decide (j < b.length) = false := by
        by_cases h1 : j < a.length
        · exact .inr ⟨decide_eq_true h1, by rw [decide_eq_false_iff_not]; omega⟩
        · exact .inl (by simpa using h1)
      rcases hf with h1 | ⟨h1, h2⟩
      · refine AW.st teOk [] (by simp [h1, -Option.some.injEq] <;> rfl) trivial ?_
        refine AW.iff false (by simp) (fun h => by cases h) (fun _ => AW.exit (x_then (x_then (blockA_exit ?_))))
        exact ⟨_, Weak.normS hA [0, 1] [] [] [] 0 _ (by simp) (by simp) (by simp), j, hv, hlt, hja, hjb, by simp⟩
      · refine AW.st teOk [] (by simp [h1, h2, -Option.some.injEq] <;> rfl) trivial ?_
        refine AW.iff false (by simp) (fun h => by cases h) (fun _ => AW.exit (x_then (x_then (blockA_exit ?_))))
        exact ⟨_, Weak.normS hA [0, 1] [] [] [] 0 _ (by simp) (by simp) (by simp), j, hv, hlt, hja, hjb, by simp⟩
  rintro s ⟨j, hv, hno, hja, hjb, rfl⟩
  have hend : cmpV a b = if a.length < b.length then -1 else if a.length > b.length then 1 else 0 := by
    rw [hv]
    by_cases h1 : a.length < b.length
    · rw [if_pos h1]
      have : j = a.length := by omega
      rw [this, List.drop_length]
      cases hd : b.drop a.length with
      | nil => have := congrArg List.length hd; simp at this; omega
      | cons y r => rfl
    · rw [if_neg h1]
      by_cases h2 : a.length > b.length
      · rw [if_pos h2]
        have : j = b.length := by omega
        rw [this, List.drop_length]
        cases hd : a.drop b.length with
        | nil => have := congrArg List.length hd; simp at this; omega
        | cons y r => rfl
      · rw [if_neg h2]
        have h3 : j = a.length := by omega
        have h4 : j = b.length := by omega
        rw [h3, List.drop_length, show a.length = b.length by omega, List.drop_length]
        rfl
  refine AW.seq (AW.block ?_)
  refine AW.st teOk [] (by simp [-Option.some.injEq] <;> rfl) trivial ?_
  refine AW.iff (decide (a.length < b.length)) (by simp) (fun h => ?_) (fun h => ?_)
  · rw [decide_eq_true_eq] at h
    rw [if_pos h] at hend
    refine AW.st teOk [] (by simp [-Option.some.injEq] <;> rfl) trivial ?_
    refine AW.ret ⟨.inr rfl, _, Weak.refl _, ?_⟩
    simp [hend]
  rw [decide_eq_false_iff_not] at h
  rw [if_neg h] at hend
  refine AW.st teOk [] (by simp [-Option.some.injEq] <;> rfl) trivial ?_
  refine AW.iff (decide (a.length > b.length)) (by simp) (fun h => ?_) (fun h => AW.skip ?_)
  · rw [decide_eq_true_eq] at h
    rw [if_pos h] at hend
    refine AW.st teOk [] (by simp [-Option.some.injEq] <;> rfl) trivial ?_
    refine AW.ret ⟨.inr rfl, _, Weak.refl _, ?_⟩
    simp [hend]
  rw [decide_eq_false_iff_not] at h
  rw [if_neg h] at hend
  refine AW.st teOk [] (by simp [-Option.some.injEq] <;> rfl) trivial ?_
  refine AW.ret ⟨.inr rfl, _, Weak.refl _, ?_⟩
  simp [hend]
theorem cmpI_b (a b : Bool) (l : List Int) : orI (cmpI (numB a) (numB b) :: l) = if a = b then orI l else if a = true then 1 else -1 := by
  rw [cmpI_or]
  cases a <;> cases b <;> simp [numB]
theorem cmpI_e (x y : Int) (l : List Int) : orI (cmpI x y :: l) = if x = y then orI l else if x < y then -1 else 1 := by
  rw [cmpI_or]
  split
  · rw [if_neg (by omega)]
  · split
    · rw [if_neg (by omega)]
    · rw [if_pos (by omega)]
theorem orI_one (x : Int) : orI [x] = x := by
  unfold orI
  split
  · rfl
  · rename_i h
    simp only [orI]
    omega
theorem rless_pure (a b : PkS) (hla : a.v.length < 1000000) (hlb : b.v.length < 1000000) : Pure Tryz.prog 29 [.agg (encPk a), .agg (encPk b)] (.c (cB (decide (cmpP a b < 0)))) := by
  have c0 := rcmpV_pure a.v b.v hla hlb
  have hc : cmpP a b = if a.reply = b.reply then if a.prop = b.prop then if a.acc = b.acc then if a.round = b.round then cmpV a.v b.v else if a.round < b.round then -1 else 1 else if a.acc < b.acc then -1 else 1 else if a.prop < b.prop then -1 else 1 else if a.reply = true then 1 else -1 := by
    unfold cmpP
    rw [cmpI_b, cmpI_e, cmpI_e, cmpI_e, orI_one]
  generalize cmpP a b = C at *
  obtain ⟨ar, ap, aa, ao, av⟩ := a
  obtain ⟨br, bp, ba, bo, bv⟩ := b
  dsimp only at *
  generalize cmpV av bv = V at *
  refine pure_of teOk Tryz.func29 (by kernel_rfl) (c := _) rfl (N := 53) rfl (rs := [Go.ResultVar.tmp 4]) rfl (by simp) fun base A w0 hA => ?_
  refine AW.st teOk [] (by simp [-Option.some.injEq] <;> rfl) trivial ?_
  refine AW.seq (AW.block ?_)
  refine AW.st teOk [] (by simp [-Option.some.injEq] <;> rfl) trivial ?_
  refine AW.iff (ar != br) (by simp) (fun h => ?_) (fun h => ?_)
  · have hne : ar ≠ br := by simpa using h
    rw [if_neg hne] at hc
    refine AW.st teOk [] (by simp [-Option.some.injEq] <;> rfl) trivial ?_
    refine AW.ret ⟨.inr rfl, _, Weak.refl _, ?_⟩
    cases ar <;> simp at hc <;> simp [hc]
  have he : ar = br := by simpa using h
  rw [if_pos he] at hc
  refine AW.st teOk [] (by simp [-Option.some.injEq] <;> rfl) trivial ?_
  refine AW.iff (decide (ap ≠ bp)) (by simp <;> rfl) (fun h => ?_) (fun h => ?_)
  · rw [decide_eq_true_eq] at h
    rw [if_neg h] at hc
    refine AW.st teOk [] (by simp [-Option.some.injEq] <;> rfl) trivial ?_
    refine AW.ret ⟨.inr rfl, _, Weak.refl _, ?_⟩
    by_cases h1 : ap < bp
    · rw [if_pos h1] at hc
      simp [hc, h1]
    · rw [if_neg h1] at hc
      simp [hc, h1]
  rw [decide_eq_false_iff_not] at h
  rw [if_pos (by omega)] at hc
  refine AW.st teOk [] (by simp [-Option.some.injEq] <;> rfl) trivial ?_
  refine AW.iff (decide (aa ≠ ba)) (by simp <;> rfl) (fun h => ?_) (fun h => ?_)
  · rw [decide_eq_true_eq] at h
    rw [if_neg h] at hc
    refine AW.st teOk [] (by simp [-Option.some.injEq] <;> rfl) trivial ?_
    refine AW.ret ⟨.inr rfl, _, Weak.refl _, ?_⟩
    by_cases h1 : aa < ba
    · rw [if_pos h1] at hc
      simp [hc, h1]
    · rw [if_neg h1] at hc
      simp [hc, h1]
  rw [decide_eq_false_iff_not] at h
  rw [if_pos (by omega)] at hc
  refine AW.st teOk [] (by simp [-Option.some.injEq] <;> rfl) trivial ?_
  refine AW.iff (decide (ao ≠ bo)) (by simp <;> rfl) (fun h => ?_) (fun h => AW.skip ?_)
  · rw [decide_eq_true_eq] at h
    rw [if_neg h] at hc
    refine AW.st teOk [] (by simp [-Option.some.injEq] <;> rfl) trivial ?_
    refine AW.ret ⟨.inr rfl, _, Weak.refl _, ?_⟩
    by_cases h1 : ao < bo
    · rw [if_pos h1] at hc
      simp [hc, h1]
    · rw [if_neg h1] at hc
      simp [hc, h1]
  rw [decide_eq_false_iff_not] at h
  rw [if_pos (by omega)] at hc
  subst hc
  refine AW.st teOk [.fz (.c (cI C))] (by simp [-Option.some.injEq] <;> rfl) ?_ ?_
  · simpa using c0
  refine AW.ret ⟨.inr rfl, _, Weak.refl _, ?_⟩
  simp
theorem flatO_sub {k : Nat} {a b : List (List Cell)} (h : flatO ⟨k, b⟩ = true) (hs : ∀ e ∈ a, e ∈ b) : flatO ⟨k, a⟩ = true := by
  unfold flatO at *
  rw [List.all_eq_true] at *
  exact fun e he => h e (hs e he)
theorem insR_app (x : PkS) : ∀ (R T : List PkS), (∀ y ∈ R, cmpP x y < 0) → insR x (R ++ T) = R ++ insR x T
  | [], T, _ => rfl
  | y :: R, T, h => by
    rw [List.cons_append, insR, if_pos (h y (by simp)), insR_app x R T fun z hz => h z (by simp [hz])]
    rfl
theorem insR_ins (x : PkS) (l : List PkS) (k : Nat) (hk : k ≤ l.length) (h1 : ∀ y ∈ l.drop k, cmpP x y < 0) (h2 : ∀ y, 0 < k → l[k - 1]? = some y → ¬ cmpP x y < 0) : (insR x l.reverse).reverse = l.take k ++ x :: l.drop k := by
  have hs : l.reverse = (l.drop k).reverse ++ (l.take k).reverse := by rw [← List.reverse_append, List.take_append_drop]
  rw [hs, insR_app x _ _ (fun y hy => h1 y (List.mem_reverse.1 hy))]
  have h3 : insR x (l.take k).reverse = x :: (l.take k).reverse := by
    by_cases hz : k = 0
    · subst hz
      simp [insR]
    · obtain ⟨y, hy⟩ : ∃ y, l[k - 1]? = some y := ⟨_, List.getElem?_eq_getElem (by omega)⟩
      have h4 := h2 y (by omega) hy
      have h5 : l.take k = l.take (k - 1) ++ [y] := by
        have : k = (k - 1) + 1 := by omega
        rw [this, List.take_add_one, Nat.add_sub_cancel, hy]
        rfl
      rw [h5, List.reverse_append]
      show insR x (y :: (l.take (k - 1)).reverse) = _
      rw [insR, if_neg h4]
      rfl
  rw [h3, List.reverse_append, List.reverse_cons, List.reverse_reverse, List.reverse_reverse, List.append_assoc]
  rfl
theorem copy_ins {α : Type} (l : List α) (z x : α) (k : Nat) (hk : k ≤ l.length) : (((l ++ [z]).take (k + 1)) ++ ((l ++ [z]).drop k).take (l.length + 1 - (k + 1)) ++ (l ++ [z]).drop (k + 1 + min (l.length + 1 - k) (l.length + 1 - (k + 1)))).set k x = l.take k ++ x :: l.drop k := by
  have h1 : (l ++ [z]).drop (k + 1 + min (l.length + 1 - k) (l.length + 1 - (k + 1))) = [] := List.drop_eq_nil_of_le (by simp; omega)
  have h2 : ((l ++ [z]).drop k).take (l.length + 1 - (k + 1)) = l.drop k := by
    rw [List.drop_append_of_le_length hk, List.take_append_of_le_length (by rw [List.length_drop]; omega), List.take_of_length_le (by rw [List.length_drop]; omega)]
  obtain ⟨y, hy⟩ : ∃ y, (l ++ [z])[k]? = some y := ⟨_, List.getElem?_eq_getElem (by simp; omega)⟩
  have h3 : (l ++ [z]).take (k + 1) = l.take k ++ [y] := by
    rw [List.take_add_one, hy, List.take_append_of_le_length hk]
    rfl
  have h4 : (l.take k).length = k := by rw [List.length_take]; omega
  rw [h1, h2, h3, List.append_nil, List.append_assoc, List.set_append_right _ _ (by omega), h4, Nat.sub_self]
  rfl
theorem rcan_pure (s : XpS) (hdl : s.g.decs.length < 1000000) (hk : s.g.pks.length < 20) (hkv : ∀ k ∈ s.g.pks, k.v.length < 1000000) : Pure Tryz.prog 11 [.agg (encXp s)] (.agg (encXp (canX s))) := by
  obtain ⟨⟨accs, props, ins, nxt, pks, decs, steps⟩, lo, am⟩ := s
  dsimp only at *
  refine pure_of teOk Tryz.func11 (by kernel_rfl) (c := _) rfl (N := 81) rfl (rs := [Go.ResultVar.cell 2 45]) rfl (by simp) fun base A w0 hA => ?_
  refine AW.st teOk [] (by simp [-Option.some.injEq] <;> rfl) trivial ?_
  refine AW.st teOk [] (by simp [-Option.some.injEq] <;> rfl) trivial ?_
  refine AW.weak (Weak.nil 3 5 _ (by simp <;> rfl)) ?_
  refine AW.seq ?_
  refine AW.st teOk [] (by simp [-Option.some.injEq] <;> rfl) trivial ?_
  refine AW.block (AW.loop (fun m s => ∃ (i : Nat) (l : List PkS), m = pks.length - i ∧ i ≤ pks.length ∧ l = (sortR [] (pks.take i)).reverse ∧ s = ⟨[(1, .c (.ptr 0 0 0)), (2, .c (.ptr 1 0 0)), (3, .c (.ref 2 0 l.length)), (4, .c (cI i))], [(0, ⟨9, [encXp ⟨⟨accs, props, ins, nxt, pks, decs, steps⟩, lo, am⟩]⟩), (1, ⟨9, [nilX]⟩), (2, ⟨5, l.map encPk⟩)], 3⟩) (pks.length - 0) (Weak.normS hA [1, 2, 3, 4] [(1, 0), (2, 1), (3, 2)] [] [] 3 _ (by simp [putA]) (by simp [putA]) (by simp [putA])) ⟨0, [], rfl, Nat.zero_le _, rfl, by simp [putA]⟩ ?_)
  rintro m s ⟨i, l, rfl, hi, hl, rfl⟩
  have hll : l.length = i := by rw [hl, List.length_reverse, sortR_len, List.length_take]; simp; omega
  have hlm : ∀ y ∈ l, y ∈ pks := fun y hy => by
    rw [hl, List.mem_reverse, sortR_mem] at hy
    rcases hy with hy | hy
    · cases hy
    · exact List.mem_of_mem_take hy
  refine AW.seq ?_
  refine AW.st teOk [] (by simp [-Option.some.injEq] <;> rfl) trivial ?_
  refine AW.iff (decide (i < pks.length)) (by simp) (fun h => AW.skip ?_) (fun h => AW.exit (x_then (x_then (blockA_exit ?_))))
  · rw [decide_eq_true_eq] at h
    obtain ⟨x, hx⟩ : ∃ x, pks[i]? = some x := ⟨_, List.getElem?_eq_getElem h⟩
    have hinc : IntKind.i64.wrap ((i : Int) + 1) = (i : Int) + 1 := wrap_s _ (by omega)
    refine AW.seq (AW.block ?_)
    refine AW.st teOk [] (by simp [-Option.some.injEq] <;> rfl) trivial ?_
    refine AW.mid (fun s => ∃ k : Nat, k ≤ l.length ∧ (∀ y ∈ l.drop k, cmpP x y < 0) ∧ (∀ y, 0 < k → l[k - 1]? = some y → ¬ cmpP x y < 0) ∧ s = ⟨[(1, .c (.ptr 0 0 0)), (2, .c (.ptr 1 0 0)), (3, .c (.ref 2 0 l.length)), (4, .c (cI i)), (5, .c (cI k))], [(0, ⟨9, [encXp ⟨⟨accs, props, ins, nxt, pks, decs, steps⟩, lo, am⟩]⟩), (1, ⟨9, [nilX]⟩), (2, ⟨5, l.map encPk⟩)], 3⟩) ?_ ?_
    · refine AW.block (AW.loop (fun m s => ∃ k : Nat, m = k ∧ k ≤ l.length ∧ (∀ y ∈ l.drop k, cmpP x y < 0) ∧ s = ⟨[(1, .c (.ptr 0 0 0)), (2, .c (.ptr 1 0 0)), (3, .c (.ref 2 0 l.length)), (4, .c (cI i)), (5, .c (cI k))], [(0, ⟨9, [encXp ⟨⟨accs, props, ins, nxt, pks, decs, steps⟩, lo, am⟩]⟩), (1, ⟨9, [nilX]⟩), (2, ⟨5, l.map encPk⟩)], 3⟩) l.length (Weak.normS hA [1, 2, 3, 4, 5] [(1, 0), (2, 1), (3, 2)] [] [] 3 _ (by simp) (by simp) (by simp)) ⟨l.length, rfl, Nat.le_refl _, by simp, by simp⟩ ?_)
      rintro k s ⟨_, rfl, hkl, hdr, rfl⟩
      refine AW.seq ?_
      by_cases hz : k = 0
      · subst hz
        refine AW.dr mixed teOk [] (by simp [-Option.some.injEq] <;> rfl) (by kernel_rfl) (by kernel_rfl) ?_ ?_
        · simp [allP]
        refine AW.iff false (by simp) (fun h => by cases h) (fun _ => AW.exit (x_then (x_then (blockA_exit ?_))))
        exact ⟨_, Weak.normS hA [1, 2, 3, 4, 5] [(1, 0), (2, 1), (3, 2)] [] [] 3 _ (by simp) (by simp) (by simp), 0, hkl, hdr, (fun y h0 => by omega), by simp⟩
      · obtain ⟨y, hy⟩ : ∃ y, l[k - 1]? = some y := ⟨_, List.getElem?_eq_getElem (by omega)⟩
        have hwk : IntKind.i64.wrap ((k : Int) - 1) = ((k - 1 : Nat) : Int) := by rw [IntKind.wrap_i64]; omega
        have c0 := rless_pure x y (hkv x (List.mem_of_getElem? hx)) (hkv y (hlm y (List.mem_of_getElem? hy)))
        obtain ⟨q, hq⟩ : ∃ q, k - 1 = q := ⟨_, rfl⟩
        rw [hq] at hwk hy
        have hkp : (0 : Int) < k := by omega
        have hkp2 : 0 < k := by omega
        refine AW.dr mixed teOk [.c (cB (decide (cmpP x y < 0)))] (by simp [hx, hy, hwk, hkp, hkp2, -Option.some.injEq] <;> rfl) (by kernel_rfl) (by kernel_rfl) ?_ ?_
        · simp [allP]
          exact ⟨h, by omega, c0⟩
        refine AW.iff (decide (cmpP x y < 0)) (by simp) (fun h3 => AW.skip ?_) (fun h3 => AW.exit (x_then (x_then (blockA_exit ?_))))
        · rw [decide_eq_true_eq] at h3
          refine AW.block ?_
          refine AW.text teOk (ans := []) (by simp [hwk, -Option.some.injEq] <;> rfl) ?_ ?_
          · trivial
          refine ⟨_, _, Weak.normS hA [1, 2, 3, 4, 5] [(1, 0), (2, 1), (3, 2)] [] [] 3 _ (by simp) (by simp) (by simp), ?_, q, rfl, by omega, fun z hz => ?_, ?_⟩
          · omega
          · have : l.drop q = y :: l.drop k := by
              rw [List.drop_eq_getElem_cons (by omega), (List.getElem?_eq_some_iff.1 hy).2]
              rw [show q + 1 = k by omega]
            rw [this] at hz
            rcases List.mem_cons.1 hz with rfl | hz
            · exact h3
            · exact hdr z hz
          · simp [hwk]
        · rw [decide_eq_false_iff_not] at h3
          exact ⟨_, Weak.normS hA [1, 2, 3, 4, 5] [(1, 0), (2, 1), (3, 2)] [] [] 3 _ (by simp) (by simp) (by simp), k, hkl, hdr, (fun z _ hz => by rw [hq, hy] at hz; cases hz; exact h3), by simp⟩
    rintro s ⟨k, hkl, hdr, hnl, rfl⟩
    have hins := insR_ins x l k hkl hdr hnl
    obtain ⟨z, hz⟩ : ∃ z : List Cell, z = [cB false, cI 0, cI 0, cI 0, .sc (.slice none 0 0)] := ⟨_, rfl⟩
    have hcp := copy_ins (l.map encPk) z (encPk x) k (by simpa using hkl)
    have hnew : (insR x l.reverse).reverse = (sortR [] (pks.take (i + 1))).reverse := by
      rw [List.take_add_one, hx, sortR_app, hl, List.reverse_reverse]
      rfl
    obtain ⟨L, hL⟩ : ∃ L, L = (insR x l.reverse).reverse := ⟨_, rfl⟩
    have hes : (l.map encPk).take k ++ encPk x :: (l.map encPk).drop k = L.map encPk := by
      rw [hL, hins, List.map_append, List.map_cons, List.map_take, List.map_drop]
    rw [hes, List.length_map] at hcp
    have hLl : L.length = l.length + 1 := by rw [hL, List.length_reverse, insR_len, List.length_reverse]
    have hwk : IntKind.i64.wrap ((k : Int) + 1) = ((k + 1 : Nat) : Int) := by rw [IntKind.wrap_i64]; omega
    refine AW.to (s2 := ⟨[(1, .c (.ptr 0 0 0)), (2, .c (.ptr 1 0 0)), (3, .c (.ref 2 0 l.length)), (4, .c (cI i)), (5, .c (cI k))], [(0, ⟨9, [encXp ⟨⟨accs, props, ins, nxt, pks, decs, steps⟩, lo, am⟩]⟩), (1, ⟨9, [nilX]⟩), (2, ⟨5, l.map encPk⟩)], 3⟩) (Weak.refl _) rfl ?_
    refine AW.st teOk [] (by simp [-Option.some.injEq] <;> rfl) ?_ ?_
    · simp [growOk]
      omega
    obtain ⟨k1, hk1⟩ : ∃ k1, k1 = k + 1 := ⟨_, rfl⟩
    obtain ⟨n1, hn1⟩ : ∃ n1, n1 = l.length + 1 := ⟨_, rfl⟩
    rw [← hk1] at hwk
    rw [← hk1, ← hn1] at hcp
    refine AW.to (s2 := ⟨[(1, .c (.ptr 0 0 0)), (2, .c (.ptr 1 0 0)), (3, .c (.ref 2 0 n1)), (4, .c (cI i)), (5, .c (cI k))], [(0, ⟨9, [encXp ⟨⟨accs, props, ins, nxt, pks, decs, steps⟩, lo, am⟩]⟩), (1, ⟨9, [nilX]⟩), (2, ⟨5, l.map encPk ++ [z]⟩)], 3⟩) (Weak.normS hA [1, 2, 3, 4, 5] [(1, 0), (2, 1), (3, 2)] [] [] 3 _ (by simp) (by simp) (by simp)) (by simp [hn1, hz]) ?_
    obtain ⟨Z, hZ⟩ : ∃ Z, Z = l.map encPk ++ [z] := ⟨_, rfl⟩
    have hZl : Z.length = n1 := by rw [hZ, hn1]; simp
    have hZ5 : ∀ e ∈ Z, e.length = 5 := fun e he => by
      rw [hZ] at he
      rcases List.mem_append.1 he with he | he
      · obtain ⟨q, _, rfl⟩ := List.mem_map.1 he
        rfl
      · rw [List.mem_singleton.1 he, hz]
        rfl
    rw [← hZ] at hcp ⊢
    have hkn0 : k < n1 := by omega
    have hle1 : k + (n1 - k) ≤ n1 := by omega
    have htd : (Z.drop k).take (n1 - k) = Z.drop k := List.take_of_length_le (by rw [List.length_drop]; omega)
    have hZf : flatO ⟨5, Z⟩ = true := by
      rw [hZ, hz]
      simp
    have f1 : flatO ⟨5, List.take k1 Z⟩ = true := flatO_sub hZf fun e he => List.mem_of_mem_take he
    have f2 : flatO ⟨5, List.take (n1 - k1) (List.drop k Z)⟩ = true := flatO_sub hZf fun e he => List.mem_of_mem_drop (List.mem_of_mem_take he)
    have f3 : flatO ⟨5, List.drop (k1 + min (n1 - k) (n1 - k1)) Z⟩ = true := flatO_sub hZf fun e he => List.mem_of_mem_drop he
    have hd5 : ∀ e ∈ Z.drop k, e.length = 5 := fun e he => hZ5 e (List.mem_of_mem_drop he)
    refine AW.mid (fun s => ∃ W : List (List Cell), W.set k (encPk x) = L.map encPk ∧ W.length = n1 ∧ (∀ e ∈ W, e.length = 5) ∧ s = ⟨[(1, .c (.ptr 0 0 0)), (2, .c (.ptr 1 0 0)), (3, .c (.ref 2 0 n1)), (4, .c (cI i)), (5, .c (cI k))], [(0, ⟨9, [encXp ⟨⟨accs, props, ins, nxt, pks, decs, steps⟩, lo, am⟩]⟩), (1, ⟨9, [nilX]⟩), (2, ⟨5, W⟩)], 3⟩) ?_ ?_
    · by_cases hkn : k1 < n1
      · refine AW.draw mixed teOk (ans := []) (by simp [hwk, hkn, hkn0, hZl, hle1, htd, -Option.some.injEq] <;> rfl) (by kernel_rfl) (by kernel_rfl) ?_ ?_
        · simp [allP]
          exact ⟨by omega, hd5⟩
        refine ⟨_, Weak.normS hA [1, 2, 3, 4, 5] [(1, 0), (2, 1), (3, 2)] [] [] 3 _ (by simp) (by simp) (by simp [f1, f2, f3]), List.take k1 Z ++ (List.take (n1 - k1) (List.drop k Z) ++ List.drop (k1 + min (n1 - k) (n1 - k1)) Z), by rw [← List.append_assoc]; exact hcp, ?_, ?_, by simp⟩
        · rw [List.length_append, List.length_append, List.length_take, List.length_take, List.length_drop, List.length_drop]
          omega
        · intro e he
          rcases List.mem_append.1 he with he | he
          · exact hZ5 e (List.mem_of_mem_take he)
          rcases List.mem_append.1 he with he | he
          · exact hd5 e (List.mem_of_mem_take he)
          · exact hZ5 e (List.mem_of_mem_drop he)
      · have hke : k1 = n1 := by omega
        refine AW.draw mixed teOk (ans := []) (by simp [hwk, hkn, hkn0, hZl, hle1, htd, -Option.some.injEq] <;> rfl) (by kernel_rfl) (by kernel_rfl) ?_ ?_
        · simp [allP]
          exact ⟨by omega, hd5⟩
        refine ⟨_, Weak.normS hA [1, 2, 3, 4, 5] [(1, 0), (2, 1), (3, 2)] [] [] 3 _ (by simp) (by simp) (by simp [hZf]), Z, ?_, hZl, hZ5, by simp⟩
        rw [hke, Nat.sub_self, List.take_zero, List.append_nil, List.take_of_length_le (by omega), List.drop_eq_nil_of_le (by omega), List.append_nil] at hcp
        exact hcp
    rintro s ⟨W, hW, hWl, hW5, rfl⟩
    obtain ⟨c, hc⟩ : ∃ c, W[k]? = some c := ⟨_, List.getElem?_eq_getElem (by omega)⟩
    have hc5 := hW5 c (List.mem_of_getElem? hc)
    obtain ⟨q0, q1, q2, q3, q4, rfl⟩ : ∃ q0 q1 q2 q3 q4, c = [q0, q1, q2, q3, q4] := by
      match c, hc5 with
      | [q0, q1, q2, q3, q4], _ => exact ⟨_, _, _, _, _, rfl⟩
    simp only [encPk] at hW
    refine AW.text teOk (ans := []) (by simp [hx, hc, hWl, -Option.some.injEq] <;> rfl) ?_ ?_
    · refine ⟨?_, ?_⟩ <;> omega
    refine AW.text teOk (ans := []) (by simp [-Option.some.injEq] <;> rfl) ?_ ?_
    · trivial
    refine ⟨_, _, Weak.normS hA [1, 2, 3, 4] [(1, 0), (2, 1), (3, 2)] [] [] 3 _ (by simp) (by simp) (by simp [hW]), ?_, i + 1, L, rfl, h, ?_, ?_⟩
    · omega
    · rw [hL]; exact hnew
    · simp [hinc, hW, hLl, hn1]
  have hil : i = pks.length := by
    rw [decide_eq_false_iff_not] at h
    omega
  rw [hil, List.take_length] at hl
  have hl2 : l = sortP pks := hl
  have htk : (l.map encPk).take l.length = l.map encPk := List.take_of_length_le (by rw [List.length_map]; exact Nat.le_refl _)
  clear h hl hlm hll hi hil
  refine AW.st teOk [] (by simp [-Option.some.injEq] <;> rfl) trivial ?_
  refine AW.to (s2 := ⟨[(1, .c (.ptr 0 0 0)), (2, .c (.ptr 1 0 0))], [(0, ⟨9, [[encVs accs, .row 5 false (props.map encPr'), .row 1 false (ins.map encIn), encIs nxt, .row 5 false (l.map encPk), .row 4 false (decs.map encDe), cI steps, cI lo, cI am]]⟩), (1, ⟨9, [nilX]⟩)], 2⟩) ((Weak.freeze 2 ⟨5, l.map encPk⟩ [0] _ (by simp) (by simp)).trans (Weak.normS hA [1, 2] [(1, 0), (2, 1)] [] [0] 2 _ (by simp [htk]) (by simp [htk]) (by simp [htk]))) (by simp [htk]) ?_
  refine AW.st teOk [] (by simp [-Option.some.injEq] <;> rfl) trivial ?_
  refine AW.st teOk [] (by simp [-Option.some.injEq] <;> rfl) ?_ ?_
  · simp [growOk]
    omega
  refine AW.mid (fun s => ∃ D : List DeS, D = decs.map (fun d => ({ d with step := 0 } : DeS)) ∧ s = ⟨[(1, .c (.ptr 0 0 0)), (2, .c (.ptr 1 0 0)), (6, .c (.ref 2 0 D.length))], [(0, ⟨9, [[encVs accs, .row 5 false (props.map encPr'), .row 1 false (ins.map encIn), encIs nxt, .row 5 false (l.map encPk), .row 4 false (decs.map encDe), cI 0, cI lo, cI am]]⟩), (1, ⟨9, [nilX]⟩), (2, ⟨4, D.map encDe⟩)], 3⟩) ?_ ?_
  · refine AW.st teOk [] (by simp [-Option.some.injEq] <;> rfl) trivial ?_
    refine AW.block (AW.loop (fun m s => ∃ (j : Nat) (D : List DeS), m = decs.length - j ∧ j ≤ decs.length ∧ D = (decs.take j).map (fun d => ({ d with step := 0 } : DeS)) ++ decs.drop j ∧ s = ⟨[(1, .c (.ptr 0 0 0)), (2, .c (.ptr 1 0 0)), (6, .c (.ref 2 0 decs.length)), (7, .c (cI j))], [(0, ⟨9, [[encVs accs, .row 5 false (props.map encPr'), .row 1 false (ins.map encIn), encIs nxt, .row 5 false (l.map encPk), .row 4 false (decs.map encDe), cI 0, cI lo, cI am]]⟩), (1, ⟨9, [nilX]⟩), (2, ⟨4, D.map encDe⟩)], 3⟩) (decs.length - 0) (Weak.normS hA [1, 2, 6, 7] [(1, 0), (2, 1), (6, 2)] [] [] 3 _ (by simp) (by simp) (by simp)) ⟨0, decs, rfl, Nat.zero_le _, rfl, by simp⟩ ?_)
    rintro m s ⟨j, D, rfl, hj, hD, rfl⟩
    have hDl : D.length = decs.length := by rw [hD]; simp; omega
    refine AW.seq ?_
    refine AW.st teOk [] (by simp [-Option.some.injEq] <;> rfl) trivial ?_
    refine AW.iff (decide (j < decs.length)) (by simp) (fun h => AW.skip ?_) (fun h => AW.exit (x_then (x_then (blockA_exit ?_))))
    · rw [decide_eq_true_eq] at h
      obtain ⟨d, hd⟩ : ∃ d, decs[j]? = some d := ⟨_, List.getElem?_eq_getElem h⟩
      have hinc : IntKind.i64.wrap ((j : Int) + 1) = (j : Int) + 1 := wrap_s _ (by omega)
      have hg := clear_get decs j hd
      have hs := clear_set decs j hd
      rw [← hD] at hg hs
      obtain ⟨D', hD'⟩ : ∃ D', D' = (decs.take (j + 1)).map (fun d => ({ d with step := 0 } : DeS)) ++ decs.drop (j + 1) := ⟨_, rfl⟩
      have hset : (D.map encDe).set j (encDe { d with step := 0 }) = D'.map encDe := by rw [set_enc, hs, hD']
      simp only [encDe] at hset
      refine AW.seq (AW.block ?_)
      refine AW.text teOk (ans := []) (by simp [hg, hset, -Option.some.injEq] <;> rfl) ?_ ?_
      · omega
      refine AW.text teOk (ans := []) (by simp [-Option.some.injEq] <;> rfl) ?_ ?_
      · trivial
      refine ⟨_, _, Weak.normS hA [1, 2, 6, 7] [(1, 0), (2, 1), (6, 2)] [] [] 3 _ (by simp) (by simp) (by simp), ?_, j + 1, D', rfl, h, hD', ?_⟩
      · omega
      · simp [hinc]
    rw [decide_eq_false_iff_not] at h
    rw [List.take_of_length_le (show decs.length ≤ j by omega), List.drop_eq_nil_of_le (show decs.length ≤ j by omega), List.append_nil] at hD
    rw [← hDl]
    exact ⟨_, Weak.normS hA [1, 2, 6] [(1, 0), (2, 1), (6, 2)] [] [] 3 _ (by simp) (by simp) (by simp), D, hD, by simp⟩
  rintro s ⟨D, hD, rfl⟩
  have htkd : (D.map encDe).take D.length = D.map encDe := List.take_of_length_le (by rw [List.length_map]; exact Nat.le_refl _)
  refine AW.st teOk [] (by simp [-Option.some.injEq] <;> rfl) trivial ?_
  refine AW.to (s2 := ⟨[(1, .c (.ptr 0 0 0)), (2, .c (.ptr 1 0 0))], [(0, ⟨9, [[encVs accs, .row 5 false (props.map encPr'), .row 1 false (ins.map encIn), encIs nxt, .row 5 false (l.map encPk), .row 4 false (D.map encDe), cI 0, cI lo, cI am]]⟩), (1, ⟨9, [nilX]⟩)], 2⟩) ((Weak.freeze 2 ⟨4, D.map encDe⟩ [0] _ (by simp) (by simp)).trans (Weak.normS hA [1, 2] [(1, 0), (2, 1)] [] [0] 2 _ (by simp [htkd]) (by simp [htkd]) (by simp [htkd]))) (by simp [htkd]) ?_
  refine AW.st teOk [] (by simp [-Option.some.injEq] <;> rfl) trivial ?_
  refine AW.ret ⟨.inr rfl, _, Weak.refl _, ?_⟩
  rw [hD, hl2]
  simp [canX, canG]
end Go.Proofs.YtphlhadgcfndhaaGreatDoor.Abs
end
section
namespace Go.Proofs.YtphlhadgcfndhaaGreatDoor.Abs
open Go Go.RowKit
set_option linter.unusedVariables false
set_option linter.unusedSimpArgs false
set_option maxHeartbeats 4000000
theorem cvt_pure (s : XpS) (hb : GrB s.g) : Pure Tryz.prog 24 [.agg (encXp s)] (.agg (encXp s)) := by
  have hbal := hb.al
  have hbpl := hb.pl
  have hbkl := hb.kl
  have hbdl := hb.dl
  obtain ⟨⟨accs, props, ins, nxt, pks, decs, steps⟩, lo, am⟩ := s
  dsimp only at *
  refine pure_of teOk Tryz.func24 (by kernel_rfl) (c := _) rfl (N := 135) rfl (rs := [Go.ResultVar.cell 2 45]) rfl (by simp) fun base A w0 hA => ?_
  refine AW.st teOk [] (by simp [-Option.some.injEq] <;> rfl) trivial ?_
  refine AW.st teOk [] (by simp [-Option.some.injEq] <;> rfl) trivial ?_
  refine AW.to (s2 := ⟨[(1, .c (.ptr 0 0 0)), (2, .c (.ptr 1 0 0)), (3, .c (.ptr 2 0 0))], [(0, ⟨9, [encXp ⟨⟨accs, props, ins, nxt, pks, decs, steps⟩, lo, am⟩]⟩), (1, ⟨9, [nilX]⟩), (2, ⟨7, [[.sc (.slice none 0 0), .sc (.slice none 0 0), .row 1 false (ins.map encIn), encIs nxt, .sc (.slice none 0 0), .sc (.slice none 0 0), cI steps]]⟩)], 3⟩) (Weak.normS hA [1, 2, 3] [(1, 0), (2, 1), (3, 2)] [] [] 3 _ (by simp) (by simp) (by simp)) (by simp) ?_
  refine AW.mid (fun s' => s' = ⟨[(1, .c (.ptr 0 0 0)), (2, .c (.ptr 1 0 0)), (3, .c (.ptr 2 0 0))], [(0, ⟨9, [encXp ⟨⟨accs, props, ins, nxt, pks, decs, steps⟩, lo, am⟩]⟩), (1, ⟨9, [nilX]⟩), (2, ⟨7, [[encVs accs, .sc (.slice none 0 0), .row 1 false (ins.map encIn), encIs nxt, .sc (.slice none 0 0), .sc (.slice none 0 0), cI steps]]⟩)], 3⟩) ?_ ?_
  · refine AW.to (s2 := ⟨[(1, .c (.ptr 0 0 0)), (2, .c (.ptr 1 0 0)), (3, .c (.ptr 2 0 0))], [(0, ⟨9, [encXp ⟨⟨accs, props, ins, nxt, pks, decs, steps⟩, lo, am⟩]⟩), (1, ⟨9, [nilX]⟩), (2, ⟨7, [[.ref 3 0 0, .sc (.slice none 0 0), .row 1 false (ins.map encIn), encIs nxt, .sc (.slice none 0 0), .sc (.slice none 0 0), cI steps]]⟩), (3, ⟨1, []⟩)], 4⟩) ((Weak.nilO 2 0 1 _ (by simp <;> exact ⟨rfl, rfl⟩) rfl (by simp)).trans (Weak.normS hA [1, 2, 3] [(1, 0), (2, 1), (3, 2)] [(3, 3)] [2] 4 _ (by simp [putA]) (by simp [putA]) (by simp [putA]))) (by simp [putA]) ?_
    refine AW.st teOk [] (by simp [-Option.some.injEq] <;> rfl) trivial ?_
    refine AW.block (AW.loop (fun m s' => ∃ (j : Nat) (Q : List V2), m = accs.length - j ∧ j ≤ accs.length ∧ Q = accs.take j ∧ s' = ⟨[(1, .c (.ptr 0 0 0)), (2, .c (.ptr 1 0 0)), (3, .c (.ptr 2 0 0)), (4, .c (cI j))], [(0, ⟨9, [encXp ⟨⟨accs, props, ins, nxt, pks, decs, steps⟩, lo, am⟩]⟩), (1, ⟨9, [nilX]⟩), (2, ⟨7, [[.ref 3 0 j, .sc (.slice none 0 0), .row 1 false (ins.map encIn), encIs nxt, .sc (.slice none 0 0), .sc (.slice none 0 0), cI steps]]⟩), (3, ⟨1, Q.map encC⟩)], 4⟩) (accs.length - 0) (Weak.normS hA [1, 2, 3, 4] [(1, 0), (2, 1), (3, 2)] [(3, 3)] [2] 4 _ (by simp) (by simp) (by simp)) ⟨0, [], rfl, Nat.zero_le _, rfl, by simp⟩ ?_)
    rintro m s' ⟨j, Q, rfl, hj, hQ, rfl⟩
    have hQl : Q.length = j := by rw [hQ, List.length_take]; omega
    refine AW.seq ?_
    refine AW.st teOk [] (by simp [-Option.some.injEq] <;> rfl) trivial ?_
    refine AW.iff (decide (j < accs.length)) (by simp) (fun h => AW.skip ?_) (fun h => AW.exit (x_then (x_then (blockA_exit ?_))))
    · rw [decide_eq_true_eq] at h
      obtain ⟨x, hx⟩ : ∃ x, accs[j]? = some x := ⟨_, List.getElem?_eq_getElem h⟩
      have hinc : IntKind.i64.wrap ((j : Int) + 1) = (j : Int) + 1 := wrap_s _ (by omega)
      have hQ2 : accs.take (j + 1) = Q ++ [x] := by rw [List.take_add_one, hx, hQ]; rfl
      refine AW.seq (AW.block ?_)
      refine AW.draw mixed teOk (ans := []) (by simp [hx, -Option.some.injEq] <;> rfl) (by kernel_rfl) (by kernel_rfl) ?_ ?_
      · simp [allP, growOk, hQl]
        omega
      refine AW.text teOk (ans := []) (by simp [-Option.some.injEq] <;> rfl) ?_ ?_
      · trivial
      refine ⟨_, _, Weak.normS hA [1, 2, 3, 4] [(1, 0), (2, 1), (3, 2)] [(20, 3)] [2] 4 _ (by simp) (by simp) (by simp), ?_, j + 1, Q ++ [x], rfl, h, hQ2.symm, ?_⟩
      · omega
      · simp [hinc, hQl]
    have hjl : j = accs.length := by
      rw [decide_eq_false_iff_not] at h
      omega
    rw [hjl, List.take_length] at hQ
    have hQ' := hQ.symm
    subst hQ'
    subst hjl
    have htk : (accs.map encC).take accs.length = accs.map encC := List.take_of_length_le (by rw [List.length_map]; exact Nat.le_refl _)
    exact ⟨_, (Weak.freeze 3 ⟨1, accs.map encC⟩ [2] _ (by simp) (by simp)).trans (Weak.normS hA [1, 2, 3] [(1, 0), (2, 1), (3, 2)] [] [2] 3 _ (by simp [htk]) (by simp [htk]) (by simp [htk])), by simp [htk]⟩
  rintro s' rfl
  refine AW.mid (fun s' => s' = ⟨[(1, .c (.ptr 0 0 0)), (2, .c (.ptr 1 0 0)), (3, .c (.ptr 2 0 0))], [(0, ⟨9, [encXp ⟨⟨accs, props, ins, nxt, pks, decs, steps⟩, lo, am⟩]⟩), (1, ⟨9, [nilX]⟩), (2, ⟨7, [[encVs accs, .row 5 false (props.map encPr'), .row 1 false (ins.map encIn), encIs nxt, .sc (.slice none 0 0), .sc (.slice none 0 0), cI steps]]⟩)], 3⟩) ?_ ?_
  · refine AW.to (s2 := ⟨[(1, .c (.ptr 0 0 0)), (2, .c (.ptr 1 0 0)), (3, .c (.ptr 2 0 0))], [(0, ⟨9, [encXp ⟨⟨accs, props, ins, nxt, pks, decs, steps⟩, lo, am⟩]⟩), (1, ⟨9, [nilX]⟩), (2, ⟨7, [[encVs accs, .ref 3 0 0, .row 1 false (ins.map encIn), encIs nxt, .sc (.slice none 0 0), .sc (.slice none 0 0), cI steps]]⟩), (3, ⟨5, []⟩)], 4⟩) ((Weak.nilO 2 1 5 _ (by simp <;> exact ⟨rfl, rfl⟩) rfl (by simp)).trans (Weak.normS hA [1, 2, 3] [(1, 0), (2, 1), (3, 2)] [(3, 3)] [2] 4 _ (by simp [putA]) (by simp [putA]) (by simp [putA]))) (by simp [putA]) ?_
    refine AW.st teOk [] (by simp [-Option.some.injEq] <;> rfl) trivial ?_
    refine AW.block (AW.loop (fun m s' => ∃ (j : Nat) (Q : List PrS), m = props.length - j ∧ j ≤ props.length ∧ Q = props.take j ∧ s' = ⟨[(1, .c (.ptr 0 0 0)), (2, .c (.ptr 1 0 0)), (3, .c (.ptr 2 0 0)), (5, .c (cI j))], [(0, ⟨9, [encXp ⟨⟨accs, props, ins, nxt, pks, decs, steps⟩, lo, am⟩]⟩), (1, ⟨9, [nilX]⟩), (2, ⟨7, [[encVs accs, .ref 3 0 j, .row 1 false (ins.map encIn), encIs nxt, .sc (.slice none 0 0), .sc (.slice none 0 0), cI steps]]⟩), (3, ⟨5, Q.map encPr'⟩)], 4⟩) (props.length - 0) (Weak.normS hA [1, 2, 3, 5] [(1, 0), (2, 1), (3, 2)] [(3, 3)] [2] 4 _ (by simp) (by simp) (by simp)) ⟨0, [], rfl, Nat.zero_le _, rfl, by simp⟩ ?_)
    rintro m s' ⟨j, Q, rfl, hj, hQ, rfl⟩
    have hQl : Q.length = j := by rw [hQ, List.length_take]; omega
    refine AW.seq ?_
    refine AW.st teOk [] (by simp [-Option.some.injEq] <;> rfl) trivial ?_
    refine AW.iff (decide (j < props.length)) (by simp) (fun h => AW.skip ?_) (fun h => AW.exit (x_then (x_then (blockA_exit ?_))))
    · rw [decide_eq_true_eq] at h
      obtain ⟨x, hx⟩ : ∃ x, props[j]? = some x := ⟨_, List.getElem?_eq_getElem h⟩
      have hinc : IntKind.i64.wrap ((j : Int) + 1) = (j : Int) + 1 := wrap_s _ (by omega)
      have hQ2 : props.take (j + 1) = Q ++ [x] := by rw [List.take_add_one, hx, hQ]; rfl
      refine AW.seq (AW.block ?_)
      refine AW.st teOk [] (by simp [hx, -Option.some.injEq] <;> rfl) ?_ ?_
      · exact h
      refine AW.text teOk (ans := []) (by simp [-Option.some.injEq] <;> rfl) ?_ ?_
      · simp [growOk, hQl]
        omega
      refine AW.text teOk (ans := []) (by simp [-Option.some.injEq] <;> rfl) ?_ ?_
      · trivial
      refine ⟨_, _, Weak.normS hA [1, 2, 3, 5] [(1, 0), (2, 1), (3, 2)] [(32, 3)] [2] 4 _ (by simp) (by simp) (by simp), ?_, j + 1, Q ++ [x], rfl, h, hQ2.symm, ?_⟩
      · omega
      · simp [hinc, hQl]
    have hjl : j = props.length := by
      rw [decide_eq_false_iff_not] at h
      omega
    rw [hjl, List.take_length] at hQ
    have hQ' := hQ.symm
    subst hQ'
    subst hjl
    have htk : (props.map encPr').take props.length = props.map encPr' := List.take_of_length_le (by rw [List.length_map]; exact Nat.le_refl _)
    exact ⟨_, (Weak.freeze 3 ⟨5, props.map encPr'⟩ [2] _ (by simp) (by simp)).trans (Weak.normS hA [1, 2, 3] [(1, 0), (2, 1), (3, 2)] [] [2] 3 _ (by simp [htk]) (by simp [htk]) (by simp [htk])), by simp [htk]⟩
  rintro s' rfl
  refine AW.mid (fun s' => s' = ⟨[(1, .c (.ptr 0 0 0)), (2, .c (.ptr 1 0 0)), (3, .c (.ptr 2 0 0))], [(0, ⟨9, [encXp ⟨⟨accs, props, ins, nxt, pks, decs, steps⟩, lo, am⟩]⟩), (1, ⟨9, [nilX]⟩), (2, ⟨7, [[encVs accs, .row 5 false (props.map encPr'), .row 1 false (ins.map encIn), encIs nxt, .row 5 false (pks.map encPk), .sc (.slice none 0 0), cI steps]]⟩)], 3⟩) ?_ ?_
  · refine AW.to (s2 := ⟨[(1, .c (.ptr 0 0 0)), (2, .c (.ptr 1 0 0)), (3, .c (.ptr 2 0 0))], [(0, ⟨9, [encXp ⟨⟨accs, props, ins, nxt, pks, decs, steps⟩, lo, am⟩]⟩), (1, ⟨9, [nilX]⟩), (2, ⟨7, [[encVs accs, .row 5 false (props.map encPr'), .row 1 false (ins.map encIn), encIs nxt, .ref 3 0 0, .sc (.slice none 0 0), cI steps]]⟩), (3, ⟨5, []⟩)], 4⟩) ((Weak.nilO 2 4 5 _ (by simp <;> exact ⟨rfl, rfl⟩) rfl (by simp)).trans (Weak.normS hA [1, 2, 3] [(1, 0), (2, 1), (3, 2)] [(3, 3)] [2] 4 _ (by simp [putA]) (by simp [putA]) (by simp [putA]))) (by simp [putA]) ?_
    refine AW.st teOk [] (by simp [-Option.some.injEq] <;> rfl) trivial ?_
    refine AW.block (AW.loop (fun m s' => ∃ (j : Nat) (Q : List PkS), m = pks.length - j ∧ j ≤ pks.length ∧ Q = pks.take j ∧ s' = ⟨[(1, .c (.ptr 0 0 0)), (2, .c (.ptr 1 0 0)), (3, .c (.ptr 2 0 0)), (7, .c (cI j))], [(0, ⟨9, [encXp ⟨⟨accs, props, ins, nxt, pks, decs, steps⟩, lo, am⟩]⟩), (1, ⟨9, [nilX]⟩), (2, ⟨7, [[encVs accs, .row 5 false (props.map encPr'), .row 1 false (ins.map encIn), encIs nxt, .ref 3 0 j, .sc (.slice none 0 0), cI steps]]⟩), (3, ⟨5, Q.map encPk⟩)], 4⟩) (pks.length - 0) (Weak.normS hA [1, 2, 3, 7] [(1, 0), (2, 1), (3, 2)] [(3, 3)] [2] 4 _ (by simp) (by simp) (by simp)) ⟨0, [], rfl, Nat.zero_le _, rfl, by simp⟩ ?_)
    rintro m s' ⟨j, Q, rfl, hj, hQ, rfl⟩
    have hQl : Q.length = j := by rw [hQ, List.length_take]; omega
    refine AW.seq ?_
    refine AW.st teOk [] (by simp [-Option.some.injEq] <;> rfl) trivial ?_
    refine AW.iff (decide (j < pks.length)) (by simp) (fun h => AW.skip ?_) (fun h => AW.exit (x_then (x_then (blockA_exit ?_))))
    · rw [decide_eq_true_eq] at h
      obtain ⟨x, hx⟩ : ∃ x, pks[j]? = some x := ⟨_, List.getElem?_eq_getElem h⟩
      have hinc : IntKind.i64.wrap ((j : Int) + 1) = (j : Int) + 1 := wrap_s _ (by omega)
      have hQ2 : pks.take (j + 1) = Q ++ [x] := by rw [List.take_add_one, hx, hQ]; rfl
      refine AW.seq (AW.block ?_)
      refine AW.st teOk [] (by simp [hx, -Option.some.injEq] <;> rfl) ?_ ?_
      · exact h
      refine AW.text teOk (ans := []) (by simp [-Option.some.injEq] <;> rfl) ?_ ?_
      · simp [growOk, hQl]
        omega
      refine AW.text teOk (ans := []) (by simp [-Option.some.injEq] <;> rfl) ?_ ?_
      · trivial
      refine ⟨_, _, Weak.normS hA [1, 2, 3, 7] [(1, 0), (2, 1), (3, 2)] [(32, 3)] [2] 4 _ (by simp) (by simp) (by simp), ?_, j + 1, Q ++ [x], rfl, h, hQ2.symm, ?_⟩
      · omega
      · simp [hinc, hQl]
    have hjl : j = pks.length := by
      rw [decide_eq_false_iff_not] at h
      omega
    rw [hjl, List.take_length] at hQ
    have hQ' := hQ.symm
    subst hQ'
    subst hjl
    have htk : (pks.map encPk).take pks.length = pks.map encPk := List.take_of_length_le (by rw [List.length_map]; exact Nat.le_refl _)
    exact ⟨_, (Weak.freeze 3 ⟨5, pks.map encPk⟩ [2] _ (by simp) (by simp)).trans (Weak.normS hA [1, 2, 3] [(1, 0), (2, 1), (3, 2)] [] [2] 3 _ (by simp [htk]) (by simp [htk]) (by simp [htk])), by simp [htk]⟩
  rintro s' rfl
  refine AW.mid (fun s' => s' = ⟨[(1, .c (.ptr 0 0 0)), (2, .c (.ptr 1 0 0)), (3, .c (.ptr 2 0 0))], [(0, ⟨9, [encXp ⟨⟨accs, props, ins, nxt, pks, decs, steps⟩, lo, am⟩]⟩), (1, ⟨9, [nilX]⟩), (2, ⟨7, [[encVs accs, .row 5 false (props.map encPr'), .row 1 false (ins.map encIn), encIs nxt, .row 5 false (pks.map encPk), .row 4 false (decs.map encDe), cI steps]]⟩)], 3⟩) ?_ ?_
  · refine AW.to (s2 := ⟨[(1, .c (.ptr 0 0 0)), (2, .c (.ptr 1 0 0)), (3, .c (.ptr 2 0 0))], [(0, ⟨9, [encXp ⟨⟨accs, props, ins, nxt, pks, decs, steps⟩, lo, am⟩]⟩), (1, ⟨9, [nilX]⟩), (2, ⟨7, [[encVs accs, .row 5 false (props.map encPr'), .row 1 false (ins.map encIn), encIs nxt, .row 5 false (pks.map encPk), .ref 3 0 0, cI steps]]⟩), (3, ⟨4, []⟩)], 4⟩) ((Weak.nilO 2 5 4 _ (by simp <;> exact ⟨rfl, rfl⟩) rfl (by simp)).trans (Weak.normS hA [1, 2, 3] [(1, 0), (2, 1), (3, 2)] [(3, 3)] [2] 4 _ (by simp [putA]) (by simp [putA]) (by simp [putA]))) (by simp [putA]) ?_
    refine AW.st teOk [] (by simp [-Option.some.injEq] <;> rfl) trivial ?_
    refine AW.block (AW.loop (fun m s' => ∃ (j : Nat) (Q : List DeS), m = decs.length - j ∧ j ≤ decs.length ∧ Q = decs.take j ∧ s' = ⟨[(1, .c (.ptr 0 0 0)), (2, .c (.ptr 1 0 0)), (3, .c (.ptr 2 0 0)), (9, .c (cI j))], [(0, ⟨9, [encXp ⟨⟨accs, props, ins, nxt, pks, decs, steps⟩, lo, am⟩]⟩), (1, ⟨9, [nilX]⟩), (2, ⟨7, [[encVs accs, .row 5 false (props.map encPr'), .row 1 false (ins.map encIn), encIs nxt, .row 5 false (pks.map encPk), .ref 3 0 j, cI steps]]⟩), (3, ⟨4, Q.map encDe⟩)], 4⟩) (decs.length - 0) (Weak.normS hA [1, 2, 3, 9] [(1, 0), (2, 1), (3, 2)] [(3, 3)] [2] 4 _ (by simp) (by simp) (by simp)) ⟨0, [], rfl, Nat.zero_le _, rfl, by simp⟩ ?_)
    rintro m s' ⟨j, Q, rfl, hj, hQ, rfl⟩
    have hQl : Q.length = j := by rw [hQ, List.length_take]; omega
    refine AW.seq ?_
    refine AW.st teOk [] (by simp [-Option.some.injEq] <;> rfl) trivial ?_
    refine AW.iff (decide (j < decs.length)) (by simp) (fun h => AW.skip ?_) (fun h => AW.exit (x_then (x_then (blockA_exit ?_))))
    · rw [decide_eq_true_eq] at h
      obtain ⟨x, hx⟩ : ∃ x, decs[j]? = some x := ⟨_, List.getElem?_eq_getElem h⟩
      have hinc : IntKind.i64.wrap ((j : Int) + 1) = (j : Int) + 1 := wrap_s _ (by omega)
      have hQ2 : decs.take (j + 1) = Q ++ [x] := by rw [List.take_add_one, hx, hQ]; rfl
      refine AW.seq (AW.block ?_)
      refine AW.st teOk [] (by simp [hx, -Option.some.injEq] <;> rfl) ?_ ?_
      · exact h
      refine AW.text teOk (ans := []) (by simp [-Option.some.injEq] <;> rfl) ?_ ?_
      · simp [growOk, hQl]
        omega
      refine AW.text teOk (ans := []) (by simp [-Option.some.injEq] <;> rfl) ?_ ?_
      · trivial
      refine ⟨_, _, Weak.normS hA [1, 2, 3, 9] [(1, 0), (2, 1), (3, 2)] [(30, 3)] [2] 4 _ (by simp) (by simp) (by simp), ?_, j + 1, Q ++ [x], rfl, h, hQ2.symm, ?_⟩
      · omega
      · simp [hinc, hQl]
    have hjl : j = decs.length := by
      rw [decide_eq_false_iff_not] at h
      omega
    rw [hjl, List.take_length] at hQ
    have hQ' := hQ.symm
    subst hQ'
    subst hjl
    have htk : (decs.map encDe).take decs.length = decs.map encDe := List.take_of_length_le (by rw [List.length_map]; exact Nat.le_refl _)
    exact ⟨_, (Weak.freeze 3 ⟨4, decs.map encDe⟩ [2] _ (by simp) (by simp)).trans (Weak.normS hA [1, 2, 3] [(1, 0), (2, 1), (3, 2)] [] [2] 3 _ (by simp [htk]) (by simp [htk]) (by simp [htk])), by simp [htk]⟩
  rintro s' rfl
  refine AW.st teOk [] (by simp [-Option.some.injEq] <;> rfl) trivial ?_
  refine AW.ret ⟨.inr rfl, _, Weak.refl _, ?_⟩
  simp
end Go.Proofs.YtphlhadgcfndhaaGreatDoor.Abs
end
section
namespace Go.Proofs.YtphlhadgcfndhaaGreatDoor.Abs
open Go Go.RowKit
set_option linter.unusedVariables false
set_option linter.unusedSimpArgs false
set_option maxHeartbeats 4000000
theorem same40_pure (s : XpS) (hb : GrB s.g) (hs : RSm s) : Pure Tryz.prog 9 [.agg (encXp s), .agg (encXp s)] (.c (cB true)) := by
  have c0 := cvt_pure s hb
  have c1 := rkey_pure s hs
  have hbdl := hb.dl
  generalize strB (rkN s) = str at *
  obtain ⟨⟨accs, props, ins, nxt, pks, decs, steps⟩, lo, am⟩ := s
  dsimp only at *
  refine pure_of teOk Tryz.func9 (by kernel_rfl) (c := _) rfl (N := 88) rfl (rs := [Go.ResultVar.tmp 4]) rfl (by simp) fun base A w0 hA => ?_
  refine AW.st teOk [] (by simp [-Option.some.injEq] <;> rfl) trivial ?_
  refine AW.st teOk [.fz (.agg (encXp ⟨⟨accs, props, ins, nxt, pks, decs, steps⟩, lo, am⟩))] (by simp [-Option.some.injEq] <;> rfl) ?_ ?_
  · simpa using c0
  refine AW.seq ?_
  refine AW.st teOk [] (by simp [-Option.some.injEq] <;> rfl) trivial ?_
  refine AW.iff false (by simp) (fun h => by cases h) (fun _ => AW.skip ?_)
  refine AW.seq ?_
  refine AW.st teOk [] (by simp [-Option.some.injEq] <;> rfl) trivial ?_
  refine AW.block (AW.loop (fun m s' => ∃ j : Nat, m = decs.length - j ∧ j ≤ decs.length ∧ s' = ⟨[(3, .c (.ptr 0 0 0)), (5, .c (.ptr 1 0 0)), (6, .c (cI j))], [(0, ⟨9, [encXp ⟨⟨accs, props, ins, nxt, pks, decs, steps⟩, lo, am⟩]⟩), (1, ⟨9, [encXp ⟨⟨accs, props, ins, nxt, pks, decs, steps⟩, lo, am⟩]⟩)], 2⟩) (decs.length - 0) (Weak.normS hA [3, 5, 6] [(3, 0), (5, 1)] [] [] 2 _ (by simp) (by simp) (by simp)) ⟨0, rfl, Nat.zero_le _, by simp⟩ ?_)
  rintro m s' ⟨j, rfl, hj, rfl⟩
  refine AW.seq ?_
  refine AW.st teOk [] (by simp [-Option.some.injEq] <;> rfl) trivial ?_
  refine AW.iff (decide (j < decs.length)) (by simp) (fun h => AW.skip ?_) (fun h => AW.exit (x_then (x_then (blockA_exit ?_))))
  · rw [decide_eq_true_eq] at h
    obtain ⟨d, hd⟩ : ∃ d, decs[j]? = some d := ⟨_, List.getElem?_eq_getElem h⟩
    have hinc : IntKind.i64.wrap ((j : Int) + 1) = (j : Int) + 1 := wrap_s _ (by omega)
    refine AW.seq (AW.block ?_)
    refine AW.dr mixed teOk [] (by simp [hd, -Option.some.injEq] <;> rfl) (by kernel_rfl) (by kernel_rfl) ?_ ?_
    · simp [allP, h]
    refine AW.iff false (by simp) (fun h => by cases h) (fun _ => AW.skip ?_)
    refine AW.text teOk (ans := []) (by simp [-Option.some.injEq] <;> rfl) ?_ ?_
    · trivial
    refine ⟨_, _, Weak.normS hA [3, 5, 6] [(3, 0), (5, 1)] [] [] 2 _ (by simp) (by simp) (by simp), ?_, j + 1, rfl, h, ?_⟩
    · omega
    · simp [hinc]
  refine AW.dr mixed teOk [.c (.sc (.string str)), .c (.sc (.string str))] (by simp [-Option.some.injEq] <;> rfl) (by kernel_rfl) (by kernel_rfl) ?_ ?_
  · simp [allP]
    exact c1
  refine AW.ret ⟨.inr rfl, _, Weak.refl _, ?_⟩
  simp
end Go.Proofs.YtphlhadgcfndhaaGreatDoor.Abs
end
section
namespace Go.Proofs.YtphlhadgcfndhaaGreatDoor.Abs
open Go Go.RowKit
set_option linter.unusedVariables false
set_option linter.unusedSimpArgs false
set_option maxHeartbeats 4000000
theorem rev_swap {α : Type} (l : List α) {L : List α} {i : Nat} (hL : L.length = l.length) (hi : 2 * i + 1 < l.length) (h : ∀ k, k < l.length → L[k]? = if k < i ∨ l.length - 1 - i < k then l.reverse[k]? else l[k]?) {x y : α} (hx : L[i]? = some x) (hy : L[l.length - 1 - i]? = some y) :
    ∀ k, k < l.length → ((L.set i y).set (l.length - 1 - i) x)[k]? = if k < i + 1 ∨ l.length - 1 - (i + 1) < k then l.reverse[k]? else l[k]? := fun k hk => by
  rw [h i (by omega), if_neg (by omega)] at hx
  rw [h (l.length - 1 - i) (by omega), if_neg (by omega)] at hy
  have hr : ∀ q, q < l.length → l.reverse[q]? = l[l.length - 1 - q]? := fun q hq => List.getElem?_reverse hq
  rw [List.getElem?_set, List.getElem?_set, List.length_set]
  by_cases h1 : l.length - 1 - i = k
  · rw [if_pos h1, if_pos (by omega), if_pos (by omega), hr k hk, show l.length - 1 - k = i by omega, hx]
  · rw [if_neg h1]
    by_cases h2 : i = k
    · rw [if_pos h2, if_pos (by omega), if_pos (by omega), hr k hk, ← h2, hy]
    · rw [if_neg h2, h k hk]
      by_cases h3 : k < i ∨ l.length - 1 - i < k
      · rw [if_pos h3, if_pos (by omega)]
      · rw [if_neg h3, if_neg (by omega)]
theorem rev_done {α : Type} (l : List α) {L : List α} {i : Nat} (hL : L.length = l.length) (hi : l.length ≤ 2 * i + 1) (h : ∀ k, k < l.length → L[k]? = if k < i ∨ l.length - 1 - i < k then l.reverse[k]? else l[k]?) : L = l.reverse := by
  refine List.ext_getElem? fun k => ?_
  by_cases hk : k < l.length
  · rw [h k hk]
    split
    · rfl
    · rename_i hn
      rw [List.getElem?_reverse hk, show l.length - 1 - k = k by omega]
  · rw [List.getElem?_eq_none (by omega), List.getElem?_eq_none (by simp; omega)]
theorem rev_con (l : List ActP) (hl : l.length < 1000000) : Con Tryz.prog 83 [.c (.ref 1000000 0 l.length)] [(1000000, ⟨2, l.map encA⟩)] 1000010 (.tup []) [(1000000, ⟨2, l.reverse.map encA⟩)] 1000011 := by
  refine con_of teOk Tryz.func83 (by kernel_rfl) (c := _) rfl (N := 28) rfl (rs := []) rfl (by simp) fun base A w0 rest hrest hrefs hA => ?_
  have hh := hiS_low hrest
  have hl' := loS_low hrest
  have hdr := fun k hk => drop_rest hrest k hk
  have hrn : ∀ (ρ : List (Nat × Nat)) (ids : List Nat), (ids.all fun i => decide (1000000 ≤ i)) = true → rnS 1000000 ρ ids rest = rest := fun ρ ids h => rnS_low h hrest
  have hw0 : IntKind.i64.wrap ((l.length : Int) - 1) = (l.length : Int) - 1 := by rw [IntKind.wrap_i64]; omega
  refine AW.st teOk [] (by simp [hdr, -Option.some.injEq] <;> rfl) trivial ?_
  refine AW.block (AW.loop (fun m s => ∃ (i : Nat) (L : List ActP), m = l.length - i ∧ 2 * i ≤ l.length + 1 ∧ L.length = l.length ∧ (∀ k, k < l.length → L[k]? = if k < i ∨ l.length - 1 - i < k then l.reverse[k]? else l[k]?) ∧ s = ⟨[(0, .c (.ref 1000000 0 l.length)), (2, .c (cI i)), (3, .c (cI ((l.length : Int) - 1 - i)))], (1000000, ⟨2, L.map encA⟩) :: rest, 1000011⟩) (l.length - 0) (Weak.normCS hA hrefs [0, 2, 3] [(0, 1000000)] [] [1000000] 1000011 _ (by simp [hl', hdr]) (by simp) (by simp) (by simp) (by simp [hh, hdr]) (by simp [hh, hdr])) ⟨0, l, rfl, by omega, rfl, fun k hk => by rw [if_neg (by omega)], by simp [normL, hh, hl', hrn, hdr, hw0]⟩ ?_)
  rintro m s ⟨i, L, rfl, hi, hL, hk, rfl⟩
  refine AW.seq ?_
  by_cases hij : 2 * i + 1 < l.length
  · obtain ⟨j, hj⟩ : ∃ j, j = l.length - 1 - i := ⟨_, rfl⟩
    have hjI : (l.length : Int) - 1 - i = j := by omega
    obtain ⟨x, hx⟩ : ∃ x, L[i]? = some x := ⟨_, List.getElem?_eq_getElem (by omega)⟩
    obtain ⟨y, hy⟩ : ∃ y, L[j]? = some y := ⟨_, List.getElem?_eq_getElem (by omega)⟩
    have hinc : IntKind.i64.wrap ((i : Int) + 1) = (i : Int) + 1 := wrap_s _ (by omega)
    have hdec : IntKind.i64.wrap ((j : Int) - 1) = (j : Int) - 1 := by rw [IntKind.wrap_i64]; omega
    have hsw := rev_swap l hL hij hk hx (by rw [← hj]; exact hy)
    rw [← hj] at hsw
    obtain ⟨L', hL'⟩ : ∃ L', L' = (L.set i y).set j x := ⟨_, rfl⟩
    have hmap : ((L.map encA).set i (encA y)).set j (encA x) = L'.map encA := by rw [set_enc, set_enc, hL']
    have hg3 : ∀ c : List Cell, ((L.map encA).set i c)[j]? = some (encA y) := fun c => by
      rw [List.getElem?_set, if_neg (by omega), List.getElem?_map, hy]
      rfl
    simp only [encA] at hmap
    rw [hjI]
    refine AW.st teOk [] (by simp [hdr, -Option.some.injEq] <;> rfl) trivial ?_
    refine AW.iff true (by simp; omega) (fun _ => AW.skip ?_) (fun h => by cases h)
    refine AW.seq (AW.block ?_)
    refine AW.draw mixed teOk (ans := []) (by simp [hdr, hx, hy, hg3, hmap, -Option.some.injEq] <;> rfl) (by kernel_rfl) (by kernel_rfl) ?_ ?_
    · simp [allP]
      omega
    refine AW.text teOk (ans := []) (by simp [hdr, -Option.some.injEq] <;> rfl) ?_ ?_
    · trivial
    refine ⟨_, _, Weak.normCS hA hrefs [0, 2, 3] [(0, 1000000)] [] [1000000] 1000011 _ (by simp [hl', hdr]) (by simp) (by simp) (by simp) (by simp [hh, hdr]) (by simp [hh, hdr]), ?_, i + 1, L', rfl, by omega, by rw [hL', List.length_set, List.length_set, hL], by rw [hL']; exact hsw, ?_⟩
    · omega
    · simp [normL, hh, hl', hrn, hdr, hinc, hdec]
      omega
  · refine AW.st teOk [] (by simp [hdr, -Option.some.injEq] <;> rfl) trivial ?_
    refine AW.iff false (by simp; omega) (fun h => by cases h) (fun h => AW.exit (x_then (x_then (blockA_exit ?_))))
    rw [rev_done l hL (by omega) hk]
    refine ⟨.inl rfl, _, Weak.normCS hA hrefs [] [] [(1000000, 1000000)] [1000000] 1000011 _ (by simp [hl']) (by simp) (by simp) (by simp) (by simp [hh]) (by simp [hh]), by simp, by simp [normL, hh, hl', hrn], rfl⟩
@[simp] def encFd (f : Fd) : List Cell := encXp f.s ++ [cI f.fr, cI f.act.1, cI f.act.2, cI f.dep]
@[simp] theorem flat_encFd (l : List Fd) : flatO ⟨13, l.map encFd⟩ = true := flatO_of fun e he => by
  obtain ⟨x, _, rfl⟩ := List.mem_map.1 he
  rfl
theorem sched_add (fds : List Fd) (h : ∀ (j : Nat) f, 0 < j → fds[j]? = some f → f.fr < j) : ∀ (n m i : Nat), i ≤ n → i ≤ m → schedX fds n i = schedX fds m i
  | 0, 0, i, _, _ => rfl
  | 0, m + 1, i, h1, _ => by
    have : i = 0 := by omega
    rw [schedX, schedX, if_pos this]
  | n + 1, 0, i, _, h2 => by
    have : i = 0 := by omega
    rw [schedX, schedX, if_pos this]
  | n + 1, m + 1, i, h1, h2 => by
    rw [schedX, schedX]
    split
    · rfl
    · cases hf : fds[i]? with
      | none => rfl
      | some f =>
        have := h i f (by omega) hf
        show schedX fds n f.fr ++ _ = schedX fds m f.fr ++ _
        rw [sched_add fds h n m f.fr (by omega) (by omega)]
theorem sched_pure (t : Bool) (fds : List Fd) (i0 : Nat) (hi : i0 < fds.length) (hfr : ∀ (j : Nat) f, 0 < j → fds[j]? = some f → f.fr < j) (hl : fds.length < 1000000) : Pure Tryz.prog 44 [.c (.row 13 t (fds.map encFd)), .c (cI i0)] (.c (.row 2 false ((schedX fds i0 i0).map encA))) := by
  refine pure_of teOk Tryz.func44 (by kernel_rfl) (c := _) rfl (N := 24) rfl (rs := [Go.ResultVar.tmp 4]) rfl (by simp) fun base A w0 hA => ?_
  refine AW.st teOk [] (by simp [-Option.some.injEq] <;> rfl) trivial ?_
  refine AW.st teOk [] (by simp [-Option.some.injEq] <;> rfl) trivial ?_
  refine AW.weak (Weak.nil 5 2 _ (by simp <;> rfl)) (AW.seq ?_)
  refine AW.block (AW.loop (fun m s => ∃ (i : Nat) (l : List ActP), m = i ∧ i ≤ i0 ∧ l.length + i ≤ i0 ∧ schedX fds i0 i0 = schedX fds i i ++ l.reverse ∧ s = ⟨[(0, .c (.row 13 t (fds.map encFd))), (1, .c (cI i)), (5, .c (.ref 0 0 l.length))], [(0, ⟨2, l.map encA⟩)], 1⟩) _ (Weak.normS hA [0, 1, 5] [(5, 0)] [] [] 1 _ (by simp [putT]) (by simp [putT]) (by simp [putT])) ⟨i0, [], rfl, Nat.le_refl _, by simp, by simp, by simp [putT]⟩ ?_)
  rintro m s ⟨i, l, rfl, hi1, hi2, hs, rfl⟩
  refine AW.seq ?_
  refine AW.st teOk [] (by simp [-Option.some.injEq] <;> rfl) trivial ?_
  by_cases h0 : m = 0
  · subst h0
    refine AW.iff false (by simp) (fun h => by cases h) (fun h => AW.exit (x_then (x_then (blockA_exit ?_))))
    have c0 := (rev_con l (by omega)).lower (show 1000002 ≤ 1000010 by decide)
    obtain ⟨r, hr⟩ : ∃ r, r = l.reverse := ⟨_, rfl⟩
    have hrl : r.length = l.length := by rw [hr, List.length_reverse]
    rw [← hr] at c0 hs
    refine AW.to (s2 := ⟨[(5, .c (.ref 1000000 0 l.length))], [(1000000, ⟨2, l.map encA⟩)], 1000001⟩) (Weak.normS hA [5] [(5, 1000000)] [] [] 1000001 _ (by simp) (by simp) (by simp)) (by simp) ?_
    refine AW.st teOk [.own (.tup []) [(1000000, ⟨2, r.map encA⟩)] 1000011] (by simp [-Option.some.injEq] <;> rfl) ?_ ?_
    · simpa using c0
    refine AW.st teOk [] (by simp [-Option.some.injEq] <;> rfl) trivial ?_
    have hfin : schedX fds i0 i0 = r := by
      rw [hs, schedX, List.nil_append]
    rw [hfin]
    have htk : (r.map encA).take l.length = r.map encA := List.take_of_length_le (by rw [List.length_map]; omega)
    refine AW.ret ⟨.inr rfl, _, Weak.frzT (id := 1000000) (lo := 0) (m := l.length) (o := ⟨2, r.map encA⟩) 4 [] _ (by simp) (by simp) (by simp), ?_⟩
    simp [hrl, htk]
  · obtain ⟨f, hf⟩ : ∃ f, fds[m]? = some f := ⟨_, List.getElem?_eq_getElem (by omega)⟩
    have hlt := hfr m f (by omega) hf
    refine AW.iff true (by simp; omega) (fun _ => AW.skip ?_) (fun h => by cases h)
    refine AW.seq (AW.block ?_)
    refine AW.text teOk (ans := []) (by simp [hf, -Option.some.injEq] <;> rfl) ?_ ?_
    · simp [growOk]
      omega
    refine AW.text teOk (ans := []) (by simp [hf, -Option.some.injEq] <;> rfl) ?_ ?_
    · first | trivial | omega | (simp [allP, growOk] <;> omega)
    refine ⟨_, _, Weak.normS hA [0, 1, 5] [(5, 0)] [] [] 1 _ (by simp) (by simp) (by simp), hlt, f.fr, l ++ [f.act], rfl, by omega, ?_, ?_, ?_⟩
    · simp
      omega
    · rw [hs]
      obtain ⟨q, rfl⟩ : ∃ q, m = q + 1 := ⟨m - 1, by omega⟩
      rw [schedX, if_neg h0, hf]
      show schedX fds q f.fr ++ [f.act] ++ l.reverse = _
      rw [sched_add fds hfr q f.fr f.fr (by omega) (by omega), List.reverse_append, List.append_assoc]
      rfl
    · simp
end Go.Proofs.YtphlhadgcfndhaaGreatDoor.Abs
end
