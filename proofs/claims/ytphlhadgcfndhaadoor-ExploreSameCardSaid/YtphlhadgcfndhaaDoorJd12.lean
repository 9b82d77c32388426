/- Joined for the claim: WXsch WXval -/
import Derived.Test.YtphlhadgcfndhaaDoorJd11
import Derived.Test.YtphlhadgcfndhaaDoorJd3
import Derived.Test.YtphlhadgcfndhaaDoorJd8
section
namespace Go.Proofs.YtphlhadgcfndhaaDoor.Abs
open Go Go.RowKit
set_option linter.unusedVariables false
set_option linter.unusedSimpArgs false
set_option maxHeartbeats 4000000
theorem rev_swap {α : Type} (l : List α) {L : List α} {i : Nat} (hL : L.length = l.length) (hi : 2 * i + 1 < l.length) (h : ∀ k, k < l.length → L[k]? = if k < i ∨ l.length - 1 - i < k then l.reverse[k]? else l[k]?) {x y : α} (hx : L[i]? = some x) (hy : L[l.length - 1 - i]? = some y) :
    ∀ k, k < l.length → ((L.set i y).set (l.length - 1 - i) x)[k]? = if k < i + 1 ∨ l.length - 1 - (i + 1) < k then l.reverse[k]? else l[k]? := fun k hk => by
  rw [h i (by omega), if_neg (by omega)] at hx
  rw [h (l.length - 1 - i) (by omega), if_neg (by omega)] at hy
  have hr : ∀ q, q < l.length → l.reverse[q]? = l[l.length - 1 - q]? := fun q hq => List.getElem?_reverse hq
  rw [List.getElem?_set, List.getElem?_set, List.length_set]
  by_cases h1 : l.length - 1 - i = k
  · rw [if_pos h1, if_pos (by omega), if_pos (by omega), hr k hk, show l.length - 1 - k = i by omega, hx]
  · rw [if_neg h1]
    by_cases h2 : i = k
    · rw [if_pos h2, if_pos (by omega), if_pos (by omega), hr k hk, ← h2, hy]
    · rw [if_neg h2, h k hk]
      by_cases h3 : k < i ∨ l.length - 1 - i < k
      · rw [if_pos h3, if_pos (by omega)]
      · rw [if_neg h3, if_neg (by omega)]
theorem rev_done {α : Type} (l : List α) {L : List α} {i : Nat} (hL : L.length = l.length) (hi : l.length ≤ 2 * i + 1) (h : ∀ k, k < l.length → L[k]? = if k < i ∨ l.length - 1 - i < k then l.reverse[k]? else l[k]?) : L = l.reverse := by
  refine List.ext_getElem? fun k => ?_
  by_cases hk : k < l.length
  · rw [h k hk]
    split
    · rfl
    · rename_i hn
      rw [List.getElem?_reverse hk, show l.length - 1 - k = k by omega]
  · rw [List.getElem?_eq_none (by omega), List.getElem?_eq_none (by simp; omega)]
theorem rev_con (l : List ActP) (hl : l.length < 1000000) : Con Tryd.prog 44 [.c (.ref 1000000 0 l.length)] [(1000000, ⟨2, l.map encA⟩)] 1000010 (.tup []) [(1000000, ⟨2, l.reverse.map encA⟩)] 1000011 := by
  refine con_of teOk Tryd.func44 (by kernel_rfl) (c := _) rfl (N := 28) rfl (rs := []) rfl (by simp) fun base A w0 rest hrest hrefs hA => ?_
  have hh := hiS_low hrest
  have hl' := loS_low hrest
  have hdr := fun k hk => drop_rest hrest k hk
  have hrn : ∀ (ρ : List (Nat × Nat)) (ids : List Nat), (ids.all fun i => decide (1000000 ≤ i)) = true → rnS 1000000 ρ ids rest = rest := fun ρ ids h => rnS_low h hrest
  have hw0 : IntKind.i64.wrap ((l.length : Int) - 1) = (l.length : Int) - 1 := by rw [IntKind.wrap_i64]; omega
  refine AW.st teOk [] (by simp [hdr, -Option.some.injEq] <;> rfl) trivial ?_
  refine AW.block (AW.loop (fun m s => ∃ (i : Nat) (L : List ActP), m = l.length - i ∧ 2 * i ≤ l.length + 1 ∧ L.length = l.length ∧ (∀ k, k < l.length → L[k]? = if k < i ∨ l.length - 1 - i < k then l.reverse[k]? else l[k]?) ∧ s = ⟨[(0, .c (.ref 1000000 0 l.length)), (2, .c (cI i)), (3, .c (cI ((l.length : Int) - 1 - i)))], (1000000, ⟨2, L.map encA⟩) :: rest, 1000011⟩) (l.length - 0) (Weak.normCS hA hrefs [0, 2, 3] [(0, 1000000)] [] [1000000] 1000011 _ (by simp [hl', hdr]) (by simp) (by simp) (by simp) (by simp [hh, hdr]) (by simp [hh, hdr])) ⟨0, l, rfl, by omega, rfl, fun k hk => by rw [if_neg (by omega)], by simp [normL, hh, hl', hrn, hdr, hw0]⟩ ?_)
  rintro m s ⟨i, L, rfl, hi, hL, hk, rfl⟩
  refine AW.seq ?_
  by_cases hij : 2 * i + 1 < l.length
  · obtain ⟨j, hj⟩ : ∃ j, j = l.length - 1 - i := ⟨_, rfl⟩
    have hjI : (l.length : Int) - 1 - i = j := by omega
    obtain ⟨x, hx⟩ : ∃ x, L[i]? = some x := ⟨_, List.getElem?_eq_getElem (by omega)⟩
    obtain ⟨y, hy⟩ : ∃ y, L[j]? = some y := ⟨_, List.getElem?_eq_getElem (by omega)⟩
    have hinc : IntKind.i64.wrap ((i : Int) + 1) = (i : Int) + 1 := wrap_s _ (by omega)
    have hdec : IntKind.i64.wrap ((j : Int) - 1) = (j : Int) - 1 := by rw [IntKind.wrap_i64]; omega
    have hsw := rev_swap l hL hij hk hx (by rw [← hj]; exact hy)
    rw [← hj] at hsw
    obtain ⟨L', hL'⟩ : ∃ L', L' = (L.set i y).set j x := ⟨_, rfl⟩
    have hmap : ((L.map encA).set i (encA y)).set j (encA x) = L'.map encA := by rw [set_enc, set_enc, hL']
    have hg3 : ∀ c : List Cell, ((L.map encA).set i c)[j]? = some (encA y) := fun c => by
      rw [List.getElem?_set, if_neg (by omega), List.getElem?_map, hy]
      rfl
    simp only [encA] at hmap
    rw [hjI]
    refine AW.st teOk [] (by simp [hdr, -Option.some.injEq] <;> rfl) trivial ?_
    refine AW.iff true (by simp; omega) (fun _ => AW.skip ?_) (fun h => by cases h)
    refine AW.seq (AW.block ?_)
    refine AW.draw mixed teOk (ans := []) (by simp [hdr, hx, hy, hg3, hmap, -Option.some.injEq] <;> rfl) (by kernel_rfl) (by kernel_rfl) ?_ ?_
    · simp [allP]
      omega
    refine AW.text teOk (ans := []) (by simp [hdr, -Option.some.injEq] <;> rfl) ?_ ?_
    · trivial
    refine ⟨_, _, Weak.normCS hA hrefs [0, 2, 3] [(0, 1000000)] [] [1000000] 1000011 _ (by simp [hl', hdr]) (by simp) (by simp) (by simp) (by simp [hh, hdr]) (by simp [hh, hdr]), ?_, i + 1, L', rfl, by omega, by rw [hL', List.length_set, List.length_set, hL], by rw [hL']; exact hsw, ?_⟩
    · omega
    · simp [normL, hh, hl', hrn, hdr, hinc, hdec]
      omega
  · refine AW.st teOk [] (by simp [hdr, -Option.some.injEq] <;> rfl) trivial ?_
    refine AW.iff false (by simp; omega) (fun h => by cases h) (fun h => AW.exit (x_then (x_then (blockA_exit ?_))))
    rw [rev_done l hL (by omega) hk]
    refine ⟨.inl rfl, _, Weak.normCS hA hrefs [] [] [(1000000, 1000000)] [1000000] 1000011 _ (by simp [hl']) (by simp) (by simp) (by simp) (by simp [hh]) (by simp [hh]), by simp, by simp [normL, hh, hl', hrn], rfl⟩
@[simp] def encFd (f : Fd) : List Cell := encXp f.s ++ [cI f.fr, cI f.act.1, cI f.act.2, cI f.dep]
@[simp] theorem flat_encFd (l : List Fd) : flatO ⟨13, l.map encFd⟩ = true := flatO_of fun e he => by
  obtain ⟨x, _, rfl⟩ := List.mem_map.1 he
  rfl
theorem sched_add (fds : List Fd) (h : ∀ (j : Nat) f, 0 < j → fds[j]? = some f → f.fr < j) : ∀ (n m i : Nat), i ≤ n → i ≤ m → schedX fds n i = schedX fds m i
  | 0, 0, i, _, _ => rfl
  | 0, m + 1, i, h1, _ => by
    have : i = 0 := by omega
    rw [schedX, schedX, if_pos this]
  | n + 1, 0, i, _, h2 => by
    have : i = 0 := by omega
    rw [schedX, schedX, if_pos this]
  | n + 1, m + 1, i, h1, h2 => by
    rw [schedX, schedX]
    split
    · rfl
    · cases hf : fds[i]? with
      | none => rfl
      | some f =>
        have := h i f (by omega) hf
        show schedX fds n f.fr ++ _ = schedX fds m f.fr ++ _
        rw [sched_add fds h n m f.fr (by omega) (by omega)]
theorem sched_pure (t : Bool) (fds : List Fd) (i0 : Nat) (hi : i0 < fds.length) (hfr : ∀ (j : Nat) f, 0 < j → fds[j]? = some f → f.fr < j) (hl : fds.length < 1000000) : Pure Tryd.prog 27 [.c (.row 13 t (fds.map encFd)), .c (cI i0)] (.c (.row 2 false ((schedX fds i0 i0).map encA))) := by
  refine pure_of teOk Tryd.func27 (by kernel_rfl) (c := _) rfl (N := 24) rfl (rs := [Go.ResultVar.tmp 4]) rfl (by simp) fun base A w0 hA => ?_
  refine AW.st teOk [] (by simp [-Option.some.injEq] <;> rfl) trivial ?_
  refine AW.st teOk [] (by simp [-Option.some.injEq] <;> rfl) trivial ?_
  refine AW.weak (Weak.nil 5 2 _ (by simp <;> rfl)) (AW.seq ?_)
  refine AW.block (AW.loop (fun m s => ∃ (i : Nat) (l : List ActP), m = i ∧ i ≤ i0 ∧ l.length + i ≤ i0 ∧ schedX fds i0 i0 = schedX fds i i ++ l.reverse ∧ s = ⟨[(0, .c (.row 13 t (fds.map encFd))), (1, .c (cI i)), (5, .c (.ref 0 0 l.length))], [(0, ⟨2, l.map encA⟩)], 1⟩) _ (Weak.normS hA [0, 1, 5] [(5, 0)] [] [] 1 _ (by simp [putT]) (by simp [putT]) (by simp [putT])) ⟨i0, [], rfl, Nat.le_refl _, by simp, by simp, by simp [putT]⟩ ?_)
  rintro m s ⟨i, l, rfl, hi1, hi2, hs, rfl⟩
  refine AW.seq ?_
  refine AW.st teOk [] (by simp [-Option.some.injEq] <;> rfl) trivial ?_
  by_cases h0 : m = 0
  · subst h0
    refine AW.iff false (by simp) (fun h => by cases h) (fun h => AW.exit (x_then (x_then (blockA_exit ?_))))
    have c0 := (rev_con l (by omega)).lower (show 1000002 ≤ 1000010 by decide)
    obtain ⟨r, hr⟩ : ∃ r, r = l.reverse := ⟨_, rfl⟩
    have hrl : r.length = l.length := by rw [hr, List.length_reverse]
    rw [← hr] at c0 hs
    refine AW.to (s2 := ⟨[(5, .c (.ref 1000000 0 l.length))], [(1000000, ⟨2, l.map encA⟩)], 1000001⟩) (Weak.normS hA [5] [(5, 1000000)] [] [] 1000001 _ (by simp) (by simp) (by simp)) (by simp) ?_
    refine AW.st teOk [.own (.tup []) [(1000000, ⟨2, r.map encA⟩)] 1000011] (by simp [-Option.some.injEq] <;> rfl) ?_ ?_
    · simpa using c0
    refine AW.st teOk [] (by simp [-Option.some.injEq] <;> rfl) trivial ?_
    have hfin : schedX fds i0 i0 = r := by
      rw [hs, schedX, List.nil_append]
    rw [hfin]
    have htk : (r.map encA).take l.length = r.map encA := List.take_of_length_le (by rw [List.length_map]; omega)
    refine AW.ret ⟨.inr rfl, _, Weak.frzT (id := 1000000) (lo := 0) (m := l.length) (o := ⟨2, r.map encA⟩) 4 [] _ (by simp) (by simp) (by simp), ?_⟩
    simp [hrl, htk]
  · obtain ⟨f, hf⟩ : ∃ f, fds[m]? = some f := ⟨_, List.getElem?_eq_getElem (by omega)⟩
    have hlt := hfr m f (by omega) hf
    refine AW.iff true (by simp; omega) (fun _ => AW.skip ?_) (fun h => by cases h)
    refine AW.seq (AW.block ?_)
    refine AW.text teOk (ans := []) (by simp [hf, -Option.some.injEq] <;> rfl) ?_ ?_
    · simp [growOk]
      omega
    refine AW.text teOk (ans := []) (by simp [hf, -Option.some.injEq] <;> rfl) ?_ ?_
    · first | trivial | omega | (simp [allP, growOk] <;> omega)
    refine ⟨_, _, Weak.normS hA [0, 1, 5] [(5, 0)] [] [] 1 _ (by simp) (by simp) (by simp), hlt, f.fr, l ++ [f.act], rfl, by omega, ?_, ?_, ?_⟩
    · simp
      omega
    · rw [hs]
      obtain ⟨q, rfl⟩ : ∃ q, m = q + 1 := ⟨m - 1, by omega⟩
      rw [schedX, if_neg h0, hf]
      show schedX fds q f.fr ++ [f.act] ++ l.reverse = _
      rw [sched_add fds hfr q f.fr f.fr (by omega) (by omega), List.reverse_append, List.append_assoc]
      rfl
    · simp
end Go.Proofs.YtphlhadgcfndhaaDoor.Abs
end
section
namespace Go.Proofs.YtphlhadgcfndhaaDoor.Abs
open Go Go.RowKit
set_option linter.unusedVariables false
set_option linter.unusedSimpArgs false
set_option maxHeartbeats 4000000
theorem vval_pure (v : V2) (hl : v.length < 1000000000000) : Pure Tryd.prog 24 [.c (encV v)] (.c (cI (valI v))) := by
  refine pure_of teOk Tryd.func24 (by kernel_rfl) (c := _) rfl (N := 39) rfl (rs := [Go.ResultVar.tmp 2]) rfl (by simp) fun base A w0 hA => ?_
  refine AW.st teOk [] (by simp [-Option.some.injEq] <;> rfl) trivial ?_
  refine AW.seq ?_
  refine AW.st teOk [] (by simp [-Option.some.injEq] <;> rfl) trivial ?_
  refine AW.block (AW.loop (fun m s => ∃ j : Nat, m = v.length - j ∧ j ≤ v.length ∧ valI v = valGo (prevI v j) (v.drop j) ∧ s = ⟨[(0, .c (encV v)), (5, .c (encV v)), (6, .c (cI v.length)), (7, .c (cI j))], [], 0⟩) _ (Weak.normS hA [0, 5, 6, 7] [] [] [] 0 _ (by simp) (by simp) (by simp)) ⟨0, rfl, Nat.zero_le _, rfl, by simp⟩ ?_)
  rintro m s ⟨j, rfl, hj, hv, rfl⟩
  refine AW.st teOk [] (by simp [-Option.some.injEq] <;> rfl) trivial ?_
  refine AW.seq (AW.iff (decide (j < v.length)) (by simp) (fun h => AW.skip ?_) (fun h => AW.exit (x_then (x_then (blockA_exit ?_)))))
  · rw [decide_eq_true_eq] at h
    obtain ⟨e, he⟩ : ∃ e, v[j]? = some e := ⟨_, List.getElem?_eq_getElem h⟩
    have hinc : IntKind.i64.wrap ((j : Int) + 1) = (j : Int) + 1 := wrap_s _ (by omega)
    have hd : v.drop j = e :: v.drop (j + 1) := by
      rw [List.drop_eq_getElem_cons h, (List.getElem?_eq_some_iff.1 he).2]
    rw [hd, valGo] at hv
    refine AW.seq (AW.block ?_)
    refine AW.st teOk [] (by simp [he, -Option.some.injEq] <;> rfl) ?_ ?_
    · simpa using h
    refine AW.to (s2 := ⟨[(0, .c (encV v)), (5, .c (encV v)), (6, .c (cI v.length)), (7, .c (cI j)), (3, .c (cI j)), (4, .c (.fad (encE e)))], [], 0⟩) ((Weak.freeze 4 ⟨2, [encE e]⟩ [] _ (by simp) (by simp)).trans (Weak.normS hA [0, 5, 6, 7, 3, 4] [] [] [] 0 _ (by simp [mapAt_nil']) (by simp [mapAt_nil']) (by simp [mapAt_nil']))) (by simp [mapAt_nil']) ?_
    refine AW.mid (fun s => ¬ (e.1 < 1 ∨ e.2 < 1 ∨ e.2 > 1000000) ∧ s = ⟨[(0, .c (encV v)), (5, .c (encV v)), (6, .c (cI v.length)), (7, .c (cI j)), (3, .c (cI j)), (4, .c (.fad (encE e)))], [], 0⟩) ?_ ?_
    · by_cases h1 : e.1 < 1
      · refine AW.st teOk [] (by simp [h1, -Option.some.injEq] <;> rfl) trivial ?_
        refine AW.iff true (by simp [h1]) (fun _ => ?_) (fun h => by cases h)
        refine AW.st teOk [] (by simp [-Option.some.injEq] <;> rfl) trivial ?_
        refine AW.ret ⟨.inr rfl, _, Weak.refl _, ?_⟩
        rw [hv, if_pos (.inl h1)]
        simp
      · by_cases h2 : e.2 < 1
        · refine AW.st teOk [] (by simp [h1, h2, -Option.some.injEq] <;> rfl) trivial ?_
          refine AW.iff true (by simp [h1]) (fun _ => ?_) (fun h => by cases h)
          refine AW.st teOk [] (by simp [-Option.some.injEq] <;> rfl) trivial ?_
          refine AW.ret ⟨.inr rfl, _, Weak.refl _, ?_⟩
          rw [hv, if_pos (.inr (.inl h2))]
          simp
        · by_cases h3 : e.2 > 1000000
          · refine AW.st teOk [] (by simp [h1, h2, h3, -Option.some.injEq] <;> rfl) trivial ?_
            refine AW.iff true (by simp [h1]) (fun _ => ?_) (fun h => by cases h)
            refine AW.st teOk [] (by simp [-Option.some.injEq] <;> rfl) trivial ?_
            refine AW.ret ⟨.inr rfl, _, Weak.refl _, ?_⟩
            rw [hv, if_pos (.inr (.inr h3))]
            simp
          · refine AW.st teOk [] (by simp [h1, h2, h3, -Option.some.injEq] <;> rfl) trivial ?_
            refine AW.iff false (by simp [h1]) (fun h => by cases h) (fun _ => AW.skip ?_)
            exact ⟨_, Weak.normS hA [0, 5, 6, 7, 3, 4] [] [] [] 0 _ (by simp) (by simp) (by simp), by omega, by simp⟩
    · rintro s ⟨hok, rfl⟩
      rw [if_neg hok] at hv
      have hp1 : prevI v (j + 1) = some e.1 := by simp [prevI, he]
      by_cases h0 : j = 0
      · subst h0
        refine AW.dr mixed teOk [] (by simp [he, -Option.some.injEq] <;> rfl) (by kernel_rfl) (by kernel_rfl) ?_ ?_
        · first | trivial | omega | (simp [allP, growOk] <;> omega)
        refine AW.iff false (by simp) (fun h => by cases h) (fun _ => AW.skip ?_)
        refine AW.text teOk (ans := []) (by simp [-Option.some.injEq] <;> rfl) ?_ ?_
        · trivial
        refine ⟨_, _, Weak.normS hA [0, 5, 6, 7] [] [] [] 0 _ (by simp) (by simp) (by simp), ?_, 1, rfl, h, ?_, by simp⟩
        · omega
        · rw [hv, hp1]; simp [prevI]
      · obtain ⟨q, hq⟩ : ∃ q, v[j - 1]? = some q := ⟨_, List.getElem?_eq_getElem (by omega)⟩
        obtain ⟨i, hi⟩ : ∃ i, i = j - 1 := ⟨_, rfl⟩
        have hs := sub_s j (by omega) (by omega)
        rw [← hi] at hs hq
        have hpj : prevI v j = some q.1 := by simp [prevI, h0, ← hi, hq]
        have hj0 : 0 < j := by omega
        rw [hpj] at hv
        by_cases hge : e.1 ≤ q.1
        · refine AW.dr mixed teOk [] (by simp [he, hs, hq, hj0, hge, -Option.some.injEq] <;> rfl) (by kernel_rfl) (by kernel_rfl) ?_ ?_
          · first | trivial | omega | (simp [allP, growOk] <;> omega)
          refine AW.iff true (by simp [hge]) (fun _ => ?_) (fun h => by cases h)
          refine AW.st teOk [] (by simp [-Option.some.injEq] <;> rfl) trivial ?_
          refine AW.ret ⟨.inr rfl, _, Weak.refl _, ?_⟩
          simp [hv, hge]
        · refine AW.dr mixed teOk [] (by simp [he, hs, hq, hj0, hge, -Option.some.injEq] <;> rfl) (by kernel_rfl) (by kernel_rfl) ?_ ?_
          · first | trivial | omega | (simp [allP, growOk] <;> omega)
          refine AW.iff false (by simp) (fun h => by cases h) (fun _ => AW.skip ?_)
          refine AW.text teOk (ans := []) (by simp [-Option.some.injEq] <;> rfl) ?_ ?_
          · trivial
          refine ⟨_, _, Weak.normS hA [0, 5, 6, 7] [] [] [] 0 _ (by simp) (by simp) (by simp), ?_, j + 1, rfl, h, ?_, ?_⟩
          · omega
          · rw [hv, hp1]; simp [hge]
          · simp [hinc]
  · rw [decide_eq_false_iff_not] at h
    rw [List.drop_eq_nil_of_le (by omega), valGo] at hv
    refine AW.st teOk [] (by simp [-Option.some.injEq] <;> rfl) trivial ?_
    refine AW.ret ⟨.inr rfl, _, Weak.refl _, ?_⟩
    simp [hv]
def valVs : List V2 → Int
  | [] => 0
  | v :: r => if valI v ≠ 0 then valI v else valVs r
def valIns : List (List V2) → Int
  | [] => 0
  | l :: r => if l.length > 2 then 3 else if valVs l ≠ 0 then valVs l else valIns r
def valP (m lo am : Int) (ins : List (List V2)) : Int := if m < 1 ∨ m > 3 ∨ lo < 0 ∨ lo > 2 ∨ am < 0 ∨ am > 2 then 9 else if ins.length > 2 then 3 else valIns ins
@[simp] def encPg (m lo am : Int) (ins : List (List V2)) : List Cell := [cI m, .row 1 false (ins.map encIn), cI lo, cI am]
theorem xval_pure (m lo am : Int) (ins : List (List V2)) (hil : ins.length < 1000000000000) (hl : ∀ l ∈ ins, l.length < 1000000000000 ∧ ∀ v ∈ l, v.length < 1000000000000) : Pure Tryd.prog 10 [.agg (encPg m lo am ins)] (.c (cI (valP m lo am ins))) := by
  refine pure_of teOk Tryd.func10 (by kernel_rfl) (c := _) rfl (N := 61) rfl (rs := [Go.ResultVar.tmp 2]) rfl (by simp) fun base A w0 hA => ?_
  refine AW.st teOk [] (by simp [-Option.some.injEq] <;> rfl) trivial ?_
  refine AW.to (s2 := ⟨[(1, .c (.fad (encPg m lo am ins)))], [], 0⟩) ((Weak.freeze 0 ⟨4, [encPg m lo am ins]⟩ [] _ (by simp) (by simp)).trans (Weak.normS hA [1] [] [] [] 0 _ (by simp [mapAt_nil']) (by simp [mapAt_nil']) (by simp [mapAt_nil']))) (by simp [mapAt_nil']) ?_
  refine AW.seq (AW.block ?_)
  refine AW.mid (fun s => s = ⟨[(1, .c (.fad (encPg m lo am ins))), (8, .c (cB (decide (m < 1 ∨ m > 3 ∨ lo < 0 ∨ lo > 2 ∨ am < 0 ∨ am > 2))))], [], 0⟩) ?_ ?_
  · by_cases h1 : m < 1
    · refine AW.st teOk [] (by simp [h1, -Option.some.injEq] <;> rfl) trivial ?_
      exact AW.iff true (by simp) (fun _ => AW.skip ⟨_, Weak.normS hA [1, 8] [] [] [] 0 _ (by simp) (by simp) (by simp), by simp [h1]⟩) (fun h => by cases h)
    by_cases h2 : m > 3
    · refine AW.st teOk [] (by simp [h1, h2, -Option.some.injEq] <;> rfl) trivial ?_
      exact AW.iff true (by simp) (fun _ => AW.skip ⟨_, Weak.normS hA [1, 8] [] [] [] 0 _ (by simp) (by simp) (by simp), by simp [h1, h2]⟩) (fun h => by cases h)
    refine AW.st teOk [] (by simp [h1, h2, -Option.some.injEq] <;> rfl) trivial ?_
    refine AW.iff false (by simp) (fun h => by cases h) (fun _ => ?_)
    by_cases h3 : lo < 0
    · refine AW.st teOk [] (by simp [h1, h2, h3, -Option.some.injEq] <;> rfl) trivial ?_
      exact AW.iff true (by simp) (fun _ => AW.skip ⟨_, Weak.normS hA [1, 8] [] [] [] 0 _ (by simp) (by simp) (by simp), by simp [h1, h2, h3]⟩) (fun h => by cases h)
    by_cases h4 : lo > 2
    · refine AW.st teOk [] (by simp [h1, h2, h3, h4, -Option.some.injEq] <;> rfl) trivial ?_
      exact AW.iff true (by simp) (fun _ => AW.skip ⟨_, Weak.normS hA [1, 8] [] [] [] 0 _ (by simp) (by simp) (by simp), by simp [h1, h2, h3, h4]⟩) (fun h => by cases h)
    refine AW.st teOk [] (by simp [h1, h2, h3, h4, -Option.some.injEq] <;> rfl) trivial ?_
    refine AW.iff false (by simp) (fun h => by cases h) (fun _ => ?_)
    by_cases h5 : am < 0
    · refine AW.text teOk (ans := []) (by simp [h1, h2, h3, h4, h5, -Option.some.injEq] <;> rfl) ?_ ?_
      · trivial
      exact ⟨_, Weak.normS hA [1, 8] [] [] [] 0 _ (by simp) (by simp) (by simp), by simp [h1, h2, h3, h4, h5]⟩
    by_cases h6 : am > 2
    · refine AW.text teOk (ans := []) (by simp [h1, h2, h3, h4, h5, h6, -Option.some.injEq] <;> rfl) ?_ ?_
      · trivial
      exact ⟨_, Weak.normS hA [1, 8] [] [] [] 0 _ (by simp) (by simp) (by simp), by simp [h1, h2, h3, h4, h5, h6]⟩
    refine AW.text teOk (ans := []) (by simp [h1, h2, h3, h4, h5, h6, -Option.some.injEq] <;> rfl) ?_ ?_
    · trivial
    exact ⟨_, Weak.normS hA [1, 8] [] [] [] 0 _ (by simp) (by simp) (by simp), by simp [h1, h2, h3, h4, h5, h6]⟩
  rintro s rfl
  unfold valP
  by_cases hr : m < 1 ∨ m > 3 ∨ lo < 0 ∨ lo > 2 ∨ am < 0 ∨ am > 2
  · rw [if_pos hr, decide_eq_true hr]
    refine AW.iff true (by simp) (fun _ => ?_) (fun h => by cases h)
    refine AW.st teOk [] (by simp [-Option.some.injEq] <;> rfl) trivial ?_
    refine AW.ret ⟨.inr rfl, _, Weak.refl _, ?_⟩
    simp
  rw [if_neg hr, decide_eq_false hr]
  refine AW.iff false (by simp) (fun h => by cases h) (fun _ => ?_)
  by_cases h2 : ins.length > 2
  · rw [if_pos h2]
    refine AW.st teOk [] (by simp [h2, -Option.some.injEq] <;> rfl) trivial ?_
    refine AW.iff true (by simp; omega) (fun _ => ?_) (fun h => by cases h)
    refine AW.st teOk [] (by simp [-Option.some.injEq] <;> rfl) trivial ?_
    refine AW.ret ⟨.inr rfl, _, Weak.refl _, ?_⟩
    simp
  rw [if_neg h2]
  refine AW.st teOk [] (by simp [h2, -Option.some.injEq] <;> rfl) trivial ?_
  refine AW.iff false (by simp; omega) (fun h => by cases h) (fun _ => AW.skip ?_)
  refine AW.seq ?_
  refine AW.st teOk [] (by simp [-Option.some.injEq] <;> rfl) trivial ?_
  refine AW.block (AW.loop (fun m' s => ∃ j : Nat, m' = ins.length - j ∧ j ≤ ins.length ∧ valIns ins = valIns (ins.drop j) ∧ s = ⟨[(1, .c (.fad (encPg m lo am ins))), (39, .c (.row 1 false (ins.map encIn))), (40, .c (cI ins.length)), (41, .c (cI j))], [], 0⟩) _ (Weak.normS hA [1, 39, 40, 41] [] [] [] 0 _ (by simp) (by simp) (by simp)) ⟨0, rfl, Nat.zero_le _, rfl, by simp⟩ ?_)
  rintro m' s ⟨j, rfl, hj, hv, rfl⟩
  refine AW.st teOk [] (by simp [-Option.some.injEq] <;> rfl) trivial ?_
  refine AW.seq (AW.iff (decide (j < ins.length)) (by simp) (fun h => AW.skip ?_) (fun h => AW.exit (x_then (x_then (blockA_exit ?_)))))
  · rw [decide_eq_true_eq] at h
    obtain ⟨l, hl0⟩ : ∃ l, ins[j]? = some l := ⟨_, List.getElem?_eq_getElem h⟩
    obtain ⟨hll, hlv⟩ := hl l (List.mem_of_getElem? hl0)
    have hinc : IntKind.i64.wrap ((j : Int) + 1) = (j : Int) + 1 := wrap_s _ (by omega)
    have hd : ins.drop j = l :: ins.drop (j + 1) := by
      rw [List.drop_eq_getElem_cons h, (List.getElem?_eq_some_iff.1 hl0).2]
    rw [hd, valIns] at hv
    refine AW.seq (AW.block ?_)
    refine AW.st teOk [] (by simp [hl0, -Option.some.injEq] <;> rfl) ?_ ?_
    · simpa using h
    refine AW.seq ?_
    by_cases h3 : l.length > 2
    · rw [if_pos h3] at hv
      rw [hv]
      refine AW.st teOk [] (by simp [-Option.some.injEq] <;> rfl) trivial ?_
      refine AW.iff true (by simp; omega) (fun _ => ?_) (fun h => by cases h)
      refine AW.st teOk [] (by simp [-Option.some.injEq] <;> rfl) trivial ?_
      refine AW.ret ⟨.inr rfl, _, Weak.refl _, ?_⟩
      simp
    rw [if_neg h3] at hv
    refine AW.st teOk [] (by simp [-Option.some.injEq] <;> rfl) trivial ?_
    refine AW.iff false (by simp; omega) (fun h => by cases h) (fun _ => AW.skip ?_)
    refine AW.st teOk [] (by simp [-Option.some.injEq] <;> rfl) trivial ?_
    refine AW.block (AW.loop (fun m' s => ∃ q : Nat, m' = l.length - q ∧ q ≤ l.length ∧ valVs l = valVs (l.drop q) ∧ s = ⟨[(1, .c (.fad (encPg m lo am ins))), (39, .c (.row 1 false (ins.map encIn))), (40, .c (cI ins.length)), (41, .c (cI j)), (48, .c (encVs l)), (49, .c (cI l.length)), (50, .c (cI q))], [], 0⟩) _ (Weak.normS hA [1, 39, 40, 41, 48, 49, 50] [] [] [] 0 _ (by simp) (by simp) (by simp)) ⟨0, rfl, Nat.zero_le _, rfl, by simp⟩ ?_)
    rintro m' s ⟨q, rfl, hq, hw, rfl⟩
    refine AW.st teOk [] (by simp [-Option.some.injEq] <;> rfl) trivial ?_
    refine AW.seq (AW.iff (decide (q < l.length)) (by simp) (fun h4 => AW.skip ?_) (fun h4 => AW.exit (x_then (x_then (blockA_exit ?_)))))
    · rw [decide_eq_true_eq] at h4
      obtain ⟨v, hv0⟩ : ∃ v, l[q]? = some v := ⟨_, List.getElem?_eq_getElem h4⟩
      have hincq : IntKind.i64.wrap ((q : Int) + 1) = (q : Int) + 1 := wrap_s _ (by omega)
      have hd2 : l.drop q = v :: l.drop (q + 1) := by
        rw [List.drop_eq_getElem_cons h4, (List.getElem?_eq_some_iff.1 hv0).2]
      rw [hd2, valVs] at hw
      have c0 := vval_pure v (hlv v (List.mem_of_getElem? hv0))
      refine AW.seq (AW.block ?_)
      refine AW.st teOk [] (by simp [hv0, -Option.some.injEq] <;> rfl) ?_ ?_
      · simpa using h4
      refine AW.st teOk [.fz (.c (cI (valI v)))] (by simp [-Option.some.injEq] <;> rfl) ?_ ?_
      · exact c0
      by_cases h5 : valI v = 0
      · rw [if_neg (by simpa using h5)] at hw
        refine AW.st teOk [] (by simp [h5, -Option.some.injEq] <;> rfl) trivial ?_
        refine AW.iff false (by simp) (fun h => by cases h) (fun _ => AW.skip ?_)
        refine AW.text teOk (ans := []) (by simp [-Option.some.injEq] <;> rfl) ?_ ?_
        · trivial
        refine ⟨_, _, Weak.normS hA [1, 39, 40, 41, 48, 49, 50] [] [] [] 0 _ (by simp) (by simp) (by simp), ?_, q + 1, rfl, h4, hw, ?_⟩
        · omega
        · simp [hincq]
      · rw [if_pos h5] at hw
        rw [hw, if_pos h5] at hv
        refine AW.st teOk [] (by simp [h5, -Option.some.injEq] <;> rfl) trivial ?_
        refine AW.iff true (by simp [h5]) (fun _ => ?_) (fun h => by cases h)
        refine AW.st teOk [] (by simp [-Option.some.injEq] <;> rfl) trivial ?_
        refine AW.ret ⟨.inr rfl, _, Weak.refl _, ?_⟩
        simp [hv]
    rw [decide_eq_false_iff_not] at h4
    rw [List.drop_eq_nil_of_le (show l.length ≤ q by omega), valVs] at hw
    rw [hw, if_neg (by simp)] at hv
    refine AW.text teOk (ans := []) (by simp [-Option.some.injEq] <;> rfl) ?_ ?_
    · trivial
    refine ⟨_, _, Weak.normS hA [1, 39, 40, 41] [] [] [] 0 _ (by simp) (by simp) (by simp), ?_, j + 1, rfl, h, hv, ?_⟩
    · omega
    · simp [hinc]
  rw [decide_eq_false_iff_not] at h
  rw [List.drop_eq_nil_of_le (show ins.length ≤ j by omega), valIns] at hv
  rw [hv]
  refine AW.st teOk [] (by simp [-Option.some.injEq] <;> rfl) trivial ?_
  refine AW.ret ⟨.inr rfl, _, Weak.refl _, ?_⟩
  simp
end Go.Proofs.YtphlhadgcfndhaaDoor.Abs
end
