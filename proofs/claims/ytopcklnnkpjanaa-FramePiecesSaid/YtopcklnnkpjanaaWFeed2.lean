/- Frames: a stream that is fed to the reference; lists of payloads held against each other. -/
import Derived.Test.YtopcklnnkpjanaaWFeed
namespace Go.Proofs.Ytopcklnnkpjanaa.Abs
open Go Go.RowKit Fr
set_option linter.unusedVariables false
set_option linter.unusedSimpArgs false
set_option maxHeartbeats 4000000
theorem rfeed_pure (buf b : List Int) (e : Int) (hb1 : Bytes buf) (hb2 : Bytes b) (hl1 : buf.length < 10000000000) (hl2 : b.length < 10000000000) : Pure Try.prog 24 [.c (encB buf), .c (cI e), .c (encB b)] (.tup [.c (encB (feedF buf e b).1.1), .c (cI (feedF buf e b).1.2), .c (encPs (feedF buf e b).2)]) := by
  refine pure_le teOk Try.func24 (by kernel_rfl) (c := _) rfl (N := 52) rfl (rs := [Go.ResultVar.tmp 6, Go.ResultVar.tmp 7, Go.ResultVar.tmp 8]) rfl (by simp) fun base A w0 hA => ?_
  refine AW.st teOk [] (by simp [-Option.some.injEq] <;> rfl) trivial ?_
  refine AW.seq ?_
  refine AW.st teOk [] (by simp [-Option.some.injEq] <;> rfl) trivial ?_
  by_cases he : e = 0
  · subst he
    refine AW.iff false (by simp) (fun h => by cases h) (fun _ => AW.skip ?_)
    have hlb : (buf ++ b).length = buf.length + b.length := List.length_append
    have hw := add_s buf.length b.length _ (by rw [← hlb]; exact Nat.le_refl _) (by rw [hlb]; omega : (buf ++ b).length < 1000000000000)
    have hbb := hb1.append hb2
    have hF : feedF buf 0 b = feedI (buf ++ b) := rfl
    rw [hF]
    have ht : (buf.map encb ++ b.map encb).take (buf.length + b.length) = buf.map encb ++ b.map encb := List.take_of_length_le (by simp)
    refine AW.mid (fun s => s = ⟨[(0, .c (encB buf)), (2, .c (encB b)), (9, .c (encB (buf ++ b)))], [], 0⟩) ?_ ?_
    · by_cases hb0 : b = []
      · subst hb0
        refine AW.text teOk (ans := []) (by simp [-Option.some.injEq] <;> rfl) ?_ ?_
        · simp [growOk]; omega
        exact ⟨_, (Weak.frzT 9 [] _ (by simp <;> exact ⟨rfl, rfl, rfl⟩) (by simp <;> rfl) (by simp)).trans (Weak.normT hA [0, 2, 9] [] [] 0 _ (by simp) (by simp) (by simp)), by simp⟩
      · refine AW.text teOk (ans := []) (by simp [hb0, -Option.some.injEq] <;> rfl) ?_ ?_
        · simp [growOk]; omega
        exact ⟨_, (Weak.frzT 9 [] _ (by simp <;> exact ⟨rfl, rfl, rfl⟩) (by simp <;> rfl) (by simp)).trans (Weak.normT hA [0, 2, 9] [] [] 0 _ (by simp) (by simp) (by simp)), by simp [ht]⟩
    rintro s rfl
    rw [← hlb] at hw
    generalize buf ++ b = l at *
    refine AW.st teOk [] (by simp [-Option.some.injEq] <;> rfl) trivial ?_
    refine AW.weak (Weak.nil 10 1 _ (by simp <;> rfl)) (AW.seq (AW.block (AW.loop (fun m s => ∃ rest done, m = rest.length ∧ Bytes rest ∧ done.length + rest.length ≤ l.length ∧ feedI l = ((feedI rest).1, done ++ (feedI rest).2) ∧ s = ⟨[(0, .c (encB buf)), (2, .c (encB b)), (9, .c (encB rest)), (10, .c (.ref 0 0 done.length))], [(0, ⟨1, done.map encP⟩)], 1⟩) _ (Weak.normT hA [0, 2, 9, 10] [(10, 0)] [] 1 _ (by simp) (by simp) (by simp)) ⟨l, [], rfl, hbb, by simp, by simp, by simp⟩ ?_)))
    rintro m s ⟨rest, done, rfl, hbr, hlen, hfd, rfl⟩
    refine AW.seq ?_
    refine AW.st teOk [] (by simp [hw, -Option.some.injEq] <;> rfl) trivial ?_
    refine AW.iff true (by simp; omega) (fun _ => AW.skip ?_) (fun h => by cases h)
    refine AW.block ?_
    have pd := rdec_pure rest hbr (by omega)
    have hst := feed_step hbr
    obtain ⟨⟨p, n, e⟩, hd⟩ : ∃ d, d = Dec rest := ⟨_, rfl⟩
    have hpl := dec_len hd.symm hbr
    have hok := dec_ok hbr
    unfold decV at pd
    rw [← hd] at pd hst hok
    dsimp only at pd hst hok
    refine AW.st teOk [.fz (.tup [.c (encB p), .c (cI n), .c (cI e)])] (by simp [-Option.some.injEq] <;> rfl) ?_ ?_
    · exact pd
    refine AW.seq ?_
    refine AW.st teOk [] (by simp [-Option.some.injEq] <;> rfl) trivial ?_
    by_cases h1 : e = 1
    · subst h1
      rw [if_neg (by decide), if_pos rfl] at hst
      refine AW.iff true (by simp) (fun _ => ?_) (fun h => by cases h)
      refine AW.st teOk [] (by simp [-Option.some.injEq] <;> rfl) trivial ?_
      refine AW.ret ⟨.inr rfl, _, _, Weak.frzT 8 [] _ (by simp <;> exact ⟨rfl, rfl, rfl⟩) (by simp <;> rfl) (flat_encP done), by simp <;> rfl, ?_⟩
      rw [hfd, hst]
      simp
      exact .refl _
    refine AW.iff false (by simp [h1]) (fun h => by cases h) (fun _ => AW.skip ?_)
    refine AW.seq ?_
    refine AW.st teOk [] (by simp [-Option.some.injEq] <;> rfl) trivial ?_
    by_cases h0 : e = 0
    · subst h0
      obtain ⟨h8, hnl⟩ := hok rfl
      rw [if_pos rfl] at hst
      obtain ⟨q, rfl⟩ : ∃ q : Nat, n = q := ⟨n.toNat, by omega⟩
      simp only [Int.toNat_natCast] at h8 hnl hst
      have hdr : (rest.map encb).drop q = (rest.drop q).map encb := enc_drop rest q
      have hbr2 := hbr.drop q
      have hl2 : (rest.drop q).length < rest.length := by rw [List.length_drop]; omega
      generalize rest.drop q = rest2 at *
      refine AW.iff false (by simp) (fun h => by cases h) (fun _ => AW.skip ?_)
      refine AW.st teOk [] (by simp [-Option.some.injEq] <;> rfl) ?_ ?_
      · simp [growOk]; omega
      refine AW.text teOk (ans := []) (by simp [hdr, -Option.some.injEq] <;> rfl) ?_ ?_
      · first | trivial | omega | (simp [allP, growOk] <;> omega)
      refine ⟨_, _, Weak.normT hA [0, 2, 9, 10] [(10, 0)] [] 1 _ (by simp) (by simp) (by simp), ?_, rest2, done ++ [p], rfl, hbr2, ?_, ?_, by simp⟩
      · omega
      · simp; omega
      · rw [hfd, hst, List.append_assoc]; rfl
    · rw [if_neg h0, if_neg h1] at hst
      refine AW.iff true (by simp [h0]) (fun _ => ?_) (fun h => by cases h)
      refine AW.st teOk [] (by simp [-Option.some.injEq] <;> rfl) trivial ?_
      refine AW.ret ⟨.inr rfl, _, _, Weak.frzT 8 [] _ (by simp <;> exact ⟨rfl, rfl, rfl⟩) (by simp <;> rfl) (flat_encP done), by simp <;> rfl, ?_⟩
      rw [hfd, hst]
      simp
      exact .tups (.cons (.c nil_row) (.cons (.refl _) (.cons (.refl _) .nil)))
  · refine AW.iff true (by simp [he]) (fun _ => ?_) (fun h => by cases h)
    refine AW.st teOk [] (by simp [-Option.some.injEq] <;> rfl) trivial ?_
    have hF : feedF buf e b = (([], e), []) := if_neg he
    rw [hF]
    refine AW.ret ⟨.inr rfl, _, _, Weak.refl _, by simp <;> rfl, ?_⟩
    exact .tups (.cons (.c nil_row) (.cons (.refl _) (.cons (.c (.nil 1)) .nil)))
theorem u8_inj {x y : Int} (hx : 0 ≤ x ∧ x < 256) (hy : 0 ≤ y ∧ y < 256) (h : UInt8.ofNat x.toNat = UInt8.ofNat y.toNat) : x = y := by
  have := congrArg UInt8.toNat h
  simp only [UInt8.toNat_ofNat'] at this
  omega
theorem map_u8_inj : ∀ {a b : List Int}, Bytes a → Bytes b → (a.map fun n => UInt8.ofNat n.toNat) = (b.map fun n => UInt8.ofNat n.toNat) → a = b
  | [], [], _, _, _ => rfl
  | [], y :: b, _, _, h => by cases h
  | x :: a, [], _, _, h => by cases h
  | x :: a, y :: b, ha, hb, h => by
    simp only [List.map_cons, List.cons.injEq] at h
    rw [u8_inj (ha x (by simp)) (hb y (by simp)) h.1, map_u8_inj (fun z hz => ha z (by simp [hz])) (fun z hz => hb z (by simp [hz])) h.2]
/-- Strings of bytes. -/
theorem str_eq {a b : List Int} (ha : Bytes a) (hb : Bytes b) : ((strOfNums a).toList == (strOfNums b).toList) = decide (a = b) := by
  rw [ByteArray.toList_eq, ByteArray.toList_eq, strOfNums_data, strOfNums_data]
  by_cases h : a = b
  · rw [h]; simp
  · rw [decide_eq_false h, beq_eq_false_iff_ne]
    exact fun g => h (map_u8_inj ha hb g)
def BytesL (l : List (List Int)) : Prop := ∀ p ∈ l, Bytes p
theorem same_pure (a b : List (List Int)) (ha : BytesL a) (hb : BytesL b) (hl : a.length < 10000000000) : Pure Try.prog 25 [.c (encPs a), .c (encPs b)] (.c (cB (decide (a = b)))) := by
  refine pure_of teOk Try.func25 (by kernel_rfl) (c := _) rfl (N := 28) rfl (rs := [Go.ResultVar.tmp 4]) rfl (by simp) fun base A w0 hA => ?_
  refine AW.st teOk [] (by simp [-Option.some.injEq] <;> rfl) trivial ?_
  refine AW.seq ?_
  refine AW.st teOk [] (by simp [-Option.some.injEq] <;> rfl) trivial ?_
  by_cases hlen : a.length = b.length
  · refine AW.iff false (by simp [hlen]) (fun h => by cases h) (fun _ => AW.skip ?_)
    refine AW.seq ?_
    refine AW.st teOk [] (by simp [-Option.some.injEq] <;> rfl) trivial ?_
    refine AW.block (AW.loop (fun m s => ∃ j : Nat, m = a.length - j ∧ j ≤ a.length ∧ a.take j = b.take j ∧ s = ⟨[(0, .c (encPs a)), (1, .c (encPs b)), (5, .c (cI j))], [], 0⟩) _ (Weak.normT hA [0, 1, 5] [] [] 0 _ (by simp) (by simp) (by simp)) ⟨0, rfl, Nat.zero_le _, rfl, by simp⟩ ?_)
    rintro m s ⟨j, rfl, hj, ht, rfl⟩
    refine AW.seq ?_
    refine AW.st teOk [] (by simp [-Option.some.injEq] <;> rfl) trivial ?_
    refine AW.iff (decide (j < a.length)) (by simp) (fun h => AW.skip ?_) (fun h => AW.exit (x_then (x_then (blockA_exit ?_))))
    · rw [decide_eq_true_eq] at h
      obtain ⟨x, hx⟩ : ∃ x, a[j]? = some x := ⟨_, List.getElem?_eq_getElem h⟩
      obtain ⟨y, hy⟩ : ∃ y, b[j]? = some y := ⟨_, List.getElem?_eq_getElem (by omega)⟩
      have hs := str_eq (ha x (List.mem_of_getElem? hx)) (hb y (List.mem_of_getElem? hy))
      refine AW.seq (AW.block ?_)
      refine AW.dr mixed teOk [] (by simp [hx, hy, hs, -Option.some.injEq] <;> rfl) (by kernel_rfl) (by kernel_rfl) ?_ ?_
      · simp [allP]; omega
      by_cases hxy : x = y
      · refine AW.iff false (by simp [hxy]) (fun h => by cases h) (fun _ => AW.skip ?_)
        refine AW.text teOk (ans := []) (by simp [-Option.some.injEq] <;> rfl) ?_ ?_
        · trivial
        refine ⟨_, _, Weak.normT hA [0, 1, 5] [] [] 0 _ (by simp) (by simp) (by simp), ?_, j + 1, rfl, h, ?_, ?_⟩
        · omega
        · rw [List.take_add_one, List.take_add_one, hx, hy, ht, hxy]
        · simp
          exact wrap_s j (by omega)
      · refine AW.iff true (by simp [hxy]) (fun _ => ?_) (fun h => by cases h)
        refine AW.st teOk [] (by simp [-Option.some.injEq] <;> rfl) trivial ?_
        refine AW.ret ⟨.inr rfl, _, Weak.refl _, ?_⟩
        have : a ≠ b := fun h => by rw [h, hy] at hx; cases hx; exact hxy rfl
        simp [this]
    · rw [decide_eq_false_iff_not] at h
      obtain rfl : j = a.length := by omega
      rw [List.take_length, hlen, List.take_length] at ht
      refine AW.st teOk [] (by simp [-Option.some.injEq] <;> rfl) trivial ?_
      refine AW.ret ⟨.inr rfl, _, Weak.refl _, ?_⟩
      simp [ht]
  · refine AW.iff true (by simp; omega) (fun _ => ?_) (fun h => by cases h)
    refine AW.st teOk [] (by simp [-Option.some.injEq] <;> rfl) trivial ?_
    refine AW.ret ⟨.inr rfl, _, Weak.refl _, ?_⟩
    have : a ≠ b := fun h => hlen (by rw [h])
    simp [this]
end Go.Proofs.Ytopcklnnkpjanaa.Abs
