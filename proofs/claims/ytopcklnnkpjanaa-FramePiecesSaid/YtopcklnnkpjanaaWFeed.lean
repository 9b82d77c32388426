/- Frames: a stream that is fed, by the program and by the reference. -/
import Derived.Test.YtopcklnnkpjanaaWDec3
namespace Go.Proofs.Ytopcklnnkpjanaa.Abs
open Go Go.RowKit Fr
set_option linter.unusedVariables false
set_option linter.unusedSimpArgs false
set_option maxHeartbeats 4000000
def feedN : Nat → List Int → (List Int × Int) × List (List Int)
  | 0, _ => (([], 0), [])
  | k + 1, l => if (Dec l).2.2 = 0 then ((feedN k (l.drop (Dec l).2.1.toNat)).1, (Dec l).1 :: (feedN k (l.drop (Dec l).2.1.toNat)).2) else if (Dec l).2.2 = 1 then ((l, 0), []) else (([], (Dec l).2.2), [])
def feedI (l : List Int) : (List Int × Int) × List (List Int) := feedN (l.length + 1) l
theorem dec_ok {l : List Int} (hb : Bytes l) (h : (Dec l).2.2 = 0) : 8 ≤ (Dec l).2.1 ∧ (Dec l).2.1 ≤ l.length := by
  have hw := word4_range hb
  unfold Dec at h ⊢
  split
  · rename_i h1; rw [if_pos h1] at h; cases h
  · rename_i h1
    rw [if_neg h1] at h
    split
    · rename_i h2; rw [if_pos h2] at h; cases h
    · rename_i h2
      rw [if_neg h2] at h
      split
      · rename_i h3; rw [if_pos h3] at h; cases h
      · rename_i h3
        rw [if_neg h3] at h
        split
        · simp; omega
        · rename_i h4; rw [if_neg h4] at h; cases h
theorem dec_len {l p : List Int} {n e : Int} (h : Dec l = (p, n, e)) (hb : Bytes l) : Bytes p ∧ p.length ≤ l.length := by
  unfold Dec at h
  have nil : Bytes [] := fun x hx => by cases hx
  split at h
  · cases h; exact ⟨nil, by simp⟩
  · split at h
    · cases h; exact ⟨nil, by simp⟩
    · split at h
      · cases h; exact ⟨nil, by simp⟩
      · split at h
        · cases h
          exact ⟨(hb.take _).drop _, by rw [List.length_drop, List.length_take]; omega⟩
        · cases h; exact ⟨nil, by simp⟩
theorem feedN_up : ∀ (k m : Nat) (l : List Int), Bytes l → l.length < k → l.length < m → feedN k l = feedN m l
  | 0, _, l, _, h, _ => by omega
  | _, 0, l, _, _, h => by omega
  | k + 1, m + 1, l, hb, h1, h2 => by
    rw [feedN, feedN]
    by_cases h : (Dec l).2.2 = 0
    · have := dec_ok hb h
      have hl : (l.drop (Dec l).2.1.toNat).length < l.length := by rw [List.length_drop]; omega
      rw [if_pos h, if_pos h, feedN_up k m _ (hb.drop _) (by omega) (by omega)]
    · rw [if_neg h, if_neg h]
theorem feed_step {l : List Int} (hb : Bytes l) : feedI l = if (Dec l).2.2 = 0 then ((feedI (l.drop (Dec l).2.1.toNat)).1, (Dec l).1 :: (feedI (l.drop (Dec l).2.1.toNat)).2) else if (Dec l).2.2 = 1 then ((l, 0), []) else (([], (Dec l).2.2), []) := by
  rw [feedI, feedN]
  by_cases h : (Dec l).2.2 = 0
  · have := dec_ok hb h
    have hl : (l.drop (Dec l).2.1.toNat).length < l.length := by rw [List.length_drop]; omega
    rw [if_pos h, if_pos h, feedI, feedN_up l.length ((l.drop (Dec l).2.1.toNat).length + 1) _ (hb.drop _) (by omega) (by omega)]
  · rw [if_neg h, if_neg h]
/-- What a splitter with these bytes and this error answers. -/
def feedF (buf : List Int) (e : Int) (b : List Int) : (List Int × Int) × List (List Int) := if e = 0 then feedI (buf ++ b) else (([], e), [])
abbrev encPs (l : List (List Int)) : Cell := .row 1 false (l.map encP)
abbrev encSp (s : List Int × Int) : AVal := .agg [encB s.1, cI s.2]
theorem leSp (e : Int) : LeV (.agg [.sc (.slice none 0 0), cI e]) (encSp ([], e)) := .aggs (.cons nil_row (.cons (.refl _) .nil))
theorem feed_pure (buf b : List Int) (e : Int) (hb1 : Bytes buf) (hb2 : Bytes b) (hl1 : buf.length < 10000000000) (hl2 : b.length < 10000000000) : Pure Try.prog 23 [encSp (buf, e), .c (encB b)] (.tup [encSp (feedF buf e b).1, .c (encPs (feedF buf e b).2)]) := by
  refine pure_le teOk Try.func23 (by kernel_rfl) (c := _) rfl (N := 47) rfl (rs := [Go.ResultVar.cell 4 36, Go.ResultVar.tmp 5]) rfl (by simp) fun base A w0 hA => ?_
  refine AW.st teOk [] (by simp [-Option.some.injEq] <;> rfl) trivial ?_
  refine AW.seq ?_
  refine AW.st teOk [] (by simp [-Option.some.injEq] <;> rfl) trivial ?_
  by_cases he : e = 0
  · subst he
    refine AW.iff false (by simp) (fun h => by cases h) (fun _ => AW.skip ?_)
    have pc : Pure Try.prog 68 [.c (.row 1 true [[encB buf], [encB b]])] (.c (encB (buf ++ b))) := by
      have := concatB_pure [buf, b] (by simp) (by simp; omega)
      simpa using this
    have hlb : (buf ++ b).length < 20000000000 := by rw [List.length_append]; omega
    have hbb := hb1.append hb2
    have hF : feedF buf 0 b = feedI (buf ++ b) := rfl
    rw [hF]
    generalize buf ++ b = l at *
    refine AW.st teOk [.fz (.c (encB l))] (by simp [-Option.some.injEq] <;> rfl) ?_ ?_
    · exact pc
    refine AW.st teOk [] (by simp [-Option.some.injEq] <;> rfl) trivial ?_
    refine AW.weak (Weak.nil 7 1 _ (by simp <;> rfl)) (AW.block (AW.loop (fun m s => ∃ rest done, m = rest.length ∧ Bytes rest ∧ done.length + rest.length ≤ l.length ∧ feedI l = ((feedI rest).1, done ++ (feedI rest).2) ∧ s = ⟨[(4, .c (.ptr 0 0 0)), (6, .c (encB rest)), (7, .c (.ref 1 0 done.length))], [(1, ⟨1, done.map encP⟩), (0, ⟨2, [[.sc (.slice none 0 0), cI 0]]⟩)], 2⟩) _ (Weak.normT hA [4, 6, 7] [(4, 0), (7, 1)] [] 2 _ (by simp) (by simp) (by simp)) ⟨l, [], rfl, hbb, by simp, by simp, by simp⟩ ?_))
    rintro m s ⟨rest, done, rfl, hbr, hlen, hfd, rfl⟩
    refine AW.block ?_
    have pd := dec_pure rest hbr (by omega)
    have hst := feed_step hbr
    obtain ⟨⟨p, n, e⟩, hd⟩ : ∃ d, d = Dec rest := ⟨_, rfl⟩
    have hpl := dec_len hd.symm hbr
    have hok := dec_ok hbr
    unfold decV at pd
    rw [← hd] at pd hst hok
    dsimp only at pd hst hok
    refine AW.st teOk [.fz (.tup [.c (encB p), .c (cI n), .c (cI e)])] (by simp [-Option.some.injEq] <;> rfl) ?_ ?_
    · exact pd
    refine AW.st teOk [] (by simp [-Option.some.injEq] <;> rfl) trivial ?_
    refine AW.block ?_
    refine AW.st teOk [] (by simp [-Option.some.injEq] <;> rfl) trivial ?_
    by_cases h0 : e = 0
    · subst h0
      obtain ⟨h8, hnl⟩ := hok rfl
      rw [if_pos rfl] at hst
      obtain ⟨q, rfl⟩ : ∃ q : Nat, n = q := ⟨n.toNat, by omega⟩
      simp only [Int.toNat_natCast] at h8 hnl hst
      have hdr : (rest.map encb).drop q = (rest.drop q).map encb := enc_drop rest q
      have hbr2 := hbr.drop q
      have hl2 : (rest.drop q).length < rest.length := by rw [List.length_drop]; omega
      generalize rest.drop q = rest2 at *
      refine AW.iff true (by simp) (fun _ => ?_) (fun h => by cases h)
      refine AW.st teOk [] (by simp [-Option.some.injEq] <;> rfl) ?_ ?_
      · simp [growOk]; omega
      refine AW.text teOk (ans := []) (by simp [hdr, -Option.some.injEq] <;> rfl) ?_ ?_
      · first | trivial | omega | (simp [allP, growOk] <;> omega)
      refine ⟨_, _, Weak.normT hA [4, 6, 7] [(4, 0), (7, 1)] [] 2 _ (by simp) (by simp) (by simp), ?_, rest2, done ++ [p], rfl, hbr2, ?_, ?_, by simp⟩
      · omega
      · simp; omega
      · rw [hfd, hst, List.append_assoc]; rfl
    · rw [if_neg h0] at hst
      refine AW.iff false (by simp [h0]) (fun h => by cases h) (fun _ => ?_)
      refine AW.st teOk [] (by simp [-Option.some.injEq] <;> rfl) trivial ?_
      by_cases h1 : e = 1
      · subst h1
        rw [if_pos rfl] at hst
        refine AW.iff true (by simp) (fun _ => ?_) (fun h => by cases h)
        refine AW.st teOk [.fz (.c (encB rest))] (by simp [-Option.some.injEq] <;> rfl) ?_ ?_
        · exact cloneB_pure rest (by omega)
        refine AW.ret ⟨.inr rfl, _, _, Weak.frzT 5 [] _ (by simp <;> exact ⟨rfl, rfl, rfl⟩) (by simp <;> rfl) (flat_encP done), by simp <;> rfl, ?_⟩
        rw [hfd, hst]
        simp
        exact .refl _
      · rw [if_neg h1] at hst
        refine AW.iff false (by simp [h1]) (fun h => by cases h) (fun _ => ?_)
        refine AW.st teOk [] (by simp [-Option.some.injEq] <;> rfl) trivial ?_
        refine AW.ret ⟨.inr rfl, _, _, Weak.frzT 5 [] _ (by simp <;> exact ⟨rfl, rfl, rfl⟩) (by simp <;> rfl) (flat_encP done), by simp <;> rfl, ?_⟩
        rw [hfd, hst]
        simp
        exact .tups (.cons (leSp e) (.cons (.refl _) .nil))
  · refine AW.iff true (by simp [he]) (fun _ => ?_) (fun h => by cases h)
    refine AW.st teOk [] (by simp [-Option.some.injEq] <;> rfl) trivial ?_
    have hF : feedF buf e b = (([], e), []) := if_neg he
    rw [hF]
    refine AW.ret ⟨.inr rfl, _, _, Weak.refl _, by simp <;> rfl, ?_⟩
    exact .tups (.cons (leSp e) (.cons (.c (.nil 1)) .nil))
end Go.Proofs.Ytopcklnnkpjanaa.Abs
