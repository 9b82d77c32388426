/- Frames: a stream in pieces. -/
import Derived.Test.YtopcklnnkpjanaaWFeed2
namespace Go.Proofs.Ytopcklnnkpjanaa.Abs
open Go Go.RowKit Fr
set_option linter.unusedVariables false
set_option linter.unusedSimpArgs false
theorem dec_more {a b : List Int} (ha : Bytes a) (h : (Dec a).2.2 ≠ 1) : Dec (a ++ b) = Dec a := by
  have hw := word4_range ha
  unfold Dec at h ⊢
  by_cases h4 : a.length < 4
  · rw [if_pos h4] at h
    exact absurd rfl h
  rw [if_neg h4] at h
  have h4' : ¬ (a ++ b).length < 4 := by rw [List.length_append]; omega
  have hwe : word4 (a ++ b) = word4 a := word4_congr (by rw [List.take_append_of_le_length (by omega)])
  rw [if_neg h4, if_neg h4', hwe]
  obtain ⟨n, hn⟩ : ∃ n, n = word4 a := ⟨_, rfl⟩
  rw [← hn] at h hw ⊢
  by_cases hb : n > 65536
  · rw [if_pos hb, if_pos hb]
  rw [if_neg hb] at h
  rw [if_neg hb, if_neg hb]
  by_cases hs : (a.length : Int) < n + 8
  · rw [if_pos hs] at h
    exact absurd rfl h
  have hs' : ¬ ((a ++ b).length : Int) < n + 8 := by rw [List.length_append]; omega
  rw [if_neg hs, if_neg hs']
  have ht : (a ++ b).take (4 + n.toNat) = a.take (4 + n.toNat) := List.take_append_of_le_length (by omega)
  have hd : word4 ((a ++ b).drop (4 + n.toNat)) = word4 (a.drop (4 + n.toNat)) := word4_congr (by
    rw [List.drop_append_of_le_length (by omega), List.take_append_of_le_length (by rw [List.length_drop]; omega)])
  rw [ht, hd]
theorem feed_split (b : List Int) (hb : Bytes b) : ∀ (m : Nat) (a : List Int), a.length ≤ m → Bytes a → feedI (a ++ b) = ((feedF (feedI a).1.1 (feedI a).1.2 b).1, (feedI a).2 ++ (feedF (feedI a).1.1 (feedI a).1.2 b).2) := by
  intro m
  induction m with
  | zero =>
    intro a hl ha
    have : a = [] := List.eq_nil_of_length_eq_zero (by omega)
    subst this
    rfl
  | succ m ih =>
    intro a hl ha
    have hst := feed_step ha
    by_cases h0 : (Dec a).2.2 = 0
    · have hok := dec_ok ha h0
      rw [if_pos h0] at hst
      have hm := dec_more (b := b) ha (by rw [h0]; decide)
      have hst2 := feed_step (ha.append hb)
      rw [hm, if_pos h0] at hst2
      have hdr : (a ++ b).drop (Dec a).2.1.toNat = a.drop (Dec a).2.1.toNat ++ b := List.drop_append_of_le_length (by omega)
      rw [hdr, ih _ (by rw [List.length_drop]; omega) (ha.drop _)] at hst2
      rw [hst2, hst]
      rfl
    · rw [if_neg h0] at hst
      by_cases h1 : (Dec a).2.2 = 1
      · rw [if_pos h1] at hst
        rw [hst]
        simp [feedF]
      · rw [if_neg h1] at hst
        have hm := dec_more (b := b) ha h1
        have hst2 := feed_step (ha.append hb)
        rw [hm, if_neg h0, if_neg h1] at hst2
        rw [hst2, hst]
        simp [feedF, h0]
theorem feed_bytes : ∀ (m : Nat) (a : List Int), a.length ≤ m → Bytes a → Bytes (feedI a).1.1 ∧ BytesL (feedI a).2 ∧ (feedI a).1.1.length ≤ a.length ∧ (feedI a).2.length ≤ a.length := by
  intro m
  induction m with
  | zero =>
    intro a hl ha
    have : a = [] := List.eq_nil_of_length_eq_zero (by omega)
    subst this
    exact ⟨(fun x hx => by cases hx), (fun x hx => by cases hx), Nat.le_refl _, Nat.le_refl _⟩
  | succ m ih =>
    intro a hl ha
    have hst := feed_step ha
    obtain ⟨⟨p, n, e⟩, hd⟩ : ∃ d, d = Dec a := ⟨_, rfl⟩
    have hpl := dec_len hd.symm ha
    by_cases h0 : (Dec a).2.2 = 0
    · have hok := dec_ok ha h0
      rw [if_pos h0] at hst
      have hlen : (a.drop (Dec a).2.1.toNat).length + 8 ≤ a.length := by rw [List.length_drop]; omega
      obtain ⟨i1, i2, i3, i4⟩ := ih _ (by omega) (ha.drop (Dec a).2.1.toNat)
      rw [hst]
      refine ⟨i1, fun x hx => ?_, by dsimp only; omega, by simp only [List.length_cons]; omega⟩
      rcases List.mem_cons.1 hx with rfl | hx
      · rw [← hd]; exact hpl.1
      · exact i2 x hx
    · rw [if_neg h0] at hst
      by_cases h1 : (Dec a).2.2 = 1
      · rw [if_pos h1] at hst
        rw [hst]
        exact ⟨ha, (fun x hx => by cases hx), Nat.le_refl _, Nat.zero_le _⟩
      · rw [if_neg h1] at hst
        rw [hst]
        exact ⟨(fun x hx => by cases hx), (fun x hx => by cases hx), Nat.zero_le _, Nat.zero_le _⟩
theorem feedF_bytes {buf b : List Int} (e : Int) (h1 : Bytes buf) (h2 : Bytes b) : Bytes (feedF buf e b).1.1 ∧ BytesL (feedF buf e b).2 ∧ (feedF buf e b).1.1.length ≤ buf.length + b.length ∧ (feedF buf e b).2.length ≤ buf.length + b.length := by
  unfold feedF
  split
  · have := feed_bytes _ _ (Nat.le_refl _) (h1.append h2)
    rw [List.length_append] at this
    exact this
  · exact ⟨(fun x hx => by cases hx), (fun x hx => by cases hx), Nat.zero_le _, Nat.zero_le _⟩
theorem feed_nil : feedI [] = (([], 0), []) := rfl
theorem feed_frms : ∀ (ps : List (List Int)), (∀ p ∈ ps, Bytes p ∧ p.length ≤ 65536) → feedI (ps.map frm).flatten = (([], 0), ps)
  | [], _ => rfl
  | p :: ps, h => by
    have hp := h p (by simp)
    have hb : ∀ qs : List (List Int), (∀ q ∈ qs, Bytes q ∧ q.length ≤ 65536) → Bytes (qs.map frm).flatten := fun qs hq x hx => by
      obtain ⟨f, hf, hx⟩ := List.mem_flatten.1 hx
      obtain ⟨q, hq', rfl⟩ := List.mem_map.1 hf
      exact frm_bytes (hq q hq').1 x hx
    have h' : ∀ q ∈ ps, Bytes q ∧ q.length ≤ 65536 := fun q hq => h q (by simp [hq])
    have hst := feed_step (hb (p :: ps) h)
    rw [List.map_cons, List.flatten_cons] at hst ⊢
    rw [dec_frm p _ hp.2, if_pos rfl] at hst
    have hdr : (frm p ++ (ps.map frm).flatten).drop ((p.length : Int) + 8).toNat = (ps.map frm).flatten := by
      rw [show ((p.length : Int) + 8).toNat = (frm p).length from by rw [frm_length]; omega, List.drop_left]
    dsimp only at hst
    rw [hdr, feed_frms ps h'] at hst
    exact hst
end Go.Proofs.Ytopcklnnkpjanaa.Abs
