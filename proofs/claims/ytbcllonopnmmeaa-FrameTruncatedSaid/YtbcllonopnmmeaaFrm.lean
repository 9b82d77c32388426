/- Frames as lists of numbers: what appending and decoding answer, and what decoding gives of a frame, of a damaged frame and of a part of one. -/
import Derived.Test.YtbcllonopnmmeaaBase
namespace Go.Proofs.Ytbcllonopnmmeaa.Pure
open Go.RowKit Go.Proofs.Ytbcllonopnmmeaa.Print Go.Proofs.YtbcllonopnmmeaaW.PrintWords Go.Proofs.YtbcllonopnmmeaaW.PrintLast Go.Proofs.YtbcllonopnmmeaaW.PrintMore

def Bytes (l : List Int) : Prop := ∀ x ∈ l, 0 ≤ x ∧ x < 256
theorem wf_u8 {x : Int} (h : (Lit.int .u8 x).wf = true) : 0 ≤ x ∧ x < 256 := by
  simp [Lit.wf, IntKind.min, IntKind.max, IntKind.signed, IntKind.bits] at h
  omega
theorem wf_u16 {x : Int} (h : (Lit.int .u16 x).wf = true) : 0 ≤ x ∧ x < 65536 := by
  simp [Lit.wf, IntKind.min, IntKind.max, IntKind.signed, IntKind.bits] at h
  omega
theorem Bytes.of {l : List Int} (h : ∀ x ∈ l, (Lit.int .u8 x).wf = true) : Bytes l := fun x hx => wf_u8 (h x hx)
theorem Bytes.getD {l : List Int} (h : Bytes l) (i : Nat) : 0 ≤ l.getD i 0 ∧ l.getD i 0 < 256 := by
  rw [List.getD_eq_getElem?_getD]
  rcases Nat.lt_or_ge i l.length with hi | hi
  · rw [List.getElem?_eq_getElem hi]
    exact h _ (List.getElem_mem hi)
  · rw [List.getElem?_eq_none hi]
    simp
theorem Bytes.append {a b : List Int} (ha : Bytes a) (hb : Bytes b) : Bytes (a ++ b) := fun x hx => (List.mem_append.1 hx).elim (ha x) (hb x)
theorem Bytes.drop {a : List Int} (ha : Bytes a) (n : Nat) : Bytes (a.drop n) := fun x hx => ha x (List.mem_of_mem_drop hx)
theorem Bytes.take {a : List Int} (ha : Bytes a) (n : Nat) : Bytes (a.take n) := fun x hx => ha x (List.mem_of_mem_take hx)
theorem Bytes.set {a : List Int} (ha : Bytes a) (n : Nat) (v : Int) (hv : 0 ≤ v ∧ v < 256) : Bytes (a.set n v) := fun x hx => by
  rcases List.mem_or_eq_of_mem_set hx with h | h
  · exact ha x h
  · rw [h]; exact hv
def be4 (n : Int) : List Int := [(n / 16777216) % 256, (n / 65536) % 256, (n / 256) % 256, n % 256]
theorem be4_bytes (n : Int) : Bytes (be4 n) := by
  intro x hx
  simp [be4] at hx
  omega
def word4 (l : List Int) : Int := ((l.getD 0 0 * 256 + l.getD 1 0) * 256 + l.getD 2 0) * 256 + l.getD 3 0
theorem word4_range {l : List Int} (h : Bytes l) : 0 ≤ word4 l ∧ word4 l < 4294967296 := by
  have h0 := h.getD 0
  have h1 := h.getD 1
  have h2 := h.getD 2
  have h3 := h.getD 3
  unfold word4
  omega
theorem word4_be4 (n : Int) (h0 : 0 ≤ n) (h1 : n < 4294967296) (t : List Int) : word4 (be4 n ++ t) = n := by
  simp only [word4, be4, List.cons_append, List.nil_append, List.getD_cons_zero, List.getD_cons_succ]
  omega

theorem rw_step (l : List Int) (hb : Bytes l) (i : Nat) (hi : i < 4) (hl : i < l.length) (x : Int) (h0 : 0 ≤ x) (h1 : x < 16777216) (k : Nat) :
    frame_readWord.l0 (k + 1) l x (i : Int) = frame_readWord.l0 k l (x * 256 + l.getD i 0) ((i + 1 : Nat) : Int) := by
  have hg := hb.getD i
  simp only [frame_readWord.l0]
  rw [if_pos (by omega), if_pos (by omega), if_pos (by omega), rd_nat, w64 (by omega) (by omega), or_sum _ _ (by omega) (by omega) (by omega) (by omega) (by omega)]
  rw [show (x * 256 % 4294967296) = x * 256 from by omega, show (l.getD i 0 % 4294967296) = l.getD i 0 from by omega]
  rfl
theorem read_is (l : List Int) (hb : Bytes l) (hl : 4 ≤ l.length) (k : Nat) (hk : 5 ≤ k) : frame_readWord.f k l = some (word4 l) := by
  obtain ⟨k, rfl⟩ : ∃ m, k = m + 1 + 1 + 1 + 1 + 1 := ⟨k - 5, by omega⟩
  have g0 := hb.getD 0
  have g1 := hb.getD 1
  have g2 := hb.getD 2
  have g3 := hb.getD 3
  unfold frame_readWord.f
  have e0 := rw_step l hb 0 (by omega) (by omega) 0 (by omega) (by omega) (k + 1 + 1 + 1 + 1)
  have e1 := rw_step l hb 1 (by omega) (by omega) (0 * 256 + l.getD 0 0) (by omega) (by omega) (k + 1 + 1 + 1)
  have e2 := rw_step l hb 2 (by omega) (by omega) ((0 * 256 + l.getD 0 0) * 256 + l.getD 1 0) (by omega) (by omega) (k + 1 + 1)
  have e3 := rw_step l hb 3 (by omega) (by omega) (((0 * 256 + l.getD 0 0) * 256 + l.getD 1 0) * 256 + l.getD 2 0) (by omega) (by omega) (k + 1)
  refine e0.trans (e1.trans (e2.trans (e3.trans ?_)))
  simp only [frame_readWord.l0]
  rw [if_neg (by omega)]
  simp [word4]
theorem four_is (l : List Int) (hb : Bytes l) (hl : 4 ≤ l.length) : elasticstoreref03_Four.f l = some (word4 l) := by
  have g0 := hb.getD 0
  have g1 := hb.getD 1
  have g2 := hb.getD 2
  have g3 := hb.getD 3
  unfold elasticstoreref03_Four.f
  rw [if_pos (by omega), if_pos (by omega), if_pos (by omega), if_pos (by omega)]
  have r0 : rd l 0 = l.getD 0 0 := rd_nat l 0
  have r1 : rd l 1 = l.getD 1 0 := rd_nat l 1
  have r2 : rd l 2 = l.getD 2 0 := rd_nat l 2
  have r3 : rd l 3 = l.getD 3 0 := rd_nat l 3
  rw [r0, r1, r2, r3]
  unfold word4
  generalize l.getD 0 0 = x0 at *
  generalize l.getD 1 0 = x1 at *
  generalize l.getD 2 0 = x2 at *
  generalize l.getD 3 0 = x3 at *
  clear r0 r1 r2 r3
  rw [show x0 % 4294967296 * 16777216 % 4294967296 = x0 * 16777216 from by omega, show x1 % 4294967296 * 65536 % 4294967296 = x1 * 65536 from by omega, show x2 % 4294967296 * 256 % 4294967296 = x2 * 256 from by omega, show x3 % 4294967296 = x3 from by omega]
  rw [or_sum24 (x0 * 16777216) (x1 * 65536) (by omega) (by omega) (by omega) (by omega) (by omega), or_sum16 (x0 * 16777216 + x1 * 65536) (x2 * 256) (by omega) (by omega) (by omega) (by omega) (by omega), or_sum (x0 * 16777216 + x1 * 65536 + x2 * 256) x3 (by omega) (by omega) (by omega) (by omega) (by omega)]
  congr 1
  omega

/-! ### decoding -/
def Dec (l : List Int) : List Int × Int × Int :=
  if l.length < 4 then ([], 0, 1)
  else if word4 l > 65536 then ([], 0, 3)
  else if (l.length : Int) < word4 l + 8 then ([], 0, 1)
  else if word4 (l.drop (4 + (word4 l).toNat)) = ((sumN (l.take (4 + (word4 l).toNat)) : Nat) : Int) then ((l.take (4 + (word4 l).toNat)).drop 4, word4 l + 8, 0)
  else ([], 0, 4)
theorem dec_is (l : List Int) (hb : Bytes l) (hl : l.length < 1099511627776) (k : Nat) (hk : 10 * l.length + 10 ≤ k) : frame_Decode.f k l = some (Dec l) := by
  unfold frame_Decode.f Dec
  by_cases c1 : l.length < 4
  · rw [if_pos (by omega), if_pos c1]
  · rw [if_neg (by omega), if_neg c1, read_is l hb (by omega) k (by omega), Option.bind_some]
    have hw := word4_range hb
    generalize hn : word4 l = n at hw ⊢
    by_cases c2 : n > 65536
    · rw [if_pos c2, if_pos c2]
    · rw [if_neg c2, if_neg c2]
      have e1 : wrap64 (4 + wrap64 n) = 4 + n := by rw [w64 (n := n) (by omega) (by omega), w64 (by omega) (by omega)]
      rw [e1]
      have e2 : wrap64 (4 + n + 4) = n + 8 := by rw [w64 (by omega) (by omega)]; omega
      rw [e2]
      by_cases c3 : (l.length : Int) < n + 8
      · rw [if_pos c3, if_pos c3]
      · rw [if_neg c3, if_neg c3, if_pos (by omega), if_pos (by omega)]
        have e3 : (4 + n).toNat = 4 + n.toNat := by omega
        rw [e3, read_is _ (hb.drop _) (by rw [List.length_drop]; omega) k (by omega), Option.bind_some]
        rw [sum_is _ (by rw [List.length_take]; omega) k (by rw [List.length_take]; omega), Option.bind_some]
        by_cases c4 : word4 (l.drop (4 + n.toNat)) = ((sumN (l.take (4 + n.toNat)) : Nat) : Int)
        · rw [if_pos c4, if_pos c4, if_pos (by omega)]
          unfold slices_Clone_byte_byte.f
          rw [if_pos (by rw [List.length_drop, List.length_take]; omega), Option.bind_some]
        · rw [if_neg c4, if_neg c4]
theorem rdec_is (l : List Int) (hb : Bytes l) (hl : l.length < 1099511627776) (k : Nat) (hk : 10 * l.length + 10 ≤ k) : elasticstoreref03_DecodeFrame.f k l = some (Dec l) := by
  unfold elasticstoreref03_DecodeFrame.f Dec
  by_cases c1 : l.length < 4
  · rw [if_pos (by omega), if_pos c1]
  · rw [if_neg (by omega), if_neg c1, four_is l hb (by omega), Option.bind_some]
    have hw := word4_range hb
    generalize hn : word4 l = n at hw ⊢
    by_cases c2 : n > 65536
    · rw [if_pos c2, if_pos c2]
    · rw [if_neg c2, if_neg c2]
      have e1 : wrap64 (4 + wrap64 n) = 4 + n := by rw [w64 (n := n) (by omega) (by omega), w64 (by omega) (by omega)]
      rw [e1]
      have e2 : wrap64 (4 + n + 4) = n + 8 := by rw [w64 (by omega) (by omega)]; omega
      rw [e2]
      by_cases c3 : (l.length : Int) < n + 8
      · rw [if_pos c3, if_pos c3]
      · rw [if_neg c3, if_neg c3, if_pos (by omega), if_pos (by omega)]
        have e3 : (4 + n).toNat = 4 + n.toNat := by omega
        rw [e3, four_is _ (hb.drop _) (by rw [List.length_drop]; omega), Option.bind_some]
        rw [rsum_is _ (by rw [List.length_take]; omega) k (by rw [List.length_take]; omega), Option.bind_some]
        by_cases c4 : word4 (l.drop (4 + n.toNat)) = ((sumN (l.take (4 + n.toNat)) : Nat) : Int)
        · rw [if_pos c4, if_pos c4, Option.bind_some, if_pos (by omega), if_pos (by simp [List.length_drop, List.length_take] <;> omega)]
          simp
        · rw [if_neg c4, if_neg c4]

/-! ### appending -/
def frm (p : List Int) : List Int := (be4 p.length ++ p) ++ be4 ((sumN (be4 p.length ++ p) : Nat) : Int)
theorem frm_length (p : List Int) : (frm p).length = p.length + 8 := by simp [frm, be4]
theorem frm_bytes {p : List Int} (h : Bytes p) : Bytes (frm p) := ((be4_bytes _).append h).append (be4_bytes _)
theorem concat_is (a b : List Int) (h : a.length + b.length < 140737488355328) (k : Nat) (hk : 6 ≤ k) : slices_Concat_byte_byte.f k [a, b] = some (a ++ b) := by
  obtain ⟨k, rfl⟩ : ∃ m, k = m + 1 + 1 + 1 + 1 + 1 + 1 := ⟨k - 6, by omega⟩
  have r0 : rd_L1 [a, b] 0 = a := rfl
  have r1 : rd_L1 [a, b] 1 = b := rfl
  have l2 : (([a, b] : List (List Int)).length : Int) = 2 := rfl
  unfold slices_Concat_byte_byte.f
  rw [l2]
  simp only [slices_Concat_byte_byte.l0]
  rw [if_pos (by omega), if_pos (by omega), if_pos (by rw [l2]; omega), r0, if_neg (by rw [w64 (by omega) (by omega)]; omega)]
  rw [show wrap64 (0 + (a.length : Int)) = (a.length : Int) from by rw [w64 (by omega) (by omega)]; omega, show wrap64 (0 + 1) = 1 from by unfold wrap64; omega]
  rw [if_pos (by omega), if_pos (by omega), if_pos (by rw [l2]; omega), r1, if_neg (by rw [w64 (by omega) (by omega)]; omega)]
  rw [show wrap64 ((a.length : Int) + (b.length : Int)) = (a.length : Int) + b.length from by rw [w64 (by omega) (by omega)], show wrap64 (1 + 1) = 2 from by unfold wrap64; omega]
  rw [if_neg (by omega)]
  unfold slices_Grow_byte_byte.f
  rw [if_pos (by omega), if_pos (by omega), Option.bind_some, l2]
  simp only [slices_Concat_byte_byte.l1]
  rw [if_pos (by omega), if_pos (by omega), if_pos (by rw [l2]; omega), r0, if_pos (by simp; omega), show wrap64 (0 + 1) = 1 from by unfold wrap64; omega]
  rw [if_pos (by omega), if_pos (by omega), if_pos (by rw [l2]; omega), r1, if_pos (by simp; omega), show wrap64 (1 + 1) = 2 from by unfold wrap64; omega]
  rw [if_neg (by omega)]
  simp
theorem word_is (d : List Int) (n : Int) (hd : d.length + 4 < 140737488355328) : frame_appendWord.f d n = some (d ++ be4 n) := by
  unfold frame_appendWord.f
  rw [Option.bind_some, if_pos (by simp; omega)]
  rfl
theorem rword_is (d : List Int) (n : Int) (hd : d.length + 4 < 140737488355328) : elasticstoreref03_four.f d n = some (d ++ be4 n) := by
  unfold elasticstoreref03_four.f
  rw [Option.bind_some, if_pos (by simp; omega), Option.bind_some, Option.bind_some, if_pos (by simp; omega)]
  simp [be4]
theorem append_is (d p : List Int) (hp : p.length ≤ 65536) (hd : d.length < 1099511627776) (k : Nat) (hk : 10 * p.length + 100 ≤ k) : frame_Append.f k d p = some (d ++ frm p, 0) := by
  have hlen : (be4 p.length ++ p).length = p.length + 4 := by simp [be4]
  unfold frame_Append.f
  rw [if_neg (by omega), word_is _ _ (by simp), Option.bind_some, show ((p.length : Int)) % 4294967296 = p.length from by omega, List.nil_append]
  rw [if_pos (by simp [be4]; omega), Option.bind_some, sum_is _ (by rw [hlen]; omega) k (by rw [hlen]; omega), Option.bind_some]
  rw [word_is _ _ (by rw [hlen]; omega), Option.bind_some]
  rw [show (be4 (p.length : Int) ++ p) ++ be4 ((sumN (be4 p.length ++ p) : Nat) : Int) = frm p from rfl]
  rw [concat_is d (frm p) (by rw [frm_length]; omega) k (by omega), Option.bind_some]
theorem append_long (d p : List Int) (hp : 65536 < p.length) (k : Nat) : frame_Append.f k d p = some ([], 3) := by
  unfold frame_Append.f
  rw [if_pos (by omega)]
theorem rappend_is (d p : List Int) (hp : p.length ≤ 65536) (hd : d.length < 1099511627776) (k : Nat) (hk : 10 * p.length + 100 ≤ k) : elasticstoreref03_AppendFrame.f k d p = some (d ++ frm p, 0) := by
  have hlen : (be4 p.length ++ p).length = p.length + 4 := by simp [be4]
  unfold elasticstoreref03_AppendFrame.f
  rw [if_neg (by omega), rword_is _ _ (by simp), Option.bind_some, show ((p.length : Int)) % 4294967296 = p.length from by omega, List.nil_append]
  rw [if_pos (by simp [be4]; omega), Option.bind_some, rsum_is _ (by rw [hlen]; omega) k (by rw [hlen]; omega), Option.bind_some]
  rw [rword_is _ _ (by rw [hlen]; omega), Option.bind_some]
  rw [show (be4 (p.length : Int) ++ p) ++ be4 ((sumN (be4 p.length ++ p) : Nat) : Int) = frm p from rfl]
  rw [Option.bind_some, if_pos (by simp; omega), Option.bind_some, if_pos (by simp [frm_length]; omega)]
  simp

/-! ### a frame decoded -/
theorem frm_word (p t : List Int) (hp : p.length ≤ 65536) : word4 (frm p ++ t) = p.length := by
  unfold frm
  rw [List.append_assoc, List.append_assoc]
  exact word4_be4 _ (by omega) (by omega) _
theorem frm_take (p t : List Int) : (frm p ++ t).take (4 + p.length) = be4 p.length ++ p := by
  unfold frm
  rw [List.append_assoc]
  rw [List.take_append_of_le_length (by simp [be4]; omega)]
  exact List.take_of_length_le (by simp [be4]; omega)
theorem frm_drop (p t : List Int) : (frm p ++ t).drop (4 + p.length) = be4 ((sumN (be4 p.length ++ p) : Nat) : Int) ++ t := by
  unfold frm
  rw [List.append_assoc]
  have h : 4 + p.length = (be4 (p.length : Int) ++ p).length := by simp [be4]; omega
  rw [h, List.drop_left]
theorem dec_frm (p t : List Int) (hp : p.length ≤ 65536) : Dec (frm p ++ t) = (p, (p.length : Int) + 8, 0) := by
  unfold Dec
  have hl : (frm p ++ t).length = p.length + 8 + t.length := by rw [List.length_append, frm_length]
  rw [if_neg (by omega), frm_word p t hp, if_neg (by omega), if_neg (by omega), Int.toNat_natCast, frm_take, frm_drop]
  have hs := sumN_lt (be4 p.length ++ p)
  rw [if_pos (word4_be4 _ (by omega) (by omega) t)]
  simp [be4]
theorem word4_congr {a b : List Int} (h : a.take 4 = b.take 4) : word4 a = word4 b := by
  have hg : ∀ i, i < 4 → a.getD i 0 = b.getD i 0 := fun i hi => by
    have := congrArg (fun l : List Int => l[i]?) h
    simp only [List.getElem?_take, hi, if_true] at this
    rw [List.getD_eq_getElem?_getD, List.getD_eq_getElem?_getD, this]
  unfold word4
  rw [hg 0 (by omega), hg 1 (by omega), hg 2 (by omega), hg 3 (by omega)]
theorem dec_cut (p : List Int) (hp : p.length ≤ 65536) (c : Nat) (hc : c < p.length + 8) : Dec ((frm p).take c) = ([], 0, 1) := by
  unfold Dec
  have hl : ((frm p).take c).length = c := by rw [List.length_take, frm_length]; omega
  by_cases h4 : c < 4
  · rw [if_pos (by omega)]
  · have hw : word4 ((frm p).take c) = p.length := by
      rw [word4_congr (b := frm p ++ []) (by rw [List.take_take, Nat.min_eq_left (by omega), List.append_nil])]
      exact frm_word p [] hp
    rw [if_neg (by omega), hw, if_neg (by omega), if_pos (by omega)]
theorem word4_set (l : List Int) (hl : 4 ≤ l.length) (j : Nat) (hj : j < 4) (v : Int) (hv : v ≠ l.getD j 0) : word4 (l.set j v) ≠ word4 l := by
  match l, hl with
  | a :: b :: c :: d :: t, _ =>
    match j, hj with
    | 0, _ => simp [word4] at hv ⊢; omega
    | 1, _ => simp [word4] at hv ⊢; omega
    | 2, _ => simp [word4] at hv ⊢; omega
    | 3, _ => simp [word4] at hv ⊢; omega
theorem dec_hurt (p : List Int) (hb : Bytes p) (hp : p.length ≤ 65536) (i : Nat) (hi : i < p.length + 4) (v : Int) (hv : 0 ≤ v ∧ v < 256) (hne : v ≠ (frm p).getD (4 + i) 0) : Dec ((frm p).set (4 + i) v) = ([], 0, 4) := by
  have hF := frm_bytes hb
  have hl : ((frm p).set (4 + i) v).length = p.length + 8 := by rw [List.length_set, frm_length]
  have hw : word4 ((frm p).set (4 + i) v) = p.length := by
    rw [word4_congr (b := frm p ++ []) (by rw [List.take_set_of_le (by omega), List.append_nil])]
    exact frm_word p [] hp
  have ht : (frm p).take (4 + p.length) = be4 p.length ++ p := by have := frm_take p []; rwa [List.append_nil] at this
  have hd : (frm p).drop (4 + p.length) = be4 ((sumN (be4 p.length ++ p) : Nat) : Int) := by have := frm_drop p []; rwa [List.append_nil, List.append_nil] at this
  have hs := sumN_lt (be4 p.length ++ p)
  have hg := hF.getD (4 + i)
  unfold Dec
  rw [if_neg (by omega), hw, if_neg (by omega), if_neg (by omega), Int.toNat_natCast]
  rw [if_neg]
  by_cases hin : i < p.length
  · rw [List.drop_set_of_lt (by omega), hd, List.take_set, ht]
    have h1 := word4_be4 ((sumN (be4 p.length ++ p) : Nat) : Int) (by omega) (by omega) []
    rw [List.append_nil] at h1
    rw [h1]
    have hx : (be4 (p.length : Int) ++ p).getD (4 + i) 0 = (frm p).getD (4 + i) 0 := by
      rw [← ht, List.getD_eq_getElem?_getD, List.getD_eq_getElem?_getD, List.getElem?_take, if_pos (by omega)]
    have := sumN_set (be4 p.length ++ p) (4 + i) v (by simp [be4]; omega) (by rw [hx]; omega)
    omega
  · rw [List.take_set_of_le (by omega), ht, List.drop_set, if_neg (by omega), hd]
    have hx : (be4 ((sumN (be4 p.length ++ p) : Nat) : Int)).getD (4 + i - (4 + p.length)) 0 = (frm p).getD (4 + i) 0 := by
      rw [← hd, List.getD_eq_getElem?_getD, List.getD_eq_getElem?_getD, List.getElem?_drop]
      congr 2
      omega
    have h1 := word4_be4 ((sumN (be4 p.length ++ p) : Nat) : Int) (by omega) (by omega) []
    rw [List.append_nil] at h1
    have := word4_set (be4 ((sumN (be4 p.length ++ p) : Nat) : Int)) (by simp [be4]) (4 + i - (4 + p.length)) (by omega) v (by rw [hx]; exact hne)
    rw [h1] at this
    exact this
/-- A bit that is turned turns the byte. -/
theorem flip_ne (x b : Int) (hx : 0 ≤ x ∧ x < 256) (hb : 0 ≤ b ∧ b < 256) : let v := Go.bits .xor .u8 x (shl .u8 1 (Int.tmod b 8)); (0 ≤ v ∧ v < 256) ∧ v ≠ x := by
  intro v
  have hm : Int.tmod b 8 = b % 8 := Int.tmod_eq_emod_of_nonneg hb.1
  have h8 : b % 8 = 0 ∨ b % 8 = 1 ∨ b % 8 = 2 ∨ b % 8 = 3 ∨ b % 8 = 4 ∨ b % 8 = 5 ∨ b % 8 = 6 ∨ b % 8 = 7 := by omega
  have hs : ∃ m : Nat, shl .u8 1 (Int.tmod b 8) = (m : Int) ∧ m < 256 ∧ m ≠ 0 := by
    rw [hm]
    rcases h8 with h | h | h | h | h | h | h | h <;> rw [h]
    · exact ⟨1, by decide, by decide, by decide⟩
    · exact ⟨2, by decide, by decide, by decide⟩
    · exact ⟨4, by decide, by decide, by decide⟩
    · exact ⟨8, by decide, by decide, by decide⟩
    · exact ⟨16, by decide, by decide, by decide⟩
    · exact ⟨32, by decide, by decide, by decide⟩
    · exact ⟨64, by decide, by decide, by decide⟩
    · exact ⟨128, by decide, by decide, by decide⟩
  obtain ⟨m, hm, hm1, hm2⟩ := hs
  obtain ⟨a, rfl⟩ := Int.eq_ofNat_of_zero_le hx.1
  have hv : v = ((a ^^^ m : Nat) : Int) := by
    show Go.bits .xor .u8 _ _ = _
    rw [hm]
    exact xr8_nat a m (by omega) hm1
  have hlt : a ^^^ m < 256 := by
    have h8 : (2 : Nat) ^ 8 = 256 := by decide
    have := Nat.xor_lt_two_pow (n := 8) (show a < 2 ^ 8 by rw [h8]; omega) (show m < 2 ^ 8 by rw [h8]; exact hm1)
    rwa [h8] at this
  rw [hv]
  refine ⟨by omega, fun h => hm2 ?_⟩
  have h2 : a ^^^ m = a ^^^ 0 := by rw [Nat.xor_zero]; omega
  exact xor_cancel_left h2
end Go.Proofs.Ytbcllonopnmmeaa.Pure
