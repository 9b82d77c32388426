/- Joined for the claim: WNco WNrp -/
import Derived.Test.YtphlhadgcfndhaaGreatJd5
section
namespace Go.Proofs.YtphlhadgcfndhaaGreat.Abs
open Go Go.RowKit
set_option linter.unusedVariables false
set_option linter.unusedSimpArgs false
set_option maxHeartbeats 4000000
@[simp] def enci (n : Int) : List Cell := [cI n]
abbrev encis (l : List Int) : Cell := .row 1 false (l.map enci)
@[simp] theorem flat_enci (l : List Int) : flatO ⟨1, l.map enci⟩ = true := flatO_of fun e he => by
  obtain ⟨x, _, rfl⟩ := List.mem_map.1 he
  rfl
/-- Does something hold of an element and of those before it? -/
def anyAt {α : Type} (f : List α → α → Bool) (l : List α) : Bool := (List.range l.length).any fun i => match l[i]? with
  | some x => f (l.take i) x
  | none => false
def upTo {α : Type} (f : List α → α → Bool) (l : List α) (i : Nat) : Bool := (List.range i).any fun i => match l[i]? with
  | some x => f (l.take i) x
  | none => false
theorem upTo_0 {α : Type} (f : List α → α → Bool) (l : List α) : upTo f l 0 = false := rfl
theorem upTo_s {α : Type} {f : List α → α → Bool} {l : List α} {i : Nat} {x : α} (h : l[i]? = some x) : upTo f l (i + 1) = (upTo f l i || f (l.take i) x) := by
  unfold upTo
  rw [List.range_succ, List.any_append]
  simp [h]
theorem upTo_all {α : Type} (f : List α → α → Bool) (l : List α) : upTo f l l.length = anyAt f l := rfl
theorem upTo_hit {α : Type} {f : List α → α → Bool} {l : List α} {i : Nat} {x : α} (h : l[i]? = some x) (hf : f (l.take i) x = true) : anyAt f l = true := by
  unfold anyAt
  rw [List.any_eq_true]
  exact ⟨i, List.mem_range.2 (List.getElem?_eq_some_iff.1 h).1, by rw [h]; exact hf⟩
def rngS (n : Nat) (l : List Int) : Bool := anyAt (fun _ x => !inR n x) l
def dupS (l : List Int) : Bool := anyAt (fun b x => b.contains x) l
def misS (ops : List OpS) (l : List Int) : Bool := anyAt (fun b o => reqB o && !l.contains (b.length : Int)) ops
def penS (ops : List OpS) (l : List Int) : Bool := anyAt (fun _ x => match opAt ops x with
  | some o => penB o
  | none => false) l
def ordS (ops : List OpS) (l : List Int) : Bool := anyAt (fun b x => anyAt (fun _ y => preS ops x y) b) l
def chkS (ops : List OpS) (l : List Int) : Int := if rngS ops.length l = true then 9 else if dupS l = true then 5 else if misS ops l = true then 6 else if penS ops l = true then 2 else if ordS ops l = true then 7 else 0
/-- Which operations occur. -/
def hadL (n : Nat) (l : List Int) : List (List Cell) := (List.range n).map fun j : Nat => [cB (l.contains (j : Int))]
theorem hadL_0 (n : Nat) : hadL n [] = List.replicate n [cB false] := by
  unfold hadL
  refine List.ext_getElem (by simp) fun i h1 h2 => by simp
theorem hadL_set {n : Nat} {l : List Int} {x : Int} (h : inR n x = true) : (hadL n l).set x.toNat [cB true] = hadL n (l ++ [x]) := by
  simp only [inR, Bool.and_eq_true, decide_eq_true_eq] at h
  unfold hadL
  refine List.ext_getElem (by simp) fun i h1 h2 => ?_
  rw [List.getElem_set]
  by_cases hi : x.toNat = i
  · rw [if_pos hi]
    have : x = (i : Int) := by omega
    simp [this]
  · rw [if_neg hi]
    have : ¬ ((i : Int) = x) := by omega
    simp [this]
theorem hadL_get {n : Nat} {l : List Int} {x : Int} (h : inR n x = true) : (hadL n l)[x.toNat]? = some [cB (l.contains x)] := by
  simp only [inR, Bool.and_eq_true, decide_eq_true_eq] at h
  unfold hadL
  rw [List.getElem?_map, List.getElem?_range (by omega)]
  simp only [Option.map_some]
  rw [show ((x.toNat : Nat) : Int) = x by omega]
theorem hadL_len (n : Nat) (l : List Int) : (hadL n l).length = n := by simp [hadL]
@[simp] theorem flat_hadL (n : Nat) (l : List Int) : flatO ⟨1, hadL n l⟩ = true := flatO_of fun e he => by
  obtain ⟨x, _, rfl⟩ := List.mem_map.1 he
  rfl
theorem check_pure (ops : List OpS) (l : List Int) (hn : ops.length < 1000000) (hl : l.length < 1000000) : Pure Tryz.prog 23 [.agg (encHi ops), .c (encis l)] (.c (cI (chkS ops l))) := by
  have hin : rngS ops.length l = false → ∀ (i : Nat) (x : Int), l[i]? = some x → inR ops.length x = true := fun h i x hx => by
    cases hq : inR ops.length x with
    | true => rfl
    | false =>
      have := upTo_hit (f := fun _ x => !inR ops.length x) hx (by simp [hq])
      rw [show anyAt (fun _ x => !inR ops.length x) l = rngS ops.length l from rfl, h] at this
      cases this
  obtain ⟨n, hne⟩ : ∃ n, n = ops.length := ⟨_, rfl⟩
  refine pure_of teOk Tryz.func23 (by kernel_rfl) (c := _) rfl (N := 111) rfl (rs := [Go.ResultVar.tmp 4]) rfl (by simp) fun base A w0 hA => ?_
  refine AW.st teOk [] (by simp [-Option.some.injEq] <;> rfl) trivial ?_
  refine AW.st teOk [] (by simp [-Option.some.injEq] <;> rfl) ?_ ?_
  · first | trivial | omega
  refine AW.mid (fun s => rngS ops.length l = false ∧ s = ⟨[(1, .c (encis l)), (2, .c (.fad (encHi ops))), (5, .c (.ref 0 0 ops.length))], [(0, ⟨1, hadL ops.length []⟩)], 1⟩) ?_ ?_
  · refine AW.st teOk [] (by simp [-Option.some.injEq] <;> rfl) trivial ?_
    refine AW.block (AW.loop (fun m s => ∃ i : Nat, m = l.length - i ∧ i ≤ l.length ∧ upTo (fun _ x => !inR ops.length x) l i = false ∧ s = ⟨[(1, .c (encis l)), (2, .c (.fad (encHi ops))), (5, .c (.ref 0 0 ops.length)), (23, .c (encis l)), (24, .c (cI l.length)), (25, .c (cI i))], [(0, ⟨1, hadL ops.length []⟩)], 1⟩) _ ((Weak.freeze 0 ⟨1, [encHi ops]⟩ [] _ (by simp) rfl).trans (Weak.normT hA [1, 2, 5, 23, 24, 25] [(5, 0)] [] 1 _ (by simp) (by simp) (by simp [mapAt_nil]; exact hadL_0 ops.length ▸ flat_hadL _ _))) ⟨0, rfl, Nat.zero_le _, rfl, by simp [mapAt_nil, hadL_0]⟩ ?_)
    rintro m s ⟨i, rfl, hi, hno, rfl⟩
    refine AW.st teOk [] (by simp [-Option.some.injEq] <;> rfl) trivial ?_
    refine AW.seq ?_
    refine AW.iff (decide (i < l.length)) (by simp) (fun h => AW.skip ?_) (fun h => AW.exit (x_then (x_then (blockA_exit ?_))))
    · rw [decide_eq_true_eq] at h
      obtain ⟨x, he⟩ : ∃ e, l[i]? = some e := ⟨_, List.getElem?_eq_getElem h⟩
      refine AW.seq (AW.block ?_)
      refine AW.st teOk [] (by simp [he, -Option.some.injEq] <;> rfl) ?_ ?_
      · omega
      cases hx0 : decide (x < 0) with
      | true =>
        refine AW.st teOk [] (by simp [hx0, -Option.some.injEq] <;> rfl) trivial ?_
        refine AW.iff true (by simp) (fun _ => ?_) (fun h => by cases h)
        refine AW.st teOk [] (by simp [-Option.some.injEq] <;> rfl) trivial ?_
        refine AW.ret ⟨.inr rfl, _, Weak.refl _, ?_⟩
        have hb : rngS ops.length l = true := upTo_hit he (by simp [inR]; simp at hx0; omega)
        simp [chkS, hb]
      | false =>
        refine AW.st teOk [] (by simp [hx0, hadL_len, -Option.some.injEq] <;> rfl) trivial ?_
        refine AW.iff (decide (x ≥ ops.length)) (by simp) (fun g => ?_) (fun g => AW.skip ?_)
        · refine AW.st teOk [] (by simp [-Option.some.injEq] <;> rfl) trivial ?_
          refine AW.ret ⟨.inr rfl, _, Weak.refl _, ?_⟩
          have hb : rngS ops.length l = true := upTo_hit he (by simp [inR]; simp at g; omega)
          simp [chkS, hb]
        · refine AW.text teOk (ans := []) (by simp [-Option.some.injEq] <;> rfl) ?_ ?_
          · trivial
          refine ⟨_, _, Weak.normT hA [1, 2, 5, 23, 24, 25] [(5, 0)] [] 1 _ (by simp) (by simp) (by simp), ?_, i + 1, rfl, h, ?_, ?_⟩
          · omega
          · rw [upTo_s he, hno]
            simp [inR]
            simp at hx0 g
            omega
          · simp
            exact wrap_s i (by omega)
    · rw [decide_eq_false_iff_not] at h
      have : i = l.length := by omega
      subst this
      exact ⟨_, Weak.normT hA [1, 2, 5] [(5, 0)] [] 1 _ (by simp) (by simp) (by simp), hno, by simp⟩
  rintro s ⟨h1, rfl⟩
  refine AW.mid (fun s => dupS l = false ∧ s = ⟨[(1, .c (encis l)), (2, .c (.fad (encHi ops))), (5, .c (.ref 0 0 ops.length))], [(0, ⟨1, hadL ops.length l⟩)], 1⟩) ?_ ?_
  · refine AW.st teOk [] (by simp [-Option.some.injEq] <;> rfl) trivial ?_
    refine AW.block (AW.loop (fun m s => ∃ i : Nat, m = l.length - i ∧ i ≤ l.length ∧ upTo (fun b x => b.contains x) l i = false ∧ s = ⟨[(1, .c (encis l)), (2, .c (.fad (encHi ops))), (5, .c (.ref 0 0 ops.length)), (38, .c (encis l)), (39, .c (cI l.length)), (40, .c (cI i))], [(0, ⟨1, hadL ops.length (l.take i)⟩)], 1⟩) _ (Weak.normT hA [1, 2, 5, 38, 39, 40] [(5, 0)] [] 1 _ (by simp) (by simp) (by simp)) ⟨0, rfl, Nat.zero_le _, rfl, by simp⟩ ?_)
    rintro m s ⟨i, rfl, hi, hno, rfl⟩
    refine AW.st teOk [] (by simp [-Option.some.injEq] <;> rfl) trivial ?_
    refine AW.seq ?_
    refine AW.iff (decide (i < l.length)) (by simp) (fun h => AW.skip ?_) (fun h => AW.exit (x_then (x_then (blockA_exit ?_))))
    · rw [decide_eq_true_eq] at h
      obtain ⟨x, he⟩ : ∃ e, l[i]? = some e := ⟨_, List.getElem?_eq_getElem h⟩
      have hix := hin h1 i x he
      have hget := hadL_get (l := l.take i) hix
      obtain ⟨_, _, _, hx3, hx4⟩ := opAt_some hix
      refine AW.seq (AW.block ?_)
      refine AW.st teOk [] (by simp [he, -Option.some.injEq] <;> rfl) ?_ ?_
      · omega
      refine AW.seq ?_
      refine AW.st teOk [] (by simp [hget, -Option.some.injEq] <;> rfl) ?_ ?_
      · omega
      refine AW.iff ((l.take i).contains x) (by simp) (fun g => ?_) (fun g => AW.skip ?_)
      · refine AW.st teOk [] (by simp [-Option.some.injEq] <;> rfl) trivial ?_
        refine AW.ret ⟨.inr rfl, _, Weak.refl _, ?_⟩
        have hb : dupS l = true := upTo_hit (f := fun b x => b.contains x) he g
        simp [chkS, h1, hb]
      · refine AW.text teOk (ans := []) (by simp [hget, -Option.some.injEq] <;> rfl) ?_ ?_
        · omega
        refine AW.text teOk (ans := []) (by simp [-Option.some.injEq] <;> rfl) ?_ ?_
        · trivial
        refine ⟨_, _, Weak.normT hA [1, 2, 5, 38, 39, 40] [(5, 0)] [] 1 _ (by simp) (by simp) (by simp; exact hadL_set hix ▸ flat_hadL _ _), ?_, i + 1, rfl, h, ?_, ?_⟩
        · omega
        · rw [upTo_s he, hno, g]; rfl
        · have ht : l.take (i + 1) = l.take i ++ [x] := by rw [List.take_add_one, he]; rfl
          rw [ht, ← hadL_set hix]
          simp
          exact wrap_s i (by omega)
    · rw [decide_eq_false_iff_not] at h
      have : i = l.length := by omega
      subst this
      rw [List.take_length]
      exact ⟨_, Weak.normT hA [1, 2, 5] [(5, 0)] [] 1 _ (by simp) (by simp) (by simp), hno, by simp⟩
  rintro s ⟨h2, rfl⟩
  refine AW.mid (fun s => misS ops l = false ∧ s = ⟨[(1, .c (encis l)), (2, .c (.fad (encHi ops)))], [], 0⟩) ?_ ?_
  · refine AW.st teOk [] (by simp [-Option.some.injEq] <;> rfl) trivial ?_
    refine AW.block (AW.loop (fun m s => ∃ i : Nat, m = ops.length - i ∧ i ≤ ops.length ∧ upTo (fun b o => reqB o && !l.contains (b.length : Int)) ops i = false ∧ s = ⟨[(1, .c (encis l)), (2, .c (.fad (encHi ops))), (5, .c (.ref 0 0 ops.length)), (53, .c (encOps ops)), (54, .c (cI ops.length)), (55, .c (cI i))], [(0, ⟨1, hadL ops.length l⟩)], 1⟩) _ (Weak.normT hA [1, 2, 5, 53, 54, 55] [(5, 0)] [] 1 _ (by simp) (by simp) (by simp)) ⟨0, rfl, Nat.zero_le _, rfl, by simp⟩ ?_)
    rintro m s ⟨i, rfl, hi, hno, rfl⟩
    refine AW.st teOk [] (by simp [-Option.some.injEq] <;> rfl) trivial ?_
    refine AW.seq ?_
    refine AW.iff (decide (i < ops.length)) (by simp) (fun h => AW.skip ?_) (fun h => AW.exit (x_then (x_then (blockA_exit ?_))))
    · rw [decide_eq_true_eq] at h
      obtain ⟨o, he⟩ : ∃ e, ops[i]? = some e := ⟨_, List.getElem?_eq_getElem h⟩
      have hix : inR ops.length (i : Int) = true := by simp [inR]; omega
      have hget := hadL_get (l := l) hix
      rw [Int.toNat_natCast] at hget
      have hbl : (ops.take i).length = i := by rw [List.length_take]; omega
      refine AW.seq (AW.block ?_)
      refine AW.st teOk [] (by simp [he, -Option.some.injEq] <;> rfl) ?_ ?_
      · omega
      cases hr : reqB o with
      | false =>
        refine AW.st teOk [.fz (.c (cB false))] (by simp [-Option.some.injEq] <;> rfl) ?_ ?_
        · exact (by have := req_pure o; rw [hr] at this; exact this)
        refine AW.iff false (by simp) (fun h => by cases h) (fun _ => AW.skip ?_)
        refine AW.text teOk (ans := []) (by simp [-Option.some.injEq] <;> rfl) ?_ ?_
        · trivial
        refine ⟨_, _, Weak.normT hA [1, 2, 5, 53, 54, 55] [(5, 0)] [] 1 _ (by simp) (by simp) (by simp), ?_, i + 1, rfl, h, ?_, ?_⟩
        · omega
        · rw [upTo_s he, hno, hr]; rfl
        · simp
          exact wrap_s i (by omega)
      | true =>
        refine AW.st teOk [.fz (.c (cB true))] (by simp [hget, -Option.some.injEq] <;> rfl) ?_ ?_
        · have := req_pure o
          rw [hr] at this
          first | exact this | exact ⟨this, by omega⟩
        refine AW.iff (!l.contains (i : Int)) (by simp) (fun g => ?_) (fun g => AW.skip ?_)
        · refine AW.st teOk [] (by simp [-Option.some.injEq] <;> rfl) trivial ?_
          refine AW.ret ⟨.inr rfl, _, Weak.refl _, ?_⟩
          have hb : misS ops l = true := upTo_hit (f := fun b o => reqB o && !l.contains (b.length : Int)) he (by rw [hr, hbl, g]; rfl)
          simp [chkS, h1, h2, hb]
        · refine AW.text teOk (ans := []) (by simp [-Option.some.injEq] <;> rfl) ?_ ?_
          · trivial
          refine ⟨_, _, Weak.normT hA [1, 2, 5, 53, 54, 55] [(5, 0)] [] 1 _ (by simp) (by simp) (by simp), ?_, i + 1, rfl, h, ?_, ?_⟩
          · omega
          · rw [upTo_s he, hno, hbl, g]; simp
          · simp
            exact wrap_s i (by omega)
    · rw [decide_eq_false_iff_not] at h
      have : i = ops.length := by omega
      subst this
      exact ⟨_, Weak.normT hA [1, 2] [] [] 0 _ (by simp) (by simp) (by simp), hno, by simp⟩
  rintro s ⟨h3, rfl⟩
  refine AW.mid (fun s => penS ops l = false ∧ s = ⟨[(1, .c (encis l)), (2, .c (.fad (encHi ops)))], [], 0⟩) ?_ ?_
  · refine AW.st teOk [] (by simp [-Option.some.injEq] <;> rfl) trivial ?_
    refine AW.block (AW.loop (fun m s => ∃ i : Nat, m = l.length - i ∧ i ≤ l.length ∧ upTo (fun _ x => match opAt ops x with
      | some o => penB o
      | none => false) l i = false ∧ s = ⟨[(1, .c (encis l)), (2, .c (.fad (encHi ops))), (70, .c (encis l)), (71, .c (cI l.length)), (72, .c (cI i))], [], 0⟩) _ (Weak.normT hA [1, 2, 70, 71, 72] [] [] 0 _ (by simp) (by simp) (by simp)) ⟨0, rfl, Nat.zero_le _, rfl, by simp⟩ ?_)
    rintro m s ⟨i, rfl, hi, hno, rfl⟩
    refine AW.st teOk [] (by simp [-Option.some.injEq] <;> rfl) trivial ?_
    refine AW.seq ?_
    refine AW.iff (decide (i < l.length)) (by simp) (fun h => AW.skip ?_) (fun h => AW.exit (x_then (x_then (blockA_exit ?_))))
    · rw [decide_eq_true_eq] at h
      obtain ⟨x, he⟩ : ∃ e, l[i]? = some e := ⟨_, List.getElem?_eq_getElem h⟩
      obtain ⟨o, ho, hx2, hx3, hx4⟩ := opAt_some (hin h1 i x he)
      refine AW.seq (AW.block ?_)
      refine AW.st teOk [] (by simp [he, -Option.some.injEq] <;> rfl) ?_ ?_
      · omega
      refine AW.st teOk [] (by simp [hx2, -Option.some.injEq] <;> rfl) ?_ ?_
      · exact ⟨hx3, hx4⟩
      cases hk : o.kind != 1 with
      | false =>
        refine AW.st teOk [] (by simp [hk, -Option.some.injEq] <;> rfl) trivial ?_
        refine AW.iff false (by simp) (fun h => by cases h) (fun _ => AW.skip ?_)
        refine AW.text teOk (ans := []) (by simp [-Option.some.injEq] <;> rfl) ?_ ?_
        · trivial
        refine ⟨_, _, Weak.normT hA [1, 2, 70, 71, 72] [] [] 0 _ (by simp) (by simp) (by simp), ?_, i + 1, rfl, h, ?_, ?_⟩
        · omega
        · rw [upTo_s he, hno]
          simp [ho, penB, hk]
        · simp
          exact wrap_s i (by omega)
      | true =>
        refine AW.st teOk [] (by simp [hk, -Option.some.injEq] <;> rfl) trivial ?_
        refine AW.iff (o.ret == 0) (by simp) (fun g => ?_) (fun g => AW.skip ?_)
        · refine AW.st teOk [] (by simp [-Option.some.injEq] <;> rfl) trivial ?_
          refine AW.ret ⟨.inr rfl, _, Weak.refl _, ?_⟩
          have hb : penS ops l = true := upTo_hit he (by simp [ho, penB, hk]; simpa using g)
          simp [chkS, h1, h2, h3, hb]
        · refine AW.text teOk (ans := []) (by simp [-Option.some.injEq] <;> rfl) ?_ ?_
          · trivial
          refine ⟨_, _, Weak.normT hA [1, 2, 70, 71, 72] [] [] 0 _ (by simp) (by simp) (by simp), ?_, i + 1, rfl, h, ?_, ?_⟩
          · omega
          · rw [upTo_s he, hno]
            simp [ho, penB, g]
          · simp
            exact wrap_s i (by omega)
    · rw [decide_eq_false_iff_not] at h
      have : i = l.length := by omega
      subst this
      exact ⟨_, Weak.normT hA [1, 2] [] [] 0 _ (by simp) (by simp) (by simp), hno, by simp⟩
  rintro s ⟨h4, rfl⟩
  refine AW.mid (fun s => ordS ops l = false ∧ s = ⟨[], [], 0⟩) ?_ ?_
  · refine AW.st teOk [] (by simp [-Option.some.injEq] <;> rfl) trivial ?_
    refine AW.block (AW.loop (fun m s => ∃ i : Nat, m = l.length - i ∧ i ≤ l.length ∧ upTo (fun b x => anyAt (fun _ y => preS ops x y) b) l i = false ∧ s = ⟨[(1, .c (encis l)), (2, .c (.fad (encHi ops))), (90, .c (encis l)), (91, .c (cI l.length)), (92, .c (cI i))], [], 0⟩) _ (Weak.normT hA [1, 2, 90, 91, 92] [] [] 0 _ (by simp) (by simp) (by simp)) ⟨0, rfl, Nat.zero_le _, rfl, by simp⟩ ?_)
    rintro m s ⟨i, rfl, hi, hno, rfl⟩
    refine AW.st teOk [] (by simp [-Option.some.injEq] <;> rfl) trivial ?_
    refine AW.seq ?_
    refine AW.iff (decide (i < l.length)) (by simp) (fun h => AW.skip ?_) (fun h => AW.exit (x_then (x_then (blockA_exit ?_))))
    · rw [decide_eq_true_eq] at h
      obtain ⟨x, he⟩ : ∃ e, l[i]? = some e := ⟨_, List.getElem?_eq_getElem h⟩
      obtain ⟨b, hb⟩ : ∃ b, b = l.take i := ⟨_, rfl⟩
      have hbl : b.length = i := by rw [hb, List.length_take]; omega
      refine AW.seq (AW.block ?_)
      refine AW.st teOk [] (by simp [he, -Option.some.injEq] <;> rfl) ?_ ?_
      · omega
      refine AW.st teOk [] (by simp [-Option.some.injEq] <;> rfl) ?_ ?_
      · first | trivial | omega | (refine ⟨?_, ?_⟩ <;> omega)
      refine AW.block (AW.loop (fun m s => ∃ j : Nat, m = i - j ∧ j ≤ i ∧ upTo (fun _ y => preS ops x y) b j = false ∧ s = ⟨[(1, .c (encis l)), (2, .c (.fad (encHi ops))), (16, .c (cI x)), (90, .c (encis l)), (91, .c (cI l.length)), (92, .c (cI i)), (99, .c (encis b)), (100, .c (cI i)), (101, .c (cI j))], [], 0⟩) _ (Weak.normT hA [1, 2, 16, 90, 91, 92, 99, 100, 101] [] [] 0 _ (by simp) (by simp) (by simp)) ⟨0, rfl, Nat.zero_le _, rfl, by simp [hb, hbl]; omega⟩ ?_)
      rintro m s ⟨j, rfl, hj, hnj, rfl⟩
      refine AW.st teOk [] (by simp [-Option.some.injEq] <;> rfl) trivial ?_
      refine AW.seq ?_
      refine AW.iff (decide (j < i)) (by simp) (fun g => AW.skip ?_) (fun g => AW.exit (x_then (x_then (blockA_exit ?_))))
      · rw [decide_eq_true_eq] at g
        obtain ⟨y, hy⟩ : ∃ e, b[j]? = some e := ⟨_, List.getElem?_eq_getElem (by omega)⟩
        refine AW.seq (AW.block ?_)
        refine AW.st teOk [] (by simp [hy, -Option.some.injEq] <;> rfl) ?_ ?_
        · omega
        refine AW.st teOk [.fz (.c (cB (preS ops x y)))] (by simp [-Option.some.injEq] <;> rfl) ?_ ?_
        · exact prec_pure ops x y
        refine AW.iff (preS ops x y) (by simp) (fun gg => ?_) (fun gg => AW.skip ?_)
        · refine AW.st teOk [] (by simp [-Option.some.injEq] <;> rfl) trivial ?_
          refine AW.ret ⟨.inr rfl, _, Weak.refl _, ?_⟩
          have hbad : ordS ops l = true := upTo_hit (f := fun b x => anyAt (fun _ y => preS ops x y) b) he (by rw [← hb]; exact upTo_hit (f := fun _ y => preS ops x y) hy gg)
          simp [chkS, h1, h2, h3, h4, hbad]
        · refine AW.text teOk (ans := []) (by simp [-Option.some.injEq] <;> rfl) ?_ ?_
          · trivial
          refine ⟨_, _, Weak.normT hA [1, 2, 16, 90, 91, 92, 99, 100, 101] [] [] 0 _ (by simp) (by simp) (by simp), ?_, j + 1, rfl, g, ?_, ?_⟩
          · omega
          · rw [upTo_s hy, hnj, gg]; rfl
          · simp
            exact wrap_s j (by omega)
      · rw [decide_eq_false_iff_not] at g
        have hji : j = b.length := by omega
        rw [hji, upTo_all] at hnj
        refine AW.text teOk (ans := []) (by simp [-Option.some.injEq] <;> rfl) ?_ ?_
        · trivial
        refine ⟨_, _, Weak.normT hA [1, 2, 90, 91, 92] [] [] 0 _ (by simp) (by simp) (by simp), ?_, i + 1, rfl, h, ?_, ?_⟩
        · omega
        · rw [upTo_s he, hno, ← hb, hnj]; rfl
        · simp
          exact wrap_s i (by omega)
    · rw [decide_eq_false_iff_not] at h
      have : i = l.length := by omega
      subst this
      exact ⟨_, Weak.normT hA [] [] [] 0 _ (by simp) (by simp) (by simp), hno, by simp⟩
  rintro s ⟨h5, rfl⟩
  refine AW.st teOk [] (by simp [-Option.some.injEq] <;> rfl) trivial ?_
  refine AW.ret ⟨.inr rfl, _, Weak.refl _, ?_⟩
  simp [chkS, h1, h2, h3, h4, h5]
end Go.Proofs.YtphlhadgcfndhaaGreat.Abs
end
section
namespace Go.Proofs.YtphlhadgcfndhaaGreat.Abs
open Go Go.RowKit
set_option linter.unusedVariables false
set_option linter.unusedSimpArgs false
set_option maxHeartbeats 4000000
def runS (ops : List OpS) : List HV → List Int → Option (List HV)
  | vs, [] => some vs
  | vs, x :: l => match opAt ops x with
    | some o => if okV vs o = true then runS ops (stepV vs o) l else none
    | none => none
def replayS (ops : List OpS) (l : List Int) : Int := if chkS ops l ≠ 0 then chkS ops l else if (runS ops [] l).isSome = true then 0 else 17
/-- Values that are few. -/
structure VOk (N : Nat) (vs : List HV) : Prop where
  asc : AscH vs
  el : ElOk N vs
  len : vs.length ≤ N
theorem VOk.nil : VOk 0 [] := ⟨List.Pairwise.nil, (fun v h => by cases h), Nat.le_refl _⟩
theorem VOk.le {N M : Nat} {vs : List HV} (h : VOk N vs) (hNM : N ≤ M) : VOk M vs := ⟨h.asc, fun v hv => ⟨(h.el v hv).1, by have := (h.el v hv).2; omega⟩, by have := h.len; omega⟩
theorem VOk.step {N : Nat} {vs : List HV} (h : VOk N vs) (o : OpS) : VOk (N + o.ef.length) (stepV vs o) := by
  unfold stepV
  split
  · obtain ⟨g1, g2, g3⟩ := fold_ok o.ef h.asc h.el
    exact ⟨g1, g2, by have := h.len; omega⟩
  · exact h.le (by omega)
/-- Operations with few effects. -/
def EfOk (ops : List OpS) : Prop := ∀ o ∈ ops, o.ef.length ≤ 10
theorem stepK_pure {N : Nat} {vs : List HV} (h : VOk N vs) (hN : N < 90000) {o : OpS} (ho : o.ef.length ≤ 10) : Pure Tryz.prog 24 [.c (encHs vs), .agg (encOp o)] (.tup [.c (encHs (stepV vs o)), .c (cB (okV vs o))]) :=
  step_pure vs o h.asc (fun v hv => ⟨(h.el v hv).1, by have := (h.el v hv).2; omega⟩) (by have := h.len; omega) (by omega)
theorem chk_rng {ops : List OpS} {l : List Int} (h : chkS ops l = 0) : ∀ x ∈ l, inR ops.length x = true := fun x hx => by
  obtain ⟨i, hi⟩ := List.mem_iff_getElem?.1 hx
  cases hq : inR ops.length x with
  | true => rfl
  | false =>
    have : rngS ops.length l = true := upTo_hit (f := fun _ x => !inR ops.length x) hi (by simp [hq])
    rw [chkS, if_pos this] at h
    cases h
theorem replay_pure (ops : List OpS) (l : List Int) (hn : ops.length < 1000000) (hl : l.length < 1000) (hE : EfOk ops) : Pure Tryz.prog 11 [.agg (encHi ops), .c (encis l)] (.c (cI (replayS ops l))) := by
  refine pure_of teOk Tryz.func11 (by kernel_rfl) (c := _) rfl (N := 37) rfl (rs := [Go.ResultVar.tmp 4]) rfl (by simp) fun base A w0 hA => ?_
  refine AW.st teOk [] (by simp [-Option.some.injEq] <;> rfl) trivial ?_
  refine AW.seq ?_
  refine AW.st teOk [.fz (.c (cI (chkS ops l)))] (by simp [-Option.some.injEq] <;> rfl) ?_ ?_
  · exact check_pure ops l hn (by omega)
  refine AW.st teOk [] (by simp [-Option.some.injEq] <;> rfl) trivial ?_
  refine AW.iff (chkS ops l != 0) (by simp) (fun g => ?_) (fun g => AW.skip ?_)
  · refine AW.st teOk [] (by simp [-Option.some.injEq] <;> rfl) trivial ?_
    refine AW.ret ⟨.inr rfl, _, Weak.refl _, ?_⟩
    have g : chkS ops l ≠ 0 := by simpa using g
    simp [replayS, g]
  have hc : chkS ops l = 0 := by simpa using g
  have hin := chk_rng hc
  have hrs : replayS ops l = if (runS ops [] l).isSome = true then 0 else 17 := by rw [replayS, if_neg (by simp [hc])]
  rw [hrs]
  refine AW.st teOk [] (by simp [-Option.some.injEq] <;> rfl) trivial ?_
  refine AW.seq ?_
  refine AW.weak (Weak.le 6 _ (by simp <;> rfl) (.c (LeC.nil 10))) ?_
  refine AW.st teOk [] (by simp [-Option.some.injEq] <;> rfl) trivial ?_
  refine AW.block (AW.loop (fun m s => ∃ (i : Nat) (vs : List HV), m = l.length - i ∧ i ≤ l.length ∧ VOk (10 * i) vs ∧ runS ops [] l = runS ops vs (l.drop i) ∧ s = ⟨[(2, .c (.ptr 0 0 0)), (6, .c (encHs vs)), (17, .c (encis l)), (18, .c (cI l.length)), (19, .c (cI i))], [(0, ⟨1, [encHi ops]⟩)], 1⟩) _ (Weak.normT hA [2, 6, 17, 18, 19] [(2, 0)] [] 1 _ (by simp) (by simp) (by simp)) ⟨0, [], rfl, Nat.zero_le _, VOk.nil, by simp, by simp⟩ ?_)
  rintro m s ⟨i, vs, rfl, hi, hv, hr, rfl⟩
  refine AW.st teOk [] (by simp [-Option.some.injEq] <;> rfl) trivial ?_
  refine AW.seq ?_
  refine AW.iff (decide (i < l.length)) (by simp) (fun h => AW.skip ?_) (fun h => AW.exit (x_then (x_then (blockA_exit ?_))))
  · rw [decide_eq_true_eq] at h
    obtain ⟨x, he⟩ : ∃ e, l[i]? = some e := ⟨_, List.getElem?_eq_getElem h⟩
    obtain ⟨o, ho, hx2, hx3, hx4⟩ := opAt_some (hin x (List.mem_of_getElem? he))
    have hef := hE o (List.mem_of_getElem? hx2)
    have hd : l.drop i = x :: l.drop (i + 1) := by
      rw [List.drop_eq_getElem_cons h]
      congr 1
      rw [List.getElem?_eq_getElem h] at he
      exact Option.some.inj he
    refine AW.seq (AW.block ?_)
    refine AW.st teOk [] (by simp [he, -Option.some.injEq] <;> rfl) ?_ ?_
    · omega
    refine AW.st teOk [.fz (.tup [.c (encHs (stepV vs o)), .c (cB (okV vs o))])] (by simp [hx2, -Option.some.injEq] <;> rfl) ?_ ?_
    · exact ⟨⟨hx3, hx4⟩, stepK_pure hv (by omega) hef⟩
    refine AW.seq ?_
    refine AW.st teOk [] (by simp [-Option.some.injEq] <;> rfl) trivial ?_
    cases hok : okV vs o with
    | false =>
      refine AW.iff true (by simp [hok]) (fun _ => ?_) (fun h => by cases h)
      refine AW.st teOk [] (by simp [-Option.some.injEq] <;> rfl) trivial ?_
      refine AW.ret ⟨.inr rfl, _, Weak.refl _, ?_⟩
      rw [hr, hd, runS, ho]
      simp [hok]
    | true =>
      refine AW.iff false (by simp [hok]) (fun h => by cases h) (fun _ => AW.skip ?_)
      refine AW.text teOk (ans := []) (by simp [-Option.some.injEq] <;> rfl) ?_ ?_
      · trivial
      refine AW.text teOk (ans := []) (by simp [-Option.some.injEq] <;> rfl) ?_ ?_
      · trivial
      refine ⟨_, _, Weak.normT hA [2, 6, 17, 18, 19] [(2, 0)] [] 1 _ (by simp) (by simp) (by simp), ?_, i + 1, stepV vs o, rfl, h, (hv.step o).le (by omega), ?_, ?_⟩
      · omega
      · rw [hr, hd, runS, ho]
        simp [hok]
      · simp
        exact wrap_s i (by omega)
  · rw [decide_eq_false_iff_not] at h
    refine AW.st teOk [] (by simp [-Option.some.injEq] <;> rfl) trivial ?_
    refine AW.ret ⟨.inr rfl, _, Weak.refl _, ?_⟩
    rw [hr, List.drop_eq_nil_of_le (by omega), runS]
    simp
end Go.Proofs.YtphlhadgcfndhaaGreat.Abs
end
