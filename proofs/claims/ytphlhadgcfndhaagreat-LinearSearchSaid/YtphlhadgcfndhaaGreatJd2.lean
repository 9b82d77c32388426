/- Joined for the claim: WNs WNv WNw WNsm WNsv -/
import Derived.Test.YtphlhadgcfndhaaGreatJd1
section
namespace Go.Proofs.YtphlhadgcfndhaaGreat.Abs
open Go Go.RowKit
set_option linter.unusedVariables false
set_option linter.unusedSimpArgs false
set_option maxHeartbeats 4000000
/-! ### the order of strings -/
theorem bL_irr : ∀ x : List UInt8, Op.bytesLess x x = false
  | [] => rfl
  | a :: x => by simp [Op.bytesLess, bL_irr x]
theorem bL_trans : ∀ {x y z : List UInt8}, Op.bytesLess x y = true → Op.bytesLess y z = true → Op.bytesLess x z = true
  | _, [], _, h, _ => by cases ‹List UInt8› <;> simp [Op.bytesLess] at h
  | _, _ :: _, [], _, h => by simp [Op.bytesLess] at h
  | [], _ :: _, _ :: _, _, _ => rfl
  | a :: x, b :: y, c :: z, h, g => by
    simp only [Op.bytesLess, Bool.or_eq_true, decide_eq_true_eq, Bool.and_eq_true, beq_iff_eq] at h g ⊢
    rcases h with h | ⟨rfl, h⟩
    · rcases g with g | ⟨rfl, g⟩
      · exact .inl (UInt8.lt_trans h g)
      · exact .inl h
    · rcases g with g | ⟨rfl, g⟩
      · exact .inl g
      · exact .inr ⟨rfl, bL_trans h g⟩
theorem bL_tri : ∀ {x y : List UInt8}, Op.bytesLess x y = false → Op.bytesLess y x = false → x = y
  | [], [], _, _ => rfl
  | [], _ :: _, h, _ => by simp [Op.bytesLess] at h
  | _ :: _, [], _, h => by simp [Op.bytesLess] at h
  | a :: x, b :: y, h, g => by
    simp only [Op.bytesLess, Bool.or_eq_false_iff, decide_eq_false_iff_not, Bool.and_eq_false_iff, beq_eq_false_iff_ne] at h g
    have hab : a = b := by
      have h1 := UInt8.not_lt.1 h.1
      have h2 := UInt8.not_lt.1 g.1
      exact UInt8.le_antisymm h2 h1
    subst hab
    rcases h.2 with h2 | h2
    · exact absurd rfl h2
    · rcases g.2 with g2 | g2
      · exact absurd rfl g2
      · rw [bL_tri h2 g2]
abbrev Str := ByteArray
def sLt (a b : Str) : Bool := Op.bytesLess a.toList b.toList
theorem str_ext {a b : Str} (h : a.toList = b.toList) : a = b := by
  rw [ByteArray.toList_eq, ByteArray.toList_eq] at h
  cases a; cases b
  congr 1
  exact Array.toList_inj.1 h
theorem str_beq (a b : Str) : (a.toList == b.toList) = decide (a = b) := by
  rw [Bool.eq_iff_iff, beq_iff_eq, decide_eq_true_eq]
  exact ⟨str_ext, fun h => by rw [h]⟩
theorem sLt_irr (a : Str) : sLt a a = false := bL_irr _
theorem sLt_trans {a b c : Str} (h : sLt a b = true) (g : sLt b c = true) : sLt a c = true := bL_trans h g
theorem sLt_tri {a b : Str} (h : sLt a b = false) (g : sLt b a = false) : a = b := str_ext (bL_tri h g)
theorem sLt_asym {a b : Str} (h : sLt a b = true) : sLt b a = false := by
  cases g : sLt b a with
  | false => rfl
  | true => have := sLt_trans h g; rw [sLt_irr] at this; cases this
/-- What cmp.Compare answers. -/
def cmpS (a b : Str) : Int := if sLt a b = true then -1 else if a = b then 0 else 1
theorem cmpS_lt {a b : Str} : cmpS a b < 0 ↔ sLt a b = true := by
  unfold cmpS
  split
  · simp [*]
  · split <;> simp [*, sLt_irr]
theorem cmpS_eq {a b : Str} : cmpS a b = 0 ↔ a = b := by
  unfold cmpS
  split
  · rename_i h
    refine ⟨fun h => absurd h (by decide), fun e => ?_⟩
    subst e
    rw [sLt_irr] at h
    cases h
  · split <;> simp [*]
/-- Object and field. -/
abbrev Ky := Str × Str
def kLt (a b : Ky) : Bool := sLt a.1 b.1 || (decide (a.1 = b.1) && sLt a.2 b.2)
def cmpK (a b : Ky) : Int := if cmpS a.1 b.1 ≠ 0 then cmpS a.1 b.1 else cmpS a.2 b.2
theorem kLt_irr (a : Ky) : kLt a a = false := by simp [kLt, sLt_irr]
theorem kLt_trans {a b c : Ky} (h : kLt a b = true) (g : kLt b c = true) : kLt a c = true := by
  obtain ⟨a1, a2⟩ := a
  obtain ⟨b1, b2⟩ := b
  obtain ⟨c1, c2⟩ := c
  simp only [kLt, Bool.or_eq_true, Bool.and_eq_true, decide_eq_true_eq] at h g ⊢
  rcases h with h | ⟨rfl, h⟩
  · rcases g with g | ⟨rfl, g⟩
    · exact .inl (sLt_trans h g)
    · exact .inl h
  · rcases g with g | ⟨rfl, g⟩
    · exact .inl g
    · exact .inr ⟨rfl, sLt_trans h g⟩
theorem kLt_tri {a b : Ky} (h : kLt a b = false) (g : kLt b a = false) : a = b := by
  obtain ⟨a1, a2⟩ := a
  obtain ⟨b1, b2⟩ := b
  simp only [kLt, Bool.or_eq_false_iff, Bool.and_eq_false_iff, decide_eq_false_iff_not] at h g
  have e1 := sLt_tri h.1 g.1
  subst e1
  rcases h.2 with h2 | h2
  · exact absurd rfl h2
  · rcases g.2 with g2 | g2
    · exact absurd rfl g2
    · rw [sLt_tri h2 g2]
theorem kLt_asym {a b : Ky} (h : kLt a b = true) : kLt b a = false := by
  cases g : kLt b a with
  | false => rfl
  | true => have := kLt_trans h g; rw [kLt_irr] at this; cases this
theorem cmpK_lt {a b : Ky} : cmpK a b < 0 ↔ kLt a b = true := by
  unfold cmpK kLt
  by_cases h : a.1 = b.1
  · rw [if_neg (by rw [ne_eq, cmpS_eq.2 h]; simp), cmpS_lt]
    rw [h]
    simp [sLt_irr]
  · rw [if_pos (fun e => h (cmpS_eq.1 e)), cmpS_lt]
    simp [h]
theorem cmpK_eq {a b : Ky} : cmpK a b = 0 ↔ a = b := by
  obtain ⟨a1, a2⟩ := a
  obtain ⟨b1, b2⟩ := b
  unfold cmpK
  by_cases h : a1 = b1
  · rw [if_neg (by simp only [ne_eq]; rw [cmpS_eq.2 h]; simp)]
    simp only [cmpS_eq, Prod.mk.injEq, h, true_and]
  · rw [if_pos (fun e => h (cmpS_eq.1 e))]
    simp only [cmpS_eq, Prod.mk.injEq, h, false_and]
/-! ### a place in a list -/
section
variable {α : Type}
/-- Those that come before stand in front. -/
def Mono (p : α → Bool) (l : List α) : Prop := ∀ (i j : Nat) (a b : α), i < j → l[i]? = some a → l[j]? = some b → p b = true → p a = true
theorem cnt_split {p : α → Bool} {l : List α} (hv : Mono p l) {i : Nat} {e : α} (he : l[i]? = some e) : (p e = true → i + 1 ≤ l.countP p) ∧ (p e = false → l.countP p ≤ i) := by
  obtain ⟨hlt, rfl⟩ := List.getElem?_eq_some_iff.1 he
  have hsplit : l.countP p = (l.take i).countP p + (l.drop i).countP p := by
    rw [← List.countP_append, List.take_append_drop]
  refine ⟨fun h => ?_, fun h => ?_⟩
  · have h1 : (l.take i).countP p = i := by
      rw [List.countP_eq_length.2, List.length_take]
      · omega
      · intro x hx
        obtain ⟨q, hq, rfl⟩ := List.getElem_of_mem hx
        rw [List.length_take] at hq
        rw [List.getElem_take]
        exact hv q i _ _ (by omega) (List.getElem?_eq_getElem (by omega)) (List.getElem?_eq_getElem hlt) h
    rw [List.drop_eq_getElem_cons hlt, List.countP_cons_of_pos h] at hsplit
    omega
  · have h1 : (l.drop i).countP p = 0 := by
      rw [List.countP_eq_zero]
      intro x hx
      obtain ⟨q, hq, rfl⟩ := List.getElem_of_mem hx
      rw [List.length_drop] at hq
      rw [List.getElem_drop]
      intro hp
      by_cases h0 : q = 0
      · subst h0; simp only [Nat.add_zero] at hp; rw [h] at hp; cases hp
      · have := hv i (i + q) _ _ (by omega) (List.getElem?_eq_getElem hlt) (List.getElem?_eq_getElem (by omega)) hp
        rw [h] at this
        cases this
    have h2 : (l.take i).countP p ≤ i := by
      have := List.countP_le_length (p := p) (l := l.take i)
      rw [List.length_take] at this
      omega
    omega
end
def AscS (l : List Str) : Prop := l.Pairwise fun x y => sLt x y = true
def posS (l : List Str) (s : Str) : Nat := l.countP fun x => sLt x s
def hasS (l : List Str) (s : Str) : Bool := l[posS l s]?.any fun x => decide (x = s)
theorem monoS {l : List Str} (h : AscS l) (s : Str) : Mono (fun x => sLt x s) l := fun i j a b hij ha hb hp => by
  obtain ⟨h1, rfl⟩ := List.getElem?_eq_some_iff.1 ha
  obtain ⟨h2, rfl⟩ := List.getElem?_eq_some_iff.1 hb
  exact sLt_trans (List.pairwise_iff_getElem.1 h i j h1 h2 hij) hp
theorem mid_w (i j n : Nat) (h : i ≤ n) (h2 : j ≤ n) (hn : n < 1000000000000) : IntKind.i64.wrap ((IntKind.u64.wrap (IntKind.i64.wrap ((i : Int) + j))).fdiv (2 ^ min 1 IntKind.u64.bits)) = ((i + j) / 2 : Nat) := by
  have e1 : IntKind.i64.wrap ((i : Int) + j) = (i : Int) + j := by rw [IntKind.wrap_i64]; omega
  have e2 : IntKind.u64.wrap ((i : Int) + j) = (i : Int) + j := by rw [IntKind.wrap_u64]; omega
  have e3 : (2 : Int) ^ min 1 IntKind.u64.bits = 2 := rfl
  rw [e1, e2, e3, Int.fdiv_eq_ediv_of_nonneg _ (by omega), IntKind.wrap_i64]
  omega
/-! ### comparing strings -/
@[simp] def encs (s : Str) : List Cell := [cS s]
@[simp] theorem flat_encs (l : List Str) : flatO ⟨1, l.map encs⟩ = true := flatO_of fun e he => by
  obtain ⟨x, _, rfl⟩ := List.mem_map.1 he
  rfl
abbrev encSs (l : List Str) : Cell := .row 1 false (l.map encs)
theorem isNaNs_pure (x : Str) : Pure Tryz.prog 125 [.c (cS x)] (.c (cB false)) := by
  refine pure_of teOk Tryz.func125 (by kernel_rfl) (c := _) rfl (N := 6) rfl (rs := [Go.ResultVar.tmp 2]) rfl (by simp) fun base A w0 hA => ?_
  refine AW.st teOk [] (by simp [-Option.some.injEq] <;> rfl) trivial ?_
  refine AW.st teOk [] (by simp [-Option.some.injEq] <;> rfl) trivial ?_
  refine AW.ret ⟨.inr rfl, _, Weak.refl _, ?_⟩
  simp
theorem sisNaNs_pure (x : Str) : Pure Tryz.prog 114 [.c (cS x)] (.c (cB false)) := by
  refine pure_of teOk Tryz.func114 (by kernel_rfl) (c := _) rfl (N := 6) rfl (rs := [Go.ResultVar.tmp 2]) rfl (by simp) fun base A w0 hA => ?_
  refine AW.st teOk [] (by simp [-Option.some.injEq] <;> rfl) trivial ?_
  refine AW.st teOk [] (by simp [-Option.some.injEq] <;> rfl) trivial ?_
  refine AW.ret ⟨.inr rfl, _, Weak.refl _, ?_⟩
  simp
theorem lessS_pure (x y : Str) : Pure Tryz.prog 113 [.c (cS x), .c (cS y)] (.c (cB (sLt x y))) := by
  refine pure_of teOk Tryz.func113 (by kernel_rfl) (c := _) rfl (N := 17) rfl (rs := [Go.ResultVar.tmp 4]) rfl (by simp) fun base A w0 hA => ?_
  refine AW.st teOk [] (by simp [-Option.some.injEq] <;> rfl) trivial ?_
  refine AW.st teOk [.fz (.c (cB false))] (by simp [-Option.some.injEq] <;> rfl) ?_ ?_
  · exact isNaNs_pure x
  refine AW.ret ⟨.inr rfl, _, Weak.refl _, ?_⟩
  simp [sLt]
theorem cmpS_pure (x y : Str) : Pure Tryz.prog 110 [.c (cS x), .c (cS y)] (.c (cI (cmpS x y))) := by
  refine pure_of teOk Tryz.func110 (by kernel_rfl) (c := _) rfl (N := 20) rfl (rs := [Go.ResultVar.tmp 4]) rfl (by simp) fun base A w0 hA => ?_
  refine AW.st teOk [] (by simp [-Option.some.injEq] <;> rfl) trivial ?_
  refine AW.st teOk [.fz (.c (cB false))] (by simp [-Option.some.injEq] <;> rfl) ?_ ?_
  · exact isNaNs_pure x
  refine AW.st teOk [.fz (.c (cB false))] (by simp [-Option.some.injEq] <;> rfl) ?_ ?_
  · exact isNaNs_pure y
  refine AW.seq ?_
  refine AW.st teOk [] (by simp [-Option.some.injEq] <;> rfl) trivial ?_
  refine AW.iff false (by simp) (fun h => by cases h) (fun _ => AW.skip ?_)
  refine AW.seq ?_
  refine AW.st teOk [] (by simp [-Option.some.injEq] <;> rfl) trivial ?_
  refine AW.iff false (by simp) (fun h => by cases h) (fun _ => AW.skip ?_)
  refine AW.seq ?_
  refine AW.st teOk [] (by simp [-Option.some.injEq] <;> rfl) trivial ?_
  refine AW.iff (sLt x y) (by simp [sLt]) (fun h => ?_) (fun h => AW.skip ?_)
  · refine AW.st teOk [] (by simp [-Option.some.injEq] <;> rfl) trivial ?_
    refine AW.ret ⟨.inr rfl, _, Weak.refl _, ?_⟩
    simp [cmpS, h]
  refine AW.seq ?_
  have h' : Op.bytesLess x.toList y.toList = false := h
  refine AW.st teOk [] (by simp [h', str_beq, -Option.some.injEq] <;> rfl) trivial ?_
  refine AW.iff (!decide (x = y)) (by simp) (fun g => ?_) (fun g => AW.skip ?_)
  · refine AW.st teOk [] (by simp [-Option.some.injEq] <;> rfl) trivial ?_
    refine AW.ret ⟨.inr rfl, _, Weak.refl _, ?_⟩
    simp only [Bool.not_eq_true', decide_eq_false_iff_not] at g
    simp [cmpS, h, g]
  refine AW.st teOk [] (by simp [-Option.some.injEq] <;> rfl) trivial ?_
  refine AW.ret ⟨.inr rfl, _, Weak.refl _, ?_⟩
  simp only [Bool.not_eq_false', decide_eq_true_eq] at g
  simp [cmpS, g, sLt_irr]
theorem bsS_pure (t : Bool) (v : List Str) (a : Str) (hv : AscS v) (hl : v.length < 1000000000000) : Pure Tryz.prog 86 [.c (.row 1 t (v.map encs)), .c (cS a)] (.tup [.c (cI (posS v a)), .c (cB (hasS v a))]) := by
  refine pure_of teOk Tryz.func86 (by kernel_rfl) (c := _) rfl (N := 54) rfl (rs := [Go.ResultVar.tmp 4, Go.ResultVar.tmp 5]) rfl (by simp) fun base A w0 hA => ?_
  refine AW.st teOk [] (by simp [-Option.some.injEq] <;> rfl) trivial ?_
  refine AW.st teOk [] (by simp [-Option.some.injEq] <;> rfl) trivial ?_
  refine AW.st teOk [] (by simp [-Option.some.injEq] <;> rfl) trivial ?_
  refine AW.seq (AW.block (AW.loop (fun m s => ∃ i j : Nat, m = j - i ∧ i ≤ posS v a ∧ posS v a ≤ j ∧ j ≤ v.length ∧ s = ⟨[(0, .c (.row 1 t (v.map encs))), (1, .c (cS a)), (6, .c (cI v.length)), (7, .c (cI i)), (8, .c (cI j))], [], 0⟩) _ (Weak.normT hA [0, 1, 6, 7, 8] [] [] 0 _ (by simp) (by simp) (by simp)) ⟨0, v.length, rfl, Nat.zero_le _, List.countP_le_length, Nat.le_refl _, by simp⟩ ?_))
  rintro m s ⟨i, j, rfl, hi, hj, hjl, rfl⟩
  refine AW.seq ?_
  refine AW.st teOk [] (by simp [-Option.some.injEq] <;> rfl) trivial ?_
  refine AW.iff (decide (i < j)) (by simp) (fun h => AW.skip ?_) (fun h => AW.exit (x_then (x_then (blockA_exit ?_))))
  · rw [decide_eq_true_eq] at h
    refine AW.block ?_
    obtain ⟨q, hq⟩ : ∃ q, q = (i + j) / 2 := ⟨_, rfl⟩
    have hmid := mid_w i j v.length (by omega) hjl hl
    rw [← hq] at hmid
    refine AW.st teOk [] (by simp [hmid, -Option.some.injEq] <;> rfl) trivial ?_
    have hm : q < v.length := by omega
    obtain ⟨e, he⟩ : ∃ e, v[q]? = some e := ⟨_, List.getElem?_eq_getElem hm⟩
    have hps := cnt_split (monoS hv a) he
    refine AW.st teOk [.fz (.c (cB (sLt e a)))] (by simp [he, -Option.some.injEq] <;> rfl) ?_ ?_
    · exact ⟨by omega, lessS_pure e a⟩
    cases hc : sLt e a with
    | true =>
      refine AW.iff true (by simp [hc]) (fun _ => ?_) (fun h => by cases h)
      refine AW.text teOk (ans := []) (by simp [-Option.some.injEq] <;> rfl) ?_ ?_
      · trivial
      refine ⟨_, _, Weak.normT hA [0, 1, 6, 7, 8] [] [] 0 _ (by simp) (by simp) (by simp), ?_, q + 1, j, rfl, hps.1 hc, hj, hjl, ?_⟩
      · omega
      · simp
        exact wrap_s q (by omega)
    | false =>
      refine AW.iff false (by simp [hc]) (fun h => by cases h) (fun _ => ?_)
      refine AW.text teOk (ans := []) (by simp [-Option.some.injEq] <;> rfl) ?_ ?_
      · trivial
      refine ⟨_, _, Weak.normT hA [0, 1, 6, 7, 8] [] [] 0 _ (by simp) (by simp) (by simp), ?_, i, q, rfl, hi, hps.2 hc, by omega, by simp⟩
      omega
  · rw [decide_eq_false_iff_not] at h
    have hij : i = posS v a := by omega
    subst hij
    have hhas : hasS v a = v[posS v a]?.any fun x => decide (x = a) := rfl
    by_cases hp : posS v a < v.length
    · obtain ⟨e, he⟩ : ∃ e, v[posS v a]? = some e := ⟨_, List.getElem?_eq_getElem hp⟩
      rw [he] at hhas
      have hd : decide (posS v a < v.length) = true := by simpa using hp
      have hq := str_beq e a
      by_cases hea : e = a
      · subst hea
        refine AW.st teOk [] (by simp [he, hd, -Option.some.injEq] <;> rfl) ?_ ?_
        · omega
        refine AW.ret ⟨.inr rfl, _, Weak.refl _, ?_⟩
        simp [hhas]
      · rw [decide_eq_false hea] at hq
        refine AW.st teOk [.fz (.c (cB false))] (by simp [he, hd, hq, -Option.some.injEq] <;> rfl) ?_ ?_
        · exact ⟨by omega, sisNaNs_pure e⟩
        refine AW.ret ⟨.inr rfl, _, Weak.refl _, ?_⟩
        simp [hhas, hea]
    · have hd : decide (posS v a < v.length) = false := by simpa using hp
      refine AW.st teOk [] (by simp [hd, -Option.some.injEq] <;> rfl) trivial ?_
      refine AW.ret ⟨.inr rfl, _, Weak.refl _, ?_⟩
      rw [List.getElem?_eq_none (by omega)] at hhas
      simp [hhas]
end Go.Proofs.YtphlhadgcfndhaaGreat.Abs
end
section
namespace Go.Proofs.YtphlhadgcfndhaaGreat.Abs
open Go Go.RowKit
set_option linter.unusedVariables false
set_option linter.unusedSimpArgs false
set_option maxHeartbeats 4000000
/-- The visible value of a field. -/
structure HV where
  o : Str
  f : Str
  set : Bool
  n : Int
  s : Str
  hm : Bool
  mx : Int
  sum : Int
  el : List Str
  fl : Bool
structure EfS where
  kind : Int
  o : Str
  f : Str
  n : Int
  s : Str
@[simp] abbrev HV.k (v : HV) : Ky := (v.o, v.f)
@[simp] abbrev EfS.k (e : EfS) : Ky := (e.o, e.f)
@[simp] def encE' (e : EfS) : List Cell := [cI e.kind, cS e.o, cS e.f, cI e.n, cS e.s]
/-- A value, its elements' cell told apart. -/
@[simp] def encX (x : HV × Cell) : List Cell := [cS x.1.o, cS x.1.f, cB x.1.set, cI x.1.n, cS x.1.s, cB x.1.hm, cI x.1.mx, cI x.1.sum, x.2, cB x.1.fl]
@[simp] def encH (v : HV) : List Cell := [cS v.o, cS v.f, cB v.set, cI v.n, cS v.s, cB v.hm, cI v.mx, cI v.sum, .row 1 false (v.el.map encs), cB v.fl]
abbrev encHs (l : List HV) : Cell := .row 10 false (l.map encH)
@[simp] theorem flat_encH (l : List HV) : flatO ⟨10, l.map encH⟩ = true := flatO_of fun e he => by
  obtain ⟨x, _, rfl⟩ := List.mem_map.1 he
  rfl
def AscH (l : List HV) : Prop := l.Pairwise fun x y => kLt x.k y.k = true
def posH (l : List HV) (k : Ky) : Nat := l.countP fun x => kLt x.k k
def hasH (l : List HV) (k : Ky) : Bool := l[posH l k]?.any fun x => decide (x.k = k)
theorem monoH {l : List HV} (h : AscH l) (s : Ky) : Mono (fun x : HV => kLt x.k s) l := fun i j a b hij ha hb hp => by
  obtain ⟨h1, rfl⟩ := List.getElem?_eq_some_iff.1 ha
  obtain ⟨h2, rfl⟩ := List.getElem?_eq_some_iff.1 hb
  exact kLt_trans (List.pairwise_iff_getElem.1 h i j h1 h2 hij) hp
def orL : List Int → Int
  | [] => 0
  | x :: l => if x ≠ 0 then x else orL l
theorem or_pure (t : Bool) (l : List Int) (hl : l.length < 1000000000000) : Pure Tryz.prog 105 [.c (.row 1 t (l.map fun n => [cI n]))] (.c (cI (orL l))) := by
  refine pure_of teOk Tryz.func105 (by kernel_rfl) (c := _) rfl (N := 18) rfl (rs := [Go.ResultVar.tmp 2]) rfl (by simp) fun base A w0 hA => ?_
  refine AW.st teOk [] (by simp [-Option.some.injEq] <;> rfl) trivial ?_
  refine AW.st teOk [] (by simp [-Option.some.injEq] <;> rfl) trivial ?_
  refine AW.seq ?_
  refine AW.st teOk [] (by simp [-Option.some.injEq] <;> rfl) trivial ?_
  refine AW.block (AW.loop (fun m s => ∃ i : Nat, m = l.length - i ∧ i ≤ l.length ∧ orL l = orL (l.drop i) ∧ s = ⟨[(3, .c (cI 0)), (6, .c (.row 1 t (l.map fun n => [cI n]))), (7, .c (cI l.length)), (8, .c (cI i))], [], 0⟩) _ (Weak.normT hA [3, 6, 7, 8] [] [] 0 _ (by simp) (by simp) (by simp)) ⟨0, rfl, Nat.zero_le _, rfl, by simp⟩ ?_)
  rintro m s ⟨i, rfl, hi, hor, rfl⟩
  refine AW.st teOk [] (by simp [-Option.some.injEq] <;> rfl) trivial ?_
  refine AW.seq ?_
  refine AW.iff (decide (i < l.length)) (by simp) (fun h => AW.skip ?_) (fun h => AW.exit (x_then (x_then (blockA_exit ?_))))
  · rw [decide_eq_true_eq] at h
    obtain ⟨e, he⟩ : ∃ e, l[i]? = some e := ⟨_, List.getElem?_eq_getElem h⟩
    refine AW.seq (AW.block ?_)
    refine AW.st teOk [] (by simp [he, -Option.some.injEq] <;> rfl) ?_ ?_
    · omega
    refine AW.st teOk [] (by simp [-Option.some.injEq] <;> rfl) trivial ?_
    refine AW.iff (e != 0) (by simp) (fun g => ?_) (fun g => AW.skip ?_)
    · refine AW.st teOk [] (by simp [-Option.some.injEq] <;> rfl) trivial ?_
      refine AW.ret ⟨.inr rfl, _, Weak.refl _, ?_⟩
      rw [hor, List.drop_eq_getElem_cons h, orL]
      have : l[i] = e := by rw [List.getElem?_eq_getElem h] at he; cases he; rfl
      rw [this, if_pos (by simpa using g)]
      simp
    · refine AW.text teOk (ans := []) (by simp [-Option.some.injEq] <;> rfl) ?_ ?_
      · trivial
      refine ⟨_, _, Weak.normT hA [3, 6, 7, 8] [] [] 0 _ (by simp) (by simp) (by simp), ?_, i + 1, rfl, h, ?_, ?_⟩
      · omega
      · rw [hor, List.drop_eq_getElem_cons h, orL]
        have : l[i] = e := by rw [List.getElem?_eq_getElem h] at he; cases he; rfl
        rw [this, if_neg (by simpa using g)]
      · simp
        exact wrap_s i (by omega)
  · rw [decide_eq_false_iff_not] at h
    refine AW.st teOk [] (by simp [-Option.some.injEq] <;> rfl) trivial ?_
    refine AW.ret ⟨.inr rfl, _, Weak.refl _, ?_⟩
    rw [hor, List.drop_eq_nil_of_le (by omega)]
    simp [orL]
abbrev fcV : Cell := .sc (.func (.func 84) #[] #[])
theorem cmpV_pure (x : HV × Cell) (hx : frozenC x.2 = true) (e : EfS) : Pure Tryz.prog 84 [.agg (encX x), .agg (encE' e)] (.c (cI (cmpK x.1.k e.k))) := by
  refine pure_of teOk Tryz.func84 (by kernel_rfl) (c := _) rfl (N := 17) rfl (rs := [Go.ResultVar.tmp 4]) rfl (by simp) fun base A w0 hA => ?_
  refine AW.st teOk [] (by simp [-Option.some.injEq] <;> rfl) trivial ?_
  refine AW.dr mixed teOk [.c (cI (cmpS x.1.o e.o)), .c (cI (cmpS x.1.f e.f)), .c (cI (cmpK x.1.k e.k))] (by simp [-Option.some.injEq] <;> rfl) (by kernel_rfl) (by kernel_rfl) ?_ ?_
  · simp [allP]
    refine ⟨cmpS_pure _ _, cmpS_pure _ _, ?_⟩
    have := or_pure true [cmpS x.1.o e.o, cmpS x.1.f e.f] (by simp)
    simp only [List.map_cons, List.map_nil, orL] at this
    unfold cmpK
    simp only [HV.k, EfS.k]
    by_cases h : cmpS x.1.o e.o = 0
    · by_cases h2 : cmpS x.1.f e.f = 0
      · simpa [h, h2] using this
      · simpa [h, h2] using this
    · simpa [h] using this
  refine AW.ret ⟨.inr rfl, _, Weak.refl _, ?_⟩
  simp
theorem bsH_pure (t : Bool) (v : List (HV × Cell)) (hx : ∀ x ∈ v, frozenC x.2 = true) (a : EfS) (hv : AscH (v.map Prod.fst)) (hl : v.length < 1000000000000) : Pure Tryz.prog 83 [.c (.row 10 t (v.map encX)), .agg (encE' a), .c fcV] (.tup [.c (cI (posH (v.map Prod.fst) a.k)), .c (cB (hasH (v.map Prod.fst) a.k))]) := by
  obtain ⟨p, hp⟩ : ∃ p, p = posH (v.map Prod.fst) a.k := ⟨_, rfl⟩
  have hpl : p ≤ v.length := by rw [hp]; exact Nat.le_trans List.countP_le_length (by rw [List.length_map]; exact Nat.le_refl _)
  have hsp : ∀ {i : Nat} {e : HV × Cell}, v[i]? = some e → (kLt e.1.k a.k = true → i + 1 ≤ p) ∧ (kLt e.1.k a.k = false → p ≤ i) := fun {i e} he => by
    rw [hp]
    exact cnt_split (monoH hv a.k) (by rw [List.getElem?_map, he]; rfl)
  have hfz : ∀ {i : Nat} {e : HV × Cell}, v[i]? = some e → frozenC e.2 = true := fun he => hx _ (List.mem_of_getElem? he)
  refine pure_of teOk Tryz.func83 (by kernel_rfl) (c := _) rfl (N := 49) rfl (rs := [Go.ResultVar.tmp 6, Go.ResultVar.tmp 7]) rfl (by simp) fun base A w0 hA => ?_
  refine AW.st teOk [] (by simp [-Option.some.injEq] <;> rfl) trivial ?_
  refine AW.st teOk [] (by simp [-Option.some.injEq] <;> rfl) trivial ?_
  refine AW.st teOk [] (by simp [-Option.some.injEq] <;> rfl) trivial ?_
  refine AW.seq (AW.block (AW.loop (fun m s => ∃ i j : Nat, m = j - i ∧ i ≤ p ∧ p ≤ j ∧ j ≤ v.length ∧ s = ⟨[(0, .c (.row 10 t (v.map encX))), (2, .c fcV), (4, .c (.ptr 0 0 0)), (8, .c (cI v.length)), (9, .c (cI i)), (10, .c (cI j))], [(0, ⟨5, [encE' a]⟩)], 1⟩) _ (Weak.normT hA [0, 2, 4, 8, 9, 10] [(4, 0)] [] 1 _ (by simp) (by simp) (by simp)) ⟨0, v.length, rfl, Nat.zero_le _, hpl, Nat.le_refl _, by simp⟩ ?_))
  rintro m s ⟨i, j, rfl, hi, hj, hjl, rfl⟩
  refine AW.seq ?_
  refine AW.st teOk [] (by simp [-Option.some.injEq] <;> rfl) trivial ?_
  refine AW.iff (decide (i < j)) (by simp) (fun h => AW.skip ?_) (fun h => AW.exit (x_then (x_then (blockA_exit ?_))))
  · rw [decide_eq_true_eq] at h
    refine AW.block ?_
    obtain ⟨q, hq⟩ : ∃ q, q = (i + j) / 2 := ⟨_, rfl⟩
    have hmid := mid_w i j v.length (by omega) hjl hl
    rw [← hq] at hmid
    refine AW.st teOk [] (by simp [hmid, -Option.some.injEq] <;> rfl) trivial ?_
    have hm : q < v.length := by omega
    obtain ⟨e, he⟩ : ∃ e, v[q]? = some e := ⟨_, List.getElem?_eq_getElem hm⟩
    have hps := hsp he
    have hfe := hfz he
    unfold frozenC at hfe
    have hlt := cmpK_lt (a := e.1.k) (b := a.k)
    refine AW.dr mixed teOk [.c (cI (cmpK e.1.k a.k))] (by simp [he, hfe, -Option.some.injEq] <;> rfl) (by kernel_rfl) (by kernel_rfl) ?_ ?_
    · simp [allP]
      exact ⟨by omega, cmpV_pure e (hfz he) a⟩
    cases hc : kLt e.1.k a.k with
    | true =>
      have hc2 := hlt.2 hc
      refine AW.iff true (by simp at hc2; simp [hc2]) (fun _ => ?_) (fun h => by cases h)
      refine AW.text teOk (ans := []) (by simp [-Option.some.injEq] <;> rfl) ?_ ?_
      · trivial
      refine ⟨_, _, Weak.normT hA [0, 2, 4, 8, 9, 10] [(4, 0)] [] 1 _ (by simp) (by simp) (by simp), ?_, q + 1, j, rfl, hps.1 hc, hj, hjl, ?_⟩
      · omega
      · simp
        exact wrap_s q (by omega)
    | false =>
      have hc2 : ¬ cmpK e.1.k a.k < 0 := fun h => by rw [hlt.1 h] at hc; cases hc
      refine AW.iff false (by simp at hc2; simp [hc2]) (fun h => by cases h) (fun _ => ?_)
      refine AW.text teOk (ans := []) (by simp [-Option.some.injEq] <;> rfl) ?_ ?_
      · trivial
      refine ⟨_, _, Weak.normT hA [0, 2, 4, 8, 9, 10] [(4, 0)] [] 1 _ (by simp) (by simp) (by simp), ?_, i, q, rfl, hi, hps.2 hc, by omega, by simp⟩
      omega
  · rw [decide_eq_false_iff_not] at h
    have hij : i = p := by omega
    subst hij
    have hhas : hasH (v.map Prod.fst) a.k = (v[i]?).any fun x => decide (x.1.k = a.k) := by
      rw [hasH, ← hp, List.getElem?_map]
      cases v[i]? <;> rfl
    rw [← hp]
    by_cases hpv : i < v.length
    · obtain ⟨e, he⟩ : ∃ e, v[i]? = some e := ⟨_, List.getElem?_eq_getElem hpv⟩
      rw [he] at hhas
      have hfe := hfz he
      unfold frozenC at hfe
      have hd : decide (i < v.length) = true := by simpa using hpv
      refine AW.dr mixed teOk [.c (cI (cmpK e.1.k a.k))] (by simp [he, hd, hfe, -Option.some.injEq] <;> rfl) (by kernel_rfl) (by kernel_rfl) ?_ ?_
      · simp [allP]
        exact ⟨hpv, cmpV_pure e (hfz he) a⟩
      refine AW.ret ⟨.inr rfl, _, Weak.refl _, ?_⟩
      have hfin : hasH (v.map Prod.fst) a.k = (cmpK (e.1.o, e.1.f) (a.o, a.f) == 0) := by
        have h1 : hasH (v.map Prod.fst) a.k = decide ((e.1.o, e.1.f) = (a.o, a.f)) := hhas
        rw [h1, Bool.eq_iff_iff, decide_eq_true_eq, beq_iff_eq, cmpK_eq]
      rw [hfin]
      simp
    · have hd : decide (i < v.length) = false := by simpa using hpv
      refine AW.dr mixed teOk [] (by simp [hd, -Option.some.injEq] <;> rfl) (by kernel_rfl) (by kernel_rfl) ?_ ?_
      · simp [allP]
      refine AW.ret ⟨.inr rfl, _, Weak.refl _, ?_⟩
      rw [List.getElem?_eq_none (by omega)] at hhas
      simp [hhas]
end Go.Proofs.YtphlhadgcfndhaaGreat.Abs
end
section
namespace Go.Proofs.YtphlhadgcfndhaaGreat.Abs
open Go Go.RowKit
set_option linter.unusedVariables false
set_option linter.unusedSimpArgs false
set_option maxHeartbeats 4000000
theorem app_emp {P : Program} {base : Nat} {A : Old} {w0 : World} {n : Nat} {T : TyEnv} (hT : TOk P T) {s : St} {β : Nat → Bnd} {a : Act} {w : World} (I : InvS base A w0 n β s a w) {o : Oper} (x y : Operand) (ty el : TypeId) {ti tie : TI} (hop : o.op = .call { callee := .builtin .append, args := #[x, y], argTypes := #[ty, ty] }) (hti : look ty T = some ti) (hd : ti.d = .slice el) (htie : look el T = some tie)
    {k k' : Nat} {t : Bool} (hx : opval s.τ x = .c (.row k true [])) (hy : opval s.τ y = .c (.row k' t [])) : ∃ (_ : Unit) (u : Value), True ∧ (execOp a.eval o).run P w = .ok (.value u) w ∧ RepV w (okOf base A.own w β) β (.c (.row k true [])) u := by
  have h1 := (hT ty ti hti).1
  rw [hd] at h1
  have hrx := opval_rep I x
  rw [hx] at hrx
  have hry := opval_rep I y
  rw [hy] at hry
  obtain ⟨news, hS, _⟩ := src_sound (os := []) (ids := []) (k := tie.size) I.inv hry rfl rfl (es := []) rfl (fun e h => by cases h) ⟨_, h1⟩
  have hrx' := hrx
  generalize hu : a.eval x = u at hrx
  cases hrx with
  | c h => cases h with
    | fz h => cases h with
      | @row _ _ _ ad cap vs g1 g2 g3 g4 g5 g6 =>
        have hc := g2 rfl
        subst hc
        refine ⟨(), a.eval x, trivial, ?_, hrx'⟩
        obtain ⟨dst, op, type, pos, after, guard⟩ := o
        dsimp only at hop
        subst hop
        have := append_nothing (ty := type) (ad := ad) (m := 0) (c := 0) h1 (hT el tie htie) (Nat.le_refl 0) hS
        simp only [List.length_nil] at hu
        simp [execOp, resolve, invoke, builtin, hu, this]
theorem cloneS_new (es : List Str) (hne : es ≠ []) (hb : es.length < 1000000000) : New Tryz.prog 78 [.c (.row 1 false (es.map encs))] (.c (.ref 0 0 es.length)) [(0, ⟨1, es.map encs⟩)] 1 := by
  refine new_of teOk Tryz.func78 (by kernel_rfl) (c := _) rfl (N := 8) rfl (rs := [Go.ResultVar.tmp 2]) rfl (by simp) fun base A w0 hA => ?_
  refine AW.st teOk [] (by simp [-Option.some.injEq] <;> rfl) trivial ?_
  have he : es.isEmpty = false := by cases es with | nil => exact absurd rfl hne | cons a l => rfl
  refine AW.seq ?_
  refine AW.st teOk [] (by simp [he, hne, -Option.some.injEq] <;> rfl) trivial ?_
  refine AW.iff false (by simp) (fun h => by cases h) fun _ => AW.skip ?_
  refine AW.st teOk [] (by simp [he, hne, -Option.some.injEq] <;> rfl) ?_ ?_
  · simp [growOk]
    omega
  refine AW.ret ⟨.inr rfl, _, Weak.normT hA [2] [(2, 0)] [] 1 _ (by simp) (by simp) (by simp), ?_⟩
  simp
theorem cloneS_emp : Pure Tryz.prog 78 [.c (.row 1 false [])] (.c (.row 1 true [])) := by
  refine pure_of teOk Tryz.func78 (by kernel_rfl) (c := _) rfl (N := 8) rfl (rs := [Go.ResultVar.tmp 2]) rfl (by simp) fun base A w0 hA => ?_
  refine AW.st teOk [] (by simp [-Option.some.injEq] <;> rfl) trivial ?_
  refine AW.seq ?_
  refine AW.st teOk [] (by simp [-Option.some.injEq] <;> rfl) trivial ?_
  refine AW.either (by simp) ?_ (AW.skip ?_)
  · refine AW.st teOk [] (by simp [-Option.some.injEq] <;> rfl) trivial ?_
    refine AW.ret ⟨.inr rfl, _, Weak.le 2 _ (by simp <;> rfl) (.c (LeC.nilT 1)), ?_⟩
    simp
  · refine AW.stX teOk (ι := Unit) [] 2 (by simp [-Option.some.injEq] <;> rfl) trivial rfl rfl (d := 7) rfl (by decide) (fun _ => .c (.row 1 true [])) (fun _ => ⟨[(2, .c (.row 1 true [])), (7, .c (.row 1 true [])), (6, .c (.row 1 false [])), (5, .c (.row 1 true [])), (4, .c .bit), (3, .c (.row 1 false [])), (2, .c (.sc (.slice none 0 0))), (0, .c (.row 1 false []))], [], 6⟩) (fun _ => True) (fun β a w I => ?_) (fun c hc => ?_) (fun c hc => ?_)
    · exact app_emp teOk I (.tmp 5) (.tmp 6) 51 9 rfl rfl rfl rfl (by simp <;> rfl) (by simp <;> exact ⟨rfl, rfl⟩)
    · exact ⟨_, _, by simp [-Option.some.injEq] <;> rfl, by trivial⟩
    refine AW.ret ⟨.inr rfl, _, Weak.refl _, ?_⟩
    simp
theorem eqS_pure (t t' : Bool) (l r : List Str) (hl : l.length < 1000000000000) : Pure Tryz.prog 117 [.c (.row 1 t (l.map encs)), .c (.row 1 t' (r.map encs))] (.c (cB (decide (l = r)))) := by
  refine pure_of teOk Tryz.func117 (by kernel_rfl) (c := _) rfl (N := 26) rfl (rs := [Go.ResultVar.tmp 4]) rfl (by simp) fun base A w0 hA => ?_
  refine AW.st teOk [] (by simp [-Option.some.injEq] <;> rfl) trivial ?_
  refine AW.seq ?_
  refine AW.st teOk [] (by simp [-Option.some.injEq] <;> rfl) trivial ?_
  refine AW.iff ((l.length : Int) != (r.length : Int)) (by simp) (fun h => ?_) (fun h => AW.skip ?_)
  · refine AW.st teOk [] (by simp [-Option.some.injEq] <;> rfl) trivial ?_
    refine AW.ret ⟨.inr rfl, _, Weak.refl _, ?_⟩
    have : l ≠ r := fun e => by rw [e] at h; simp at h
    simp [this]
  have hlen : l.length = r.length := by simp at h; omega
  refine AW.seq ?_
  refine AW.st teOk [] (by simp [-Option.some.injEq] <;> rfl) trivial ?_
  refine AW.block (AW.loop (fun m s => ∃ i : Nat, m = l.length - i ∧ i ≤ l.length ∧ l.take i = r.take i ∧ s = ⟨[(0, .c (.row 1 t (l.map encs))), (1, .c (.row 1 t' (r.map encs))), (12, .c (cI l.length)), (13, .c (cI i))], [], 0⟩) _ (Weak.normT hA [0, 1, 12, 13] [] [] 0 _ (by simp) (by simp) (by simp)) ⟨0, rfl, Nat.zero_le _, rfl, by simp⟩ ?_)
  rintro m s ⟨i, rfl, hi, htk, rfl⟩
  refine AW.st teOk [] (by simp [-Option.some.injEq] <;> rfl) trivial ?_
  refine AW.seq ?_
  refine AW.iff (decide (i < l.length)) (by simp) (fun h => AW.skip ?_) (fun h => AW.exit (x_then (x_then (blockA_exit ?_))))
  · rw [decide_eq_true_eq] at h
    obtain ⟨e, he⟩ : ∃ e, l[i]? = some e := ⟨_, List.getElem?_eq_getElem h⟩
    obtain ⟨e2, he2⟩ : ∃ e, r[i]? = some e := ⟨_, List.getElem?_eq_getElem (by omega)⟩
    refine AW.seq (AW.block ?_)
    refine AW.st teOk [] (by simp [-Option.some.injEq] <;> rfl) trivial ?_
    refine AW.dr mixed teOk [] (by simp [he, he2, str_beq, -Option.some.injEq] <;> rfl) (by kernel_rfl) (by kernel_rfl) ?_ ?_
    · simp [allP]
      omega
    refine AW.iff (!decide (e = e2)) (by simp) (fun g => ?_) (fun g => AW.skip ?_)
    · refine AW.st teOk [] (by simp [-Option.some.injEq] <;> rfl) trivial ?_
      refine AW.ret ⟨.inr rfl, _, Weak.refl _, ?_⟩
      have : l ≠ r := fun hh => by rw [hh, he2] at he; cases he; simp at g
      simp [this]
    · refine AW.text teOk (ans := []) (by simp [-Option.some.injEq] <;> rfl) ?_ ?_
      · trivial
      have g : e = e2 := by simpa using g
      refine ⟨_, _, Weak.normT hA [0, 1, 12, 13] [] [] 0 _ (by simp) (by simp) (by simp), ?_, i + 1, rfl, h, ?_, ?_⟩
      · omega
      · rw [List.take_add_one, List.take_add_one, htk, he, he2, g]
      · simp
        exact wrap_s i (by omega)
  · rw [decide_eq_false_iff_not] at h
    refine AW.st teOk [] (by simp [-Option.some.injEq] <;> rfl) trivial ?_
    refine AW.ret ⟨.inr rfl, _, Weak.refl _, ?_⟩
    have : l = r := by
      rw [List.take_of_length_le (by omega), List.take_of_length_le (by omega)] at htk
      exact htk
    simp [this]
end Go.Proofs.YtphlhadgcfndhaaGreat.Abs
end
section
namespace Go.Proofs.YtphlhadgcfndhaaGreat.Abs
open Go Go.RowKit
set_option linter.unusedVariables false
set_option linter.unusedSimpArgs false
set_option maxHeartbeats 4000000
set_option maxRecDepth 8000
def sameB (x y : HV) : Bool := ((x.o.toList == y.o.toList)) && ((x.f.toList == y.f.toList)) && ((x.set == y.set)) && ((x.n == y.n)) && ((x.s.toList == y.s.toList)) && ((x.hm == y.hm)) && ((x.mx == y.mx)) && ((x.sum == y.sum)) && (decide (x.el = y.el)) && ((x.fl == y.fl))
abbrev fsV : Cell := .sc (.func (.func 89) #[] #[])
theorem sameV_pure (x y : HV) (hl : x.el.length < 1000000000000) : Pure Tryz.prog 89 [.agg (encH x), .agg (encH y)] (.c (cB (sameB x y))) := by
  refine pure_of teOk Tryz.func89 (by kernel_rfl) (c := _) rfl (N := 73) rfl (rs := [Go.ResultVar.tmp 4]) rfl (by simp) fun base A w0 hA => ?_
  refine AW.st teOk [] (by simp [-Option.some.injEq] <;> rfl) trivial ?_
  cases h0 : (x.o.toList == y.o.toList) with
  | false =>
    refine AW.st teOk [] (by simp [h0, -Option.some.injEq] <;> rfl) ?_ ?_
    · first | trivial | skip
    refine AW.ret ⟨.inr rfl, _, Weak.refl _, ?_⟩
    simp [sameB, h0]
  | true =>
  cases h1 : (x.f.toList == y.f.toList) with
  | false =>
    refine AW.st teOk [] (by simp [h0, h1, -Option.some.injEq] <;> rfl) ?_ ?_
    · first | trivial | skip
    refine AW.ret ⟨.inr rfl, _, Weak.refl _, ?_⟩
    simp [sameB, h0, h1]
  | true =>
  cases h2 : (x.set == y.set) with
  | false =>
    refine AW.st teOk [] (by simp [h0, h1, h2, -Option.some.injEq] <;> rfl) ?_ ?_
    · first | trivial | skip
    refine AW.ret ⟨.inr rfl, _, Weak.refl _, ?_⟩
    simp [sameB, h0, h1, h2]
  | true =>
  cases h3 : (x.n == y.n) with
  | false =>
    refine AW.st teOk [] (by simp [h0, h1, h2, h3, -Option.some.injEq] <;> rfl) ?_ ?_
    · first | trivial | skip
    refine AW.ret ⟨.inr rfl, _, Weak.refl _, ?_⟩
    simp [sameB, h0, h1, h2, h3]
  | true =>
  cases h4 : (x.s.toList == y.s.toList) with
  | false =>
    refine AW.st teOk [] (by simp [h0, h1, h2, h3, h4, -Option.some.injEq] <;> rfl) ?_ ?_
    · first | trivial | skip
    refine AW.ret ⟨.inr rfl, _, Weak.refl _, ?_⟩
    simp [sameB, h0, h1, h2, h3, h4]
  | true =>
  cases h5 : (x.hm == y.hm) with
  | false =>
    refine AW.st teOk [] (by simp [h0, h1, h2, h3, h4, h5, -Option.some.injEq] <;> rfl) ?_ ?_
    · first | trivial | skip
    refine AW.ret ⟨.inr rfl, _, Weak.refl _, ?_⟩
    simp [sameB, h0, h1, h2, h3, h4, h5]
  | true =>
  cases h6 : (x.mx == y.mx) with
  | false =>
    refine AW.st teOk [] (by simp [h0, h1, h2, h3, h4, h5, h6, -Option.some.injEq] <;> rfl) ?_ ?_
    · first | trivial | skip
    refine AW.ret ⟨.inr rfl, _, Weak.refl _, ?_⟩
    simp [sameB, h0, h1, h2, h3, h4, h5, h6]
  | true =>
  cases h7 : (x.sum == y.sum) with
  | false =>
    refine AW.st teOk [] (by simp [h0, h1, h2, h3, h4, h5, h6, h7, -Option.some.injEq] <;> rfl) ?_ ?_
    · first | trivial | skip
    refine AW.ret ⟨.inr rfl, _, Weak.refl _, ?_⟩
    simp [sameB, h0, h1, h2, h3, h4, h5, h6, h7]
  | true =>
  cases h8 : decide (x.el = y.el) with
  | false =>
    refine AW.st teOk [.fz (.c (cB false))] (by simp [h0, h1, h2, h3, h4, h5, h6, h7, h8, -Option.some.injEq] <;> rfl) ?_ ?_
    · first | trivial | skip
      exact h8 ▸ eqS_pure false false x.el y.el hl
    refine AW.ret ⟨.inr rfl, _, Weak.refl _, ?_⟩
    simp [sameB, h0, h1, h2, h3, h4, h5, h6, h7, h8]
  | true =>
  cases h9 : (x.fl == y.fl) with
  | false =>
    refine AW.st teOk [.fz (.c (cB true))] (by simp [h0, h1, h2, h3, h4, h5, h6, h7, h8, h9, -Option.some.injEq] <;> rfl) ?_ ?_
    · first | trivial | skip
      exact h8 ▸ eqS_pure false false x.el y.el hl
    refine AW.ret ⟨.inr rfl, _, Weak.refl _, ?_⟩
    simp [sameB, h0, h1, h2, h3, h4, h5, h6, h7, h8, h9]
  | true =>
  refine AW.st teOk [.fz (.c (cB true))] (by simp [h0, h1, h2, h3, h4, h5, h6, h7, h8, h9, -Option.some.injEq] <;> rfl) ?_ ?_
  · first | trivial | skip
    exact h8 ▸ eqS_pure false false x.el y.el hl
  refine AW.ret ⟨.inr rfl, _, Weak.refl _, ?_⟩
  simp [sameB, h0, h1, h2, h3, h4, h5, h6, h7, h8, h9]
theorem sameB_iff {x y : HV} : sameB x y = true ↔ x = y := by
  unfold sameB
  simp only [str_beq, Bool.and_eq_true, decide_eq_true_eq, beq_iff_eq]
  obtain ⟨a1, a2, a3, a4, a5, a6, a7, a8, a9, a10⟩ := x
  obtain ⟨b1, b2, b3, b4, b5, b6, b7, b8, b9, b10⟩ := y
  simp only [HV.mk.injEq]
  constructor
  · rintro ⟨⟨⟨⟨⟨⟨⟨⟨⟨h1, h2⟩, h3⟩, h4⟩, h5⟩, h6⟩, h7⟩, h8⟩, h9⟩, h10⟩
    exact ⟨h1, h2, h3, h4, h5, h6, h7, h8, h9, h10⟩
  · rintro ⟨h1, h2, h3, h4, h5, h6, h7, h8, h9, h10⟩
    exact ⟨⟨⟨⟨⟨⟨⟨⟨⟨h1, h2⟩, h3⟩, h4⟩, h5⟩, h6⟩, h7⟩, h8⟩, h9⟩, h10⟩
end Go.Proofs.YtphlhadgcfndhaaGreat.Abs
end
section
namespace Go.Proofs.YtphlhadgcfndhaaGreat.Abs
open Go Go.RowKit
set_option linter.unusedVariables false
set_option linter.unusedSimpArgs false
set_option maxHeartbeats 4000000
def sameL : List HV → List HV → Bool
  | [], [] => true
  | x :: l, y :: r => sameB x y && sameL l r
  | _, _ => false
theorem sameL_iff : ∀ {l r : List HV}, sameL l r = true ↔ l = r
  | [], [] => by simp [sameL]
  | [], _ :: _ => by simp [sameL]
  | _ :: _, [] => by simp [sameL]
  | x :: l, y :: r => by simp [sameL, sameB_iff, sameL_iff (l := l) (r := r)]
theorem sameL_len {l r : List HV} (h : l.length ≠ r.length) : sameL l r = false := by
  cases hq : sameL l r with
  | false => rfl
  | true => exact absurd (by rw [sameL_iff.1 hq]) h
/-- Short lists of elements. -/
def ElB (l : List HV) : Prop := ∀ x ∈ l, x.el.length < 1000000000
theorem eqF_pure (t t' : Bool) (l r : List HV) (hl : l.length < 1000000000000) (hb : ElB l) : Pure Tryz.prog 88 [.c (.row 10 t (l.map encH)), .c (.row 10 t' (r.map encH)), .c fsV] (.c (cB (sameL l r))) := by
  refine pure_of teOk Tryz.func88 (by kernel_rfl) (c := _) rfl (N := 32) rfl (rs := [Go.ResultVar.tmp 6]) rfl (by simp) fun base A w0 hA => ?_
  refine AW.st teOk [] (by simp [-Option.some.injEq] <;> rfl) trivial ?_
  refine AW.seq ?_
  refine AW.st teOk [] (by simp [-Option.some.injEq] <;> rfl) trivial ?_
  refine AW.iff ((l.length : Int) != (r.length : Int)) (by simp) (fun h => ?_) (fun h => AW.skip ?_)
  · refine AW.st teOk [] (by simp [-Option.some.injEq] <;> rfl) trivial ?_
    refine AW.ret ⟨.inr rfl, _, Weak.refl _, ?_⟩
    have : sameL l r = false := sameL_len fun e => by rw [e] at h; simp at h
    simp [this]
  have hlen : l.length = r.length := by simp at h; omega
  refine AW.seq ?_
  refine AW.st teOk [] (by simp [-Option.some.injEq] <;> rfl) trivial ?_
  refine AW.block (AW.loop (fun m s => ∃ i : Nat, m = l.length - i ∧ i ≤ l.length ∧ l.take i = r.take i ∧ s = ⟨[(1, .c (.row 10 t' (r.map encH))), (2, .c fsV), (15, .c (.row 10 t (l.map encH))), (16, .c (cI l.length)), (17, .c (cI i))], [], 0⟩) _ (Weak.normT hA [1, 2, 15, 16, 17] [] [] 0 _ (by simp) (by simp) (by simp)) ⟨0, rfl, Nat.zero_le _, rfl, by simp⟩ ?_)
  rintro m s ⟨i, rfl, hi, htk, rfl⟩
  refine AW.st teOk [] (by simp [-Option.some.injEq] <;> rfl) trivial ?_
  refine AW.seq ?_
  refine AW.iff (decide (i < l.length)) (by simp) (fun h => AW.skip ?_) (fun h => AW.exit (x_then (x_then (blockA_exit ?_))))
  · rw [decide_eq_true_eq] at h
    obtain ⟨e, he⟩ : ∃ e, l[i]? = some e := ⟨_, List.getElem?_eq_getElem h⟩
    obtain ⟨e2, he2⟩ : ∃ e, r[i]? = some e := ⟨_, List.getElem?_eq_getElem (by omega)⟩
    have hel := hb e (List.mem_of_getElem? he)
    refine AW.seq (AW.block ?_)
    refine AW.st teOk [] (by simp [he, -Option.some.injEq] <;> rfl) ?_ ?_
    · omega
    refine AW.st teOk [] (by simp [he2, -Option.some.injEq] <;> rfl) ?_ ?_
    · omega
    refine AW.st teOk [.fz (.c (cB (sameB e e2)))] (by simp [-Option.some.injEq] <;> rfl) ?_ ?_
    · exact sameV_pure e e2 (by omega)
    refine AW.iff (!sameB e e2) (by simp) (fun g => ?_) (fun g => AW.skip ?_)
    · refine AW.st teOk [] (by simp [-Option.some.injEq] <;> rfl) trivial ?_
      refine AW.ret ⟨.inr rfl, _, Weak.refl _, ?_⟩
      have : sameL l r = false := by
        cases hq : sameL l r with
        | false => rfl
        | true =>
          have := sameL_iff.1 hq
          rw [this, he2] at he
          cases he
          rw [sameB_iff.2 rfl] at g
          cases g
      simp [this]
    · refine AW.text teOk (ans := []) (by simp [-Option.some.injEq] <;> rfl) ?_ ?_
      · trivial
      have g : e = e2 := sameB_iff.1 (by simpa using g)
      refine ⟨_, _, Weak.normT hA [1, 2, 15, 16, 17] [] [] 0 _ (by simp) (by simp) (by simp), ?_, i + 1, rfl, h, ?_, ?_⟩
      · omega
      · rw [List.take_add_one, List.take_add_one, htk, he, he2, g]
      · simp
        exact wrap_s i (by omega)
  · rw [decide_eq_false_iff_not] at h
    refine AW.st teOk [] (by simp [-Option.some.injEq] <;> rfl) trivial ?_
    refine AW.ret ⟨.inr rfl, _, Weak.refl _, ?_⟩
    have : sameL l r = true := by
      rw [List.take_of_length_le (by omega), List.take_of_length_le (by omega)] at htk
      exact sameL_iff.2 htk
    simp [this]
theorem sameVs_pure (t t' : Bool) (l r : List HV) (hl : l.length < 1000000000000) (hb : ElB l) : Pure Tryz.prog 49 [.c (.row 10 t (l.map encH)), .c (.row 10 t' (r.map encH))] (.c (cB (sameL l r))) := by
  refine pure_of teOk Tryz.func49 (by kernel_rfl) (c := _) rfl (N := 8) rfl (rs := [Go.ResultVar.tmp 4]) rfl (by simp) fun base A w0 hA => ?_
  refine AW.st teOk [] (by simp [-Option.some.injEq] <;> rfl) trivial ?_
  refine AW.st teOk [.fz (.c (cB (sameL l r)))] (by simp [-Option.some.injEq] <;> rfl) ?_ ?_
  · exact eqF_pure t t' l r hl hb
  refine AW.ret ⟨.inr rfl, _, Weak.refl _, ?_⟩
  simp
end Go.Proofs.YtphlhadgcfndhaaGreat.Abs
end
