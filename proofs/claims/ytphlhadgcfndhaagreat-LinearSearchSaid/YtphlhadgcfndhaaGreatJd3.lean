/- Joined for the claim: WNcl WNst WDrC -/
import Derived.Test.YtphlhadgcfndhaaGreatJd2
import Derived.Test.YtphlhadgcfndhaaGreatAbs24
import Derived.Test.YtphlhadgcfndhaaGreatAbsS
section
namespace Go.Proofs.YtphlhadgcfndhaaGreat.Abs
open Go Go.RowKit
set_option linter.unusedVariables false
set_option linter.unusedSimpArgs false
set_option maxHeartbeats 4000000
attribute [simp] exI exC exV exVs exO exS looksP minus freeV freeVs freeC opqV opqVs opqC rxC rxV rokC rokV rokVs hiB loB restB reC reV newM
/-- A value and the name of the object that has its elements, if there is one. -/
abbrev OV := HV × Option Nat
@[simp] def ownC (x : OV) : Cell := match x.2 with
  | none => .row 1 true []
  | some id => .ref id 0 x.1.el.length
@[simp] def encO (x : OV) : List Cell := encX (x.1, ownC x)
theorem encO_len (l : List OV) : ∀ e ∈ l.map encO, e.length = 10 := fun e he => by
  obtain ⟨x, _, rfl⟩ := List.mem_map.1 he
  rfl
abbrev LL : Nat := 5000000
/-- The objects of values' elements. -/
structure Fam (N : Nat) (vs : List OV) (F : Sig) : Prop where
  emp : ∀ x ∈ vs, x.2 = none → x.1.el = []
  own : ∀ x ∈ vs, ∀ id, x.2 = some id → x.1.el ≠ [] ∧ look id F = some ⟨1, x.1.el.map encs⟩
  nd : (vs.filterMap Prod.snd).Nodup
  keys : ∀ i, (look i F).isSome = true → LIM ≤ i ∧ i < N
  flat : ∀ i o, look i F = some o → flatO o = true
theorem Fam.low {N : Nat} {vs : List OV} {F : Sig} (h : Fam N vs F) : Low N F := fun i hi => (h.keys i hi).2
theorem Fam.lt {N : Nat} {vs : List OV} {F : Sig} (h : Fam N vs F) {x : OV} (hx : x ∈ vs) {id : Nat} (hid : x.2 = some id) : LIM ≤ id ∧ id < N := h.keys id (by rw [(h.own x hx id hid).2]; rfl)
/-! ### what a clone's objects are named -/
def clRow (F : Sig) (i : Nat) (v : HV) : Sig := if v.el = [] then F else (LIM + i, ⟨1, v.el.map encs⟩) :: F
def clR : List HV → Sig
  | [] => []
  | v :: r => clRow (clR r) r.length v
def clF (l : List HV) : Sig := clR l.reverse
def clO (i : Nat) (v : HV) : OV := (v, if v.el = [] then none else some (LIM + i))
def clW (l : List HV) : List OV := l.zipIdx.map fun x => clO x.2 x.1
theorem clF_snoc (l : List HV) (v : HV) : clF (l ++ [v]) = clRow (clF l) l.length v := by simp [clF, clR]
theorem clW_snoc (l : List HV) (v : HV) : clW (l ++ [v]) = clW l ++ [clO l.length v] := by simp [clW, List.zipIdx_append]
theorem clW_fst (l : List HV) : (clW l).map Prod.fst = l := by
  unfold clW
  rw [List.map_map]
  have : (Prod.fst ∘ fun x : HV × Nat => clO x.2 x.1) = Prod.fst := by funext x; rfl
  rw [this, List.zipIdx_map_fst]
theorem clW_len (l : List HV) : (clW l).length = l.length := by simp [clW]
theorem cl_fam (l : List HV) : Fam (LIM + l.length) (clW l) (clF l) := by
  suffices h : ∀ r : List HV, Fam (LIM + r.reverse.length) (clW r.reverse) (clF r.reverse) by
    have := h l.reverse
    rwa [List.reverse_reverse] at this
  intro r
  induction r with
  | nil => exact ⟨fun x h => by simp [clW] at h, fun x h => by simp [clW] at h, by simp [clW], fun i h => by simp [clF, clR, look] at h, fun i o h => by simp [clF, clR, look] at h⟩
  | cons v r ih =>
    rw [List.reverse_cons, clF_snoc, clW_snoc, List.length_append, List.length_singleton]
    generalize r.reverse = l at ih
    have hfresh : look (LIM + l.length) (clF l) = none := look_none fun h => by have := (ih.keys _ h).2; omega
    by_cases he : v.el = []
    · have e1 : clRow (clF l) l.length v = clF l := if_pos he
      have e2 : clO l.length v = (v, none) := by unfold clO; rw [if_pos he]
      rw [e1, e2]
      refine ⟨fun x hx hn => ?_, fun x hx id hid => ?_, ?_, fun i hi => by have := ih.keys i hi; omega, ih.flat⟩
      · rcases List.mem_append.1 hx with hx | hx
        · exact ih.emp x hx hn
        · rw [List.mem_singleton.1 hx]; exact he
      · rcases List.mem_append.1 hx with hx | hx
        · exact ih.own x hx id hid
        · rw [List.mem_singleton.1 hx] at hid; cases hid
      · rw [List.filterMap_append]
        simpa using ih.nd
    · have e1 : clRow (clF l) l.length v = (LIM + l.length, ⟨1, v.el.map encs⟩) :: clF l := if_neg he
      have e2 : clO l.length v = (v, some (LIM + l.length)) := by unfold clO; rw [if_neg he]
      rw [e1, e2]
      have hne : ∀ x ∈ clW l, ∀ id, x.2 = some id → id ≠ LIM + l.length := fun x hx id hid e => by
        have := (ih.lt hx hid).2
        omega
      refine ⟨fun x hx hn => ?_, fun x hx id hid => ?_, ?_, fun i hi => ?_, fun i o hi => ?_⟩
      · rcases List.mem_append.1 hx with hx | hx
        · exact ih.emp x hx hn
        · rw [List.mem_singleton.1 hx] at hn; cases hn
      · rcases List.mem_append.1 hx with hx | hx
        · obtain ⟨h1, h2⟩ := ih.own x hx id hid
          exact ⟨h1, by rw [look, if_neg (hne x hx id hid)]; exact h2⟩
        · rw [List.mem_singleton.1 hx] at hid ⊢
          cases hid
          exact ⟨he, by rw [look, if_pos rfl]⟩
      · rw [List.filterMap_append, List.nodup_append]
        refine ⟨ih.nd, by simp, fun a ha b hb => ?_⟩
        obtain ⟨x, hx, hxa⟩ := List.mem_filterMap.1 ha
        have hb : b = LIM + l.length := by simpa using hb
        rw [hb]
        exact hne x hx a hxa
      · rw [look] at hi
        split at hi
        · omega
        · have := ih.keys i hi; omega
      · rw [look] at hi
        split at hi
        · cases hi; exact flat_encs _
        · exact ih.flat i o hi
theorem encO_refs {N : Nat} {vs : List OV} {F : Sig} (h : Fam N vs F) : refsLt N ⟨10, vs.map encO⟩ := fun e he c hc => by
  obtain ⟨x, hx, rfl⟩ := List.mem_map.1 he
  obtain ⟨v, own⟩ := x
  cases own with
  | none =>
    simp only [encO, encX, ownC, List.mem_cons, List.not_mem_nil, or_false] at hc
    rcases hc with rfl | rfl | rfl | rfl | rfl | rfl | rfl | rfl | rfl | rfl <;> trivial
  | some id =>
    have := (h.lt hx rfl).2
    simp only [encO, encX, ownC, List.mem_cons, List.not_mem_nil, or_false] at hc
    rcases hc with rfl | rfl | rfl | rfl | rfl | rfl | rfl | rfl | rfl | rfl <;> first | trivial | exact this
theorem rn_encO {B N : Nat} {vs : List OV} {F : Sig} (h : Fam N vs F) (hB : N ≤ B) (ρ : List (Nat × Nat)) : (vs.map encO).map (fun e => e.map (rnC B ρ)) = vs.map encO := map_same fun e he => map_same fun c hc => rnC_low (by
  have := encO_refs h e he c hc
  cases c <;> first | trivial | exact Nat.lt_of_lt_of_le this hB)
end Go.Proofs.YtphlhadgcfndhaaGreat.Abs
end
section
namespace Go.Proofs.YtphlhadgcfndhaaGreat.Abs
open Go Go.RowKit
set_option linter.unusedVariables false
set_option linter.unusedSimpArgs false
set_option maxHeartbeats 4000000
theorem refs_snoc {B k : Nat} {a : List (List Cell)} {x : List Cell} (h : refsLt B ⟨k, a⟩) (hx : x.all frozenC = true) : refsLt B ⟨k, a ++ [x]⟩ := fun e he c hc => by
  rcases List.mem_append.1 he with he | he
  · exact h e he c hc
  · rw [List.mem_singleton.1 he] at hc
    rw [List.all_eq_true] at hx
    have := hx c hc
    cases c <;> first | trivial | cases this
theorem refs_le {B C : Nat} {o : AObj} (h : refsLt B o) (hbc : B ≤ C) : refsLt C o := fun e he c hc => by
  have := h e he c hc
  cases c <;> first | trivial | exact Nat.lt_of_lt_of_le this hbc
@[simp] theorem refs_nil (m k : Nat) : refsLt m ⟨k, []⟩ := fun e he => by cases he
theorem fam_refs {N m : Nat} {vs : List OV} {F rest : Sig} (h : Fam N vs F) (hr : ∀ i o, look i rest = some o → refsLt m o) (B : Nat) : ∀ i o, look i (F ++ rest) = some o → ∀ e ∈ o.es, ∀ c ∈ e, refLt m c ∨ refLt B c := fun i o ho e he c hc => by
  rw [look_app] at ho
  cases hq : look i F with
  | some q =>
    rw [hq] at ho
    cases ho
    exact .inr (flat_refs (h.flat i _ hq) e he c hc)
  | none =>
    rw [hq] at ho
    exact .inl (hr i o ho e he c hc)
theorem clone_con (vs : List HV) (hl : vs.length < 1000000) (hb : ElB vs) : Con Tryz.prog 47 [.c (encHs vs)] [] 1000000 (.c (.ref 5000000 0 vs.length)) ((5000000, ⟨10, (clW vs).map encO⟩) :: clF vs) 5000001 := by
  refine con_of teOk Tryz.func47 (by kernel_rfl) (c := _) rfl (N := 22) rfl (rs := [Go.ResultVar.tmp 2]) rfl (by simp) fun base A w0 rest hrest hrefs hA => ?_
  have hlow : Low 1000000 rest := hrest
  refine AW.st teOk [] (by simp [-Option.some.injEq] <;> rfl) trivial ?_
  refine AW.st teOk [] (by simp [-Option.some.injEq] <;> rfl) trivial ?_
  refine AW.seq ?_
  refine AW.weak (Weak.nil 3 10 _ (by simp <;> rfl)) ?_
  refine AW.st teOk [] (by simp [drop_low hlow, -Option.some.injEq] <;> rfl) trivial ?_
  refine AW.block (AW.loop (fun m s => ∃ i : Nat, m = vs.length - i ∧ i ≤ vs.length ∧ s = ⟨[(3, .c (.ref 5000000 0 i)), (6, .c (encHs vs)), (7, .c (cI vs.length)), (8, .c (cI i))], (5000000, ⟨10, (clW (vs.take i)).map encO⟩) :: (clF (vs.take i) ++ rest), 5000001⟩) _ (Weak.normB 1000000 hA (fun i o h e he c hc => .inl (hrefs i o h e he c hc)) [3, 6, 7, 8] [(3, 5000000)] [] [] 5000001 _ (by simp [drop_low hlow, loB_low hlow]) (by simp) (by simp) (by simp) (by simp [drop_low hlow, hiB_low hlow]) (by simp [drop_low hlow, hiB_low hlow])) ⟨0, rfl, Nat.zero_le _, by simp [drop_low hlow, rnS_lowB (B := 1000000) (ids := []) rfl hlow, clW, clF, clR]⟩ ?_)
  rintro m s ⟨i, rfl, hi, rfl⟩
  refine AW.st teOk [] (by simp [-Option.some.injEq] <;> rfl) trivial ?_
  refine AW.seq ?_
  refine AW.iff (decide (i < vs.length)) (by simp) (fun h => AW.skip ?_) (fun h => AW.exit (x_then (x_then (blockA_exit ?_))))
  · rw [decide_eq_true_eq] at h
    obtain ⟨e, he⟩ : ∃ e, vs[i]? = some e := ⟨_, List.getElem?_eq_getElem h⟩
    have hel := hb e (List.mem_of_getElem? he)
    obtain ⟨B, hB⟩ : ∃ B, B = 1000000 + i := ⟨_, rfl⟩
    have hBn : ∀ k, 2000000 ≤ k → (k < B) = False := fun k hk => by simp; omega
    have hBl : ∀ k, 2000000 ≤ k → (B ≤ k) = True := fun k hk => by simp; omega
    have hBk : ∀ k, 2000000 ≤ k → (B < k) = True := fun k hk => by simp; omega
    have htk : vs.take (i + 1) = vs.take i ++ [e] := by rw [List.take_add_one, he]; rfl
    have hlt : (vs.take i).length = i := by rw [List.length_take]; omega
    have hfam := cl_fam (vs.take i)
    rw [hlt] at hfam
    have hfamB : Low B (clF (vs.take i)) := by rw [hB]; exact hfam.low
    have hlowB : Low B (clF (vs.take i) ++ rest) := hfamB.app (hlow.le (by omega))
    have hcW := clW_snoc (vs.take i) e
    have hcF := clF_snoc (vs.take i) e
    rw [hlt] at hcW hcF
    refine AW.seq (AW.block ?_)
    have hG := fam_refs (m := 1000000) hfam hrefs B
    obtain ⟨F, hF⟩ : ∃ F, F = clF (vs.take i) := ⟨_, rfl⟩
    obtain ⟨W, hW⟩ : ∃ W, W = clW (vs.take i) := ⟨_, rfl⟩
    rw [← hF] at hfam hfamB hlowB hcF hG ⊢
    rw [← hW] at hfam hcW ⊢
    obtain ⟨G, hGe⟩ : ∃ G, G = F ++ rest := ⟨_, rfl⟩
    rw [← hGe] at hlowB hG ⊢
    have hrn := rn_encO hfam (Nat.le_of_eq hB.symm)
    have hd := fun k hk => drop_low hlowB k hk
    have h20 : ∀ k, 2000000 ≤ k → B ≤ k := fun k hk => by omega
    have hdG : ∀ k, 2000000 ≤ k → drop k G = G := fun k hk => drop_low hlowB k (h20 k hk)
    have hloG := loB_low hlowB
    have hhiG := hiB_low hlowB
    have hrG : ∀ ρ ids, (ids.all fun i => decide (B ≤ i)) = true → rnS B ρ ids G = G := fun ρ ids h => rnS_lowB h hlowB
    have hWr : refsLt B ⟨10, W.map encO⟩ := by
      have := encO_refs hfam
      rwa [show LIM + i = B from by rw [hB]; rfl] at this
    have hWl : W.length = i := by rw [hW, clW_len, hlt]
    refine AW.st teOk [] (by simp [he, -Option.some.injEq] <;> rfl) ?_ ?_
    · omega
    by_cases hz : e.el = []
    · refine AW.st teOk [.fz (.c (.row 1 true []))] (by simp [hz, -Option.some.injEq] <;> rfl) ?_ ?_
      · exact cloneS_emp
      refine AW.text teOk (ans := []) (by simp [hdG, hWl, -Option.some.injEq] <;> rfl) ?_ ?_
      · simp [growOk, hWl]
        omega
      refine AW.text teOk (ans := []) (by simp [-Option.some.injEq] <;> rfl) ?_ ?_
      · trivial
      refine ⟨_, _, Weak.normB B hA hG [3, 6, 7, 8] [(3, 5000000)] [] [] 5000001 _ (by simp [hdG, hloG, hBn]) (by simp [hBl]) (by simp [hBl]) (by simp) (by simp [hdG, hhiG, hBn]) (by simp [hdG, hhiG, hBn]; exact refs_snoc hWr rfl), ?_, i + 1, rfl, h, ?_⟩
      · omega
      · rw [htk, hcW, hcF]
        simp [hdG, hBn, clO, clRow, hz]
        exact ⟨wrap_s i (by omega), by rw [hrG _ [] rfl, hGe]⟩
    · refine AW.st teOk [.new (.c (.ref 0 0 e.el.length)) [(0, ⟨1, e.el.map encs⟩)] 1] (by simp [hdG, -Option.some.injEq] <;> rfl) ?_ ?_
      · exact cloneS_new e.el hz (by omega)
      refine AW.text teOk (ans := []) (by simp [hdG, hWl, -Option.some.injEq] <;> rfl) ?_ ?_
      · simp [growOk, hWl]
        omega
      refine AW.text teOk (ans := []) (by simp [-Option.some.injEq] <;> rfl) ?_ ?_
      · trivial
      have hids : (([5000014] : List Nat).all fun i => decide (B ≤ i)) = true := by simp [hBl]
      refine ⟨_, _, Weak.normB B hA hG [3, 6, 7, 8] [(3, 5000000)] [(5000008, B)] [5000014] 5000001 _ (by simp [hdG, hloG, hBn]) (by simp [hBl, hBk]; omega) (by simp [hBl]) (by simp; omega) (by simp [hdG, hhiG, hBn]) (by simp [hdG, hhiG, hBn]; exact flat_refs (flat_encs e.el)), ?_, i + 1, rfl, h, ?_⟩
      · omega
      · rw [htk, hcW, hcF]
        simp [hdG, hBn, clO, clRow, hz]
        refine ⟨wrap_s i (by omega), ?_, ?_⟩
        · refine ⟨fun a b hab => ?_, hB⟩
          cases b with
          | none => rfl
          | some id =>
            have hlt : id < B := by rw [hB]; exact (hfam.lt hab rfl).2
            simp [hlt]
        · exact ⟨hB, by rw [hrG _ _ hids, hGe]⟩
  · rw [decide_eq_false_iff_not] at h
    have hi2 : i = vs.length := by omega
    subst hi2
    rw [List.take_length]
    refine AW.st teOk [] (by simp [-Option.some.injEq] <;> rfl) trivial ?_
    have hfam := cl_fam vs
    have hfl : Low 5000000 (clF vs ++ rest) := (hfam.low.le (by show 1000000 + vs.length ≤ 5000000; omega)).app (hlow.le (by omega))
    refine AW.ret ⟨.inr rfl, _, Weak.normB 5000000 hA (fam_refs hfam hrefs 5000000) [2] [(2, 5000000)] [] [] 5000001 _ (by simp [loB_low hfl]) (by simp) (by simp) (by simp) (by simp [hiB_low hfl]) (by simp [hiB_low hfl]; exact refs_le (encO_refs hfam) (by show 1000000 + vs.length ≤ 5000000; omega)), by simp, by simp [rnS_lowB (ids := []) rfl hfl], rfl⟩
end Go.Proofs.YtphlhadgcfndhaaGreat.Abs
end
section
namespace Go.Proofs.YtphlhadgcfndhaaGreat.Abs
open Go Go.RowKit
set_option linter.unusedVariables false
set_option linter.unusedSimpArgs false
section
variable {P : Program} {ops : Array Oper} {m : Nat} {Q Qf : Exit → Act → World → Prop}
theorem upon_Q {o : Oper} {a : Act} {K K' : Act → World → Prop} (hK : ∀ a w, K a w → K' a w) (hp : ∀ ch a w, Qf (.panic ch) a w → Q (.panic ch) a w) (ho : LetsOut Qf → LetsOut Q) {r : Result Next} (h : o.upon P a K Qf r) : o.upon P a K' Q r := by
  cases r with
  | ok n w' =>
    cases n <;> simp only [Oper.upon] at h ⊢ <;>
      first
        | exact hK _ _ h
        | exact Calls.mono h (fun e w'' he => by cases e <;> first | exact hK _ _ he | exact hp _ _ _ he | exact ho he)
        | exact Rows.mono h (fun _ _ he => hK _ _ he)
  | halt x w' => cases x <;> simp only [Oper.upon] at h ⊢ <;> first | exact hp _ _ _ h | exact h
def guardsLt (ops : Array Oper) : Bool := (List.range ops.size).all fun i => match ops[i]? with
  | some o => (match o.guard with
    | some (j, _) => decide (j < i)
    | none => true)
  | none => true
theorem guardsLt_at (h : guardsLt ops = true) {i : Nat} {o : Oper} (ho : ops[i]? = some o) {j : Nat} {b : Bool} (hg : o.guard = some (j, b)) : j < i := by
  unfold guardsLt at h
  rw [List.all_eq_true] at h
  have := h i (List.mem_range.2 (Array.getElem?_eq_some_iff.1 ho).1)
  rw [ho] at this
  simp only [hg] at this
  simpa using this
theorem pop_get (hm : ops.size = m + 1) {i : Nat} (hi : i < m) : ops.pop[i]? = ops[i]? := by
  rw [Array.getElem?_pop, if_pos (by omega)]
theorem wpOp_front (hm : ops.size = m + 1) (hg : guardsLt ops = true) {i : Nat} (hi : i < m) {K K' : Act → World → Prop} (hK : ∀ a w, K a w → K' a w) (hp : ∀ ch a w, Qf (.panic ch) a w → Q (.panic ch) a w) (ho : LetsOut Qf → LetsOut Q) {a : Act} {w : World} (h : wpOp P ops.pop Qf i K a w) : wpOp P ops Q i K' a w := by
  unfold wpOp at h ⊢
  rw [pop_get hm hi] at h
  have hio : ops[i]? = some (ops[i]'(by omega)) := Array.getElem?_eq_getElem (by omega)
  generalize (ops[i]'(by omega)) = o at hio
  rw [hio] at h ⊢
  simp only at h ⊢
  have hw : Region.wanted o (yielded ops.pop a.tmps) = Region.wanted o (yielded ops a.tmps) := by
    unfold Region.wanted
    cases hgo : o.guard with
    | none => rfl
    | some g =>
      obtain ⟨j, b⟩ := g
      have := guardsLt_at hg hio hgo
      simp only [yielded, pop_get hm (show j < m by omega)]
  rw [hw] at h
  split
  · rename_i h1
    rw [if_pos h1] at h
    rcases h with h | ⟨h, h'⟩
    · exact .inl (upon_Q hK hp ho h)
    · exact .inr ⟨h, ho h'⟩
  · rename_i h1
    rw [if_neg h1] at h
    exact hK _ _ h
/-- The last waits for all others. -/
def lastOk (ops : Array Oper) : Bool := (List.range (ops.size - 1)).all fun j => ((depTab ops).getD (ops.size - 1) []).contains j
theorem last_all (hm : ops.size = m + 1) (hl : lastOk ops = true) {b : Nat → Bool} (hc : ClosedL ops b) (hr : ∀ o, ops[m]? = some o → ∀ e ∈ o.after.toList, Region.binds .any e = true → b e.on = true) {j : Nat} (hj : j < m) : b j = true := by
  unfold lastOk at hl
  rw [List.all_eq_true] at hl
  have h1 := hl j (List.mem_range.2 (by omega))
  rw [show ops.size - 1 = m by omega, List.getD_eq_getElem?_getD] at h1
  cases hD : (depTab ops)[m]? with
  | none => rw [hD] at h1; simp at h1
  | some l =>
    rw [hD] at h1
    exact (depTab_sound hD (j := j) (by simpa using h1)).listed hc hr
theorem getD_push (l : Array Bool) (hl : l.size = m) (d : Bool) {j : Nat} (hj : j < m) : (l.push false).getD j d = l.getD j d := by
  rw [Array.getD_eq_getD_getElem?, Array.getD_eq_getD_getElem?, Array.getElem?_push, if_neg (by omega)]
theorem wpAny_last (hm : ops.size = m + 1) (hg : guardsLt ops = true) (hon : onOk ops = true) (hl : lastOk ops = true) (hp : ∀ ch a w, Qf (.panic ch) a w → Q (.panic ch) a w) (ho : LetsOut Qf → LetsOut Q)
    (hf : ∀ a w, Qf .normal a w → wpOp P ops Q m (fun a w => Q .normal a w) a w) : ∀ (f : Nat) (listed : Array Bool) (a : Act) (w : World), listed.size = m → ClosedL ops (fun j => (listed.push false).getD j false) → wpAny P .any ops.pop Qf f listed a w → wpAny P .any ops Q (f + 1) (listed.push false) a w := by
  have edge := onOk_sound hon
  have opm : ops[m]? = some (ops[m]'(by omega)) := Array.getElem?_eq_getElem (by omega)
  -- which are ready
  have rdy : ∀ (listed : Array Bool), listed.size = m → ∀ i, i < m → (i ∈ Region.ready .any ops (listed.push false) ↔ i ∈ Region.ready .any ops.pop listed) := fun listed hsz i hi => by
    rw [mem_ready, mem_ready, pop_get hm hi, getD_push listed hsz true hi]
    refine and_congr_right fun _ => exists_congr fun o => and_congr_right fun hoi => ?_
    refine forall_congr' fun e => ?_
    constructor
    · intro h he hb
      have hlt := edge i o hoi e (by simpa using he) hb
      have := h he hb
      rwa [getD_push listed hsz false (by omega)] at this
    · intro h he hb
      have hlt := edge i o hoi e (by simpa using he) hb
      rw [getD_push listed hsz false (by omega)]
      exact h he hb
  have none_ready : ∀ (listed : Array Bool), listed.size = m → Region.ready .any ops.pop listed = [] → ∀ j, j < m → listed.getD j false = true := fun listed hsz hr j => by
    induction j using Nat.strongRecOn with
    | _ j ih =>
      intro hj
      cases hb : listed.getD j false with
      | true => rfl
      | false =>
        exfalso
        have hoj : ops[j]? = some (ops[j]'(by omega)) := Array.getElem?_eq_getElem (by omega)
        have : j ∈ Region.ready .any ops.pop listed := by
          rw [mem_ready]
          refine ⟨?_, ops[j]'(by omega), by rw [pop_get hm hj]; exact hoj, fun e he hbn => ?_⟩
          · rw [Array.getD_eq_getD_getElem?] at hb ⊢
            rw [Array.getElem?_eq_getElem (by omega)] at hb ⊢
            exact hb
          · have := edge j _ hoj e (by simpa using he) hbn
            exact ih e.on this (by omega)
        rw [hr] at this
        cases this
  have fin : ∀ (f : Nat) (listed : Array Bool) (a : Act) (w : World), listed.size = m → (∀ j, j < m → listed.getD j false = true) → Qf .normal a w → wpAny P .any ops Q (f + 1) (listed.push false) a w := fun f listed a w hsz hall hq => by
    have hmr : m ∈ Region.ready .any ops (listed.push false) := by
      rw [mem_ready]
      refine ⟨?_, _, opm, fun e he hbn => ?_⟩
      · rw [Array.getD_eq_getD_getElem?, Array.getElem?_push, if_pos hsz.symm]
        rfl
      · have := edge m _ opm e (by simpa using he) hbn
        rw [getD_push listed hsz false this]
        exact hall _ this
    have hafter : Region.ready .any ops ((listed.push false).setIfInBounds m true) = [] := by
      rw [List.eq_nil_iff_forall_not_mem]
      intro j hj
      rw [mem_ready] at hj
      obtain ⟨h0, o, hoj, _⟩ := hj
      have hjl : j < m + 1 := by rw [← hm]; exact (Array.getElem?_eq_some_iff.1 hoj).1
      by_cases hjm : j = m
      · subst hjm
        rw [Array.getD_eq_getD_getElem?, Array.getElem?_setIfInBounds, if_pos rfl, if_pos (by rw [Array.size_push]; omega)] at h0
        cases h0
      · rw [Array.getD_eq_getD_getElem?, Array.getElem?_setIfInBounds, if_neg (Ne.symm hjm), Array.getElem?_push, if_neg (by omega)] at h0
        have := hall j (by omega)
        rw [Array.getD_eq_getD_getElem?] at this
        rw [Array.getElem?_eq_getElem (by omega)] at h0 this
        simp only [Option.getD_some] at h0 this
        rw [this] at h0
        cases h0
    refine ⟨fun h => (by rw [h] at hmr; cases hmr), fun i hi => ?_⟩
    have him : i = m := by
      by_cases h : i = m
      · exact h
      · exfalso
        rw [mem_ready] at hi
        obtain ⟨h0, o, hoj, _⟩ := hi
        have hjl : i < m + 1 := by rw [← hm]; exact (Array.getElem?_eq_some_iff.1 hoj).1
        rw [getD_push listed hsz true (by omega)] at h0
        have := hall i (by omega)
        rw [Array.getD_eq_getD_getElem?] at this h0
        rw [Array.getElem?_eq_getElem (by omega)] at h0 this
        simp only [Option.getD_some] at h0 this
        rw [this] at h0
        cases h0
    subst him
    refine wpOp_mono (fun a' w' hq' => ?_) (hf a w hq)
    cases f with
    | zero => exact ⟨hafter, hq'⟩
    | succ f => exact ⟨fun _ => hq', fun i hi => by rw [hafter] at hi; cases hi⟩
  intro f
  induction f with
  | zero =>
    intro listed a w hsz hc h
    exact fin 0 listed a w hsz (none_ready listed hsz h.1) h.2
  | succ f ih =>
    intro listed a w hsz hc h
    obtain ⟨h0, h1⟩ := h
    by_cases hr : Region.ready .any ops.pop listed = []
    · exact fin (f + 1) listed a w hsz (none_ready listed hsz hr) (h0 hr)
    · obtain ⟨i0, hi0⟩ := List.exists_mem_of_ne_nil _ hr
      have lt_of : ∀ i, i ∈ Region.ready .any ops.pop listed → i < m := fun i hi => by
        rw [mem_ready] at hi
        obtain ⟨_, o, hoi, _⟩ := hi
        have := (Array.getElem?_eq_some_iff.1 hoi).1
        rw [Array.size_pop] at this
        omega
      have hi0m := lt_of i0 hi0
      refine ⟨fun h => ?_, fun i hi => ?_⟩
      · have := (rdy listed hsz i0 hi0m).2 hi0
        rw [h] at this
        cases this
      · have him : i < m := by
          have hi' := hi
          rw [mem_ready] at hi'
          obtain ⟨_, o, hoi, hre⟩ := hi'
          have hlt : i < m + 1 := by rw [← hm]; exact (Array.getElem?_eq_some_iff.1 hoi).1
          by_cases h : i = m
          · exfalso
            subst h
            have := last_all hm hl hc (fun o' ho' e he hb => by
              rw [hoi] at ho'
              cases ho'
              exact hre e (by simpa using he) hb) hi0m
            simp only [getD_push listed hsz false hi0m] at this
            rw [mem_ready] at hi0
            obtain ⟨h00, _⟩ := hi0
            rw [Array.getD_eq_getD_getElem?] at this h00
            rw [Array.getElem?_eq_getElem (by omega)] at h00 this
            simp only [Option.getD_some] at h00 this
            rw [this] at h00
            cases h00
          · omega
        have hif := (rdy listed hsz i him).1 hi
        refine wpOp_front hm hg him (fun a' w' hK => ?_) hp ho (h1 i hif)
        have hset : (listed.push false).setIfInBounds i true = (listed.setIfInBounds i true).push false := by
          refine Array.ext_getElem? fun j => ?_
          rw [Array.getElem?_setIfInBounds, Array.getElem?_push, Array.getElem?_push, Array.size_setIfInBounds, Array.size_push, Array.getElem?_setIfInBounds]
          by_cases hji : i = j
          · subst hji
            rw [if_pos rfl, if_pos (by omega), if_neg (by omega), if_pos rfl, if_pos (by omega)]
          · rw [if_neg hji, if_neg hji]
        rw [hset]
        refine ih (listed.setIfInBounds i true) a' w' (by simp [hsz]) ?_ hK
        rw [← hset]
        intro j oj hoj hbj e he hbn
        have gset : ∀ q, ((listed.push false).setIfInBounds i true).getD q false = (q == i || (listed.push false).getD q false) := fun q => by
          by_cases hqi : q = i
          · subst hqi
            rw [Array.getD_eq_getD_getElem?, Array.getElem?_setIfInBounds, if_pos rfl, if_pos (by rw [Array.size_push]; omega)]
            simp
          · rw [Array.getD_eq_getD_getElem?, Array.getElem?_setIfInBounds, if_neg (Ne.symm hqi), ← Array.getD_eq_getD_getElem?]
            simp [hqi]
        simp only [gset] at hbj ⊢
        by_cases hji : j = i
        · subst hji
          rw [mem_ready] at hi
          obtain ⟨_, o, hoi, hre⟩ := hi
          rw [hoi] at hoj
          cases hoj
          simp [hre e (by simpa using he) hbn]
        · simp only [beq_eq_false_iff_ne.2 hji, Bool.false_or] at hbj
          simp [hc j oj hoj hbj e he hbn]
end
section
variable {P : Program} {base : Nat} {A : Old} {w0 : World} {n : Nat}
theorem AW.drawC (hmx : P.follows .mixedOrders = true) {T : TyEnv} (hT : TOk P T) {id : Nat} {ops : Array Oper} {s s' : St} {Q : Exit → St → Prop} {ans : List AVal} {ans2 ans3 : List Ans} {R : List Rec} {o : Oper} {p : Prop} (m : Nat) (hm : ops.size = m + 1) (ho : ops[m]? = some o)
    (hev : evUs T (PN P) n ops.pop ops.pop.toList s.τ s.σ s.fr ans = some R) (hon : onOk ops = true) (hon1 : onOk ops.pop = true) (hchk : chkAll ops.pop (depTab ops.pop) ops.pop.toList R = true) (hg : guardsLt ops = true) (hl : lastOk ops = true) (hp : allP R)
    (hlast : evOp P T n ops o (endSt R s) ans2 = some (s', ans3, p)) (hp2 : p) (h : Q .normal s') : AW P base A w0 n (.region id ops true) s Q := fun β a w I => by
  obtain ⟨hlen, hat, hmono⟩ := evUs_at ops.pop.toList s.τ s.σ s.fr ans R hev
  refine wp_region_any hmx ?_
  have hd : Below base w { w with drawn := w.drawn + 1 } := ⟨rfl, rfl, rfl, Nat.le_refl _, fun _ _ => rfl⟩
  have I1 : InvS base A w0 n β s a { w with drawn := w.drawn + 1 } := ⟨I.inv.heap hd rfl, I.defers, I.size, fun t v hv => by
    obtain ⟨u, hu, hr⟩ := I.tmps t v hv
    exact ⟨u, hu, RepV.mono (w := w) (ok := okOf base A.own w β) (w' := { w with drawn := w.drawn + 1 }) (ok' := okOf base A.own { w with drawn := w.drawn + 1 } β) (β := β) (β' := β) (fun x hx => ⟨hx, rfl⟩) (BLe.refl' β) hr⟩, I.fresh, I.ext.step (BLe.refl' β) (fun x hx => ⟨hx, rfl⟩)⟩
  have hps : ops.pop.size = m := by rw [Array.size_pop]; omega
  have hrep : Array.replicate ops.size false = (Array.replicate m false).push false := by
    rw [hm, Array.replicate_succ]
  have hf : ∀ d, (fun j => (Array.replicate m false).getD j false) = fun _ => (d : Bool) && false := fun d => by
    funext j
    rw [Array.getD_eq_getD_getElem?, Array.getElem?_replicate]
    cases d <;> split <;> rfl
  have hf2 : ∀ j, ((Array.replicate m false).push false).getD j false = false := fun j => by
    rw [Array.getD_eq_getD_getElem?, Array.getElem?_push, Array.getElem?_replicate]
    split
    · rfl
    · split <;> rfl
  have key : wpAny P .any ops.pop (fun e a' w' => match e with
      | .normal => wpOp P ops (fun e a' w' => ∃ s' β', Q e s' ∧ InvS base A w0 n β' s' a' w') m (fun a' w' => ∃ s' β', Q .normal s' ∧ InvS base A w0 n β' s' a' w') a' w'
      | e => ∃ s' β', Q e s' ∧ InvS base A w0 n β' s' a' w') m (Array.replicate m false) a { w with drawn := w.drawn + 1 } := by
    refine any_go (A := A) (base := base) (w0 := w0) (n := n) (s := s) hT hev (allP_mem hp) hchk (fun a' w' J => ?_) (onOk_sound hon1) m _ a _ (by simp [hps]) ?_ ?_ ?_
    · obtain ⟨β', I', hfr⟩ := J
      obtain ⟨e1, e2⟩ := endSt_τ R 0 s
      rw [← e1, ← e2] at I'
      have hle : ∀ (i : Nat) (r : Rec), R[i]? = some r → s.fr ≤ r.fr ∧ r.fr ≤ r.fr' := fun i r hr => by
        have hi : i < ops.pop.toList.length := by rw [← hlen]; exact (List.getElem?_eq_some_iff.1 hr).1
        obtain ⟨g1, g2⟩ := hat i _ r (List.getElem?_eq_getElem hi) hr
        have := (evU_fr g1).1
        exact ⟨g2, by omega⟩
      obtain ⟨g1, g2⟩ := endSt_fr R s hmono hle
      have I2 : InvS base A w0 n β' (endSt R s) a' w' := I'.toS fun id hid => hfr id (by omega) fun j r hr _ => by
        have h1 := g2 j r hr
        have h2 := (hle j r hr).2
        omega
      exact evOp_sound hT hlast hp2 I2 ho fun β2 a2 w2 I3 => ⟨s', β2, h, I3⟩
    · rw [hf true]
      intro i o ho hb
      cases hb
    · rw [hps]
      exact Nat.le_trans (List.length_filter_le _ _) (by simp)
    · rw [hf true]
      refine ⟨β, ?_, fun id hid _ => I.fresh id hid⟩
      show InvT base A w0 n β (selτ (fun _ => false) 0 R s.τ) (selσ (fun _ => false) 0 R s.σ) a _
      rw [selτ_false, selσ_false]
      exact I1.toT
  have := wpAny_last (Q := fun e a' w' => ∃ s' β', Q e s' ∧ InvS base A w0 n β' s' a' w') hm hg hon hl (fun ch a w h => h) (fun ⟨a, w, h⟩ => ⟨a, w, h⟩) (fun a w h => h) m (Array.replicate m false) a { w with drawn := w.drawn + 1 } (by simp) (fun i o ho hb => by simp only [hf2] at hb; cases hb) key
  rw [hrep, hm]
  exact this
theorem AW.drC (hmx : P.follows .mixedOrders = true) {T : TyEnv} (hT : TOk P T) {id : Nat} {ops : Array Oper} {y : Code} {s s' : St} {Q : Exit → St → Prop} (ans : List AVal) (ans2 : List Ans) {ans3 : List Ans} {R : List Rec} {o : Oper} {p : Prop} (m : Nat) (hm : ops.size = m + 1) (ho : ops[m]? = some o)
    (hev : evUs T (PN P) n ops.pop ops.pop.toList s.τ s.σ s.fr ans = some R) (hon : onOk ops = true) (hon1 : onOk ops.pop = true) (hchk : chkAll ops.pop (depTab ops.pop) ops.pop.toList R = true) (hg : guardsLt ops = true) (hl : lastOk ops = true)
    (hlast : evOp P T n ops o (endSt R s) ans2 = some (s', ans3, p)) (hp : allP R) (hp2 : p) (h : AW P base A w0 n y s' Q) : AW P base A w0 n (.seq (.region id ops true) y) s Q := AW.seq (AW.drawC hmx hT m hm ho hev hon hon1 hchk hg hl hp hlast hp2 h)
end
end Go.Proofs.YtphlhadgcfndhaaGreat.Abs
end
