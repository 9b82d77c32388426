/- Joined for the claim: WXgood WBase WAgr14 WXaw -/
import Derived.Test.YtphlhadgcfndhaaDoorWXexJd
import Derived.Test.YtphlhadgcfndhaaDoorAbsS
import Derived.Test.YtphlhadgcfndhaaDoorJd6
section
namespace Go.Proofs.YtphlhadgcfndhaaDoor.Abs
open Go Go.RowKit
set_option linter.unusedVariables false
set_option linter.unusedSimpArgs false
set_option maxHeartbeats 4000000
def topV : V2 := [(1, 2), (2, 2)]
/-- Inputs of small programs. -/
structure PIns (ins : List (List V2)) (m : Nat) : Prop where
  m : 1 ≤ m ∧ m ≤ 2
  len : ins.length ≤ 2
  two : ∀ l ∈ ins, l.length ≤ 2 ∧ ∀ v ∈ l, V4 v ∧ Sub v topV
theorem top_val : Val topV := by
  refine ⟨fun e he => ?_, ?_⟩
  · revert he e
    decide
  · unfold Srt topV
    simp
theorem fold1_sub {t : V2} (ht : Val t) : ∀ (l : List V2) (a : V2), V4 a → Sub a t → (∀ v ∈ l, V4 v ∧ Sub v t) → Sub (l.foldl (mergeI true) a) t
  | [], a, _, h, _ => h
  | x :: l, a, ha, h, hl => by
    have hx := hl x (by simp)
    exact fold1_sub ht l (mergeI true a x) (ha.merge hx.1) (sub_m ha.val hx.1.val h hx.2) fun v hv => hl v (by simp [hv])
theorem fold2_sub {t : V2} (ht : Val t) : ∀ (ls : List (List V2)) (a : V2), V4 a → Sub a t → (∀ l ∈ ls, ∀ v ∈ l, V4 v ∧ Sub v t) → Sub (ls.foldl (fun a l => l.foldl (mergeI true) a) a) t
  | [], a, _, h, _ => h
  | l :: ls, a, ha, h, hl => by
    have h1 := fold1_sub ht l a ha h (hl l (by simp))
    have h2 := (fold1 l a ha fun v hv => (hl l (by simp) v hv).1).1
    exact fold2_sub ht ls _ h2 h1 fun q hq => hl q (by simp [hq])
theorem PIns.x {ins : List (List V2)} {m : Nat} (h : PIns ins m) : XIns ins (allIns ins) m := by
  have h4 : ∀ l ∈ ins, ∀ v ∈ l, V4 v := fun l hl v hv => ((h.two l hl).2 v hv).1
  have ha := all_4 h4
  refine ⟨h.m, h.len, fun l hl => ⟨(h.two l hl).1, fun v hv => ⟨h4 l hl v hv, all_sub h4 l hl v hv⟩⟩, ha, ?_⟩
  have hs : Sub (allIns ins) topV := fold2_sub top_val ins [] V4.nil (nil_sub top_val) fun l hl v hv => (h.two l hl).2 v hv
  have := siz_mono hs
  have e : sizV topV = 4 := by decide
  omega
theorem PIns.ok {ins : List (List V2)} {m : Nat} (h : PIns ins m) : InsOk ins := h.x.ok
/-- Small numbers. -/
def N0 (x : Int) : Prop := 0 ≤ x ∧ x < 100
theorem vec_small {v : V2} (h : V4 v) : (∀ x ∈ vecN v, N0 x) ∧ (vecN v).length ≤ 9 := by
  have hl := h.le
  refine ⟨fun x hx => ?_, by rw [vecN_len]; omega⟩
  unfold vecN at hx
  rcases List.mem_cons.1 hx with rfl | hx
  · unfold N0; omega
  · obtain ⟨e, he, hx⟩ := List.mem_flatMap.1 hx
    have h1 := h.val.1 e he
    have h3 := cnt_mem h.val.2 he
    have h4 := h.c e.1
    have h2 : e.1 ≤ 4 := by
      by_cases h5 : 4 < e.1
      · have := h.a e.1 h5
        unfold Good at h1
        omega
      · omega
    unfold N0
    unfold Good at h1
    simp only [entN, List.mem_cons, List.not_mem_nil, or_false] at hx
    rcases hx with rfl | rfl
    · omega
    · omega
theorem flat_len {α : Type} (f : α → List Int) (b : Nat) : ∀ l : List α, (∀ x ∈ l, (f x).length ≤ b) → (l.flatMap f).length ≤ b * l.length
  | [], _ => by simp
  | x :: l, h => by
    rw [List.flatMap_cons, List.length_append, List.length_cons, Nat.mul_succ]
    have := flat_len f b l fun y hy => h y (by simp [hy])
    have := h x (by simp)
    omega
theorem numB_small (b : Bool) : N0 (numB b) := by cases b <;> simp [numB, N0]
theorem acks_len {l : List Int} (ha : AscN l) (hr : ∀ a ∈ l, 0 ≤ a ∧ a < 12) : l.length ≤ 12 := by
  have := nd_len l (upto 12) (asc_nd ha) fun x hx => by
    have := hr x hx
    unfold upto
    exact List.mem_map.2 ⟨x.toNat, List.mem_range.2 (by omega), by simp; omega⟩
  simpa [upto] using this
theorem nsum_le (b : Nat) : ∀ l : List Nat, (∀ x ∈ l, x ≤ b) → l.sum ≤ b * l.length
  | [], _ => by simp
  | x :: l, h => by
    rw [List.sum_cons, List.length_cons, Nat.mul_succ]
    have := nsum_le b l fun y hy => h y (by simp [hy])
    have := h x (by simp)
    omega
theorem XInv.decs {ins : List (List V2)} {all : V2} {m N : Nat} {g : GrS} (h0 : XIns ins all m) (h : XInv ins all m N g) : g.decs.length ≤ 8 := by
  have hs := decs_sum g.ins.length g.decs h.e.r
  rw [← hs]
  have := nsum_le 4 ((List.range g.ins.length).map fun i => (decsOf g.decs i).length) fun x hx => by
    obtain ⟨i, hi, rfl⟩ := List.mem_map.1 hx
    have hil := List.mem_range.1 hi
    have e1 := h.w.nn.x
    have e2 := h.w.nn.i
    have e3 := h.w.nn.p
    obtain ⟨p, hp⟩ : ∃ p, g.props[i]? = some p := ⟨_, List.getElem?_eq_getElem (by omega)⟩
    obtain ⟨l, hl⟩ : ∃ l, g.ins[i]? = some l := ⟨_, List.getElem?_eq_getElem (by omega)⟩
    obtain ⟨x, hx⟩ : ∃ x, g.nxt[i]? = some x := ⟨_, List.getElem?_eq_getElem (by omega)⟩
    by_cases hne : l = []
    · subst hne
      rw [h.e.e i hl]
      simp
    · have h3 := h.e.f i p l x hp hl hx hne
      rw [h3.2.2.1]
      have h4 := (h.w.i l (List.mem_of_getElem? hl)).1
      have h5 := h3.1
      unfold upto
      rw [List.length_map, List.length_range]
      split <;> omega
  rw [List.length_map, List.length_range] at this
  have := h0.len
  have h6 : g.ins.length ≤ 2 := by rw [h.i]; exact h0.len
  omega
theorem XInv.small {ins : List (List V2)} {all : V2} {m N : Nat} {s : XpS} (h0 : XIns ins all m) (h : XInv ins all m N s.g) (hb : XB s.g) (hlo : 0 ≤ s.lo ∧ s.lo ≤ 2) (ham : 0 ≤ s.am ∧ s.am ≤ 2) (hst : s.g.steps = 0) (hds : ∀ d ∈ s.g.decs, d.step = 0) : XSm s := by
  have hpk := h.pks h0
  have hde := h.decs h0
  have e1 := h.w.nn.x
  have e2 := h.w.nn.i
  have e3 := h.w.nn.p
  have hil : s.g.ins.length ≤ 2 := by rw [h.i]; exact h0.len
  have hal : s.g.accs.length ≤ 2 := by rw [h.al]; exact h0.m.2
  have hA : ∀ v ∈ s.g.accs, (∀ x ∈ vecN v, N0 x) ∧ (vecN v).length ≤ 9 := fun v hv => vec_small (h.w.a v hv)
  have hP : ∀ p ∈ s.g.props, (∀ x ∈ prN p, N0 x) ∧ (prN p).length ≤ 25 := fun p hp => by
    have hw := h.w.p p hp
    obtain ⟨g1, g2⟩ := vec_small hw.v
    have hr := hb.rle h.w hp
    have hac := hb.a p hp
    have hl := acks_len hw.asc hac
    have hn := hw.n
    refine ⟨fun x hx => ?_, ?_⟩
    · unfold prN at hx
      rcases List.mem_append.1 hx with hx | hx
      · exact g1 x hx
      · rcases List.mem_append.1 hx with hx | hx
        · simp only [List.mem_cons, List.not_mem_nil, or_false] at hx
          rcases hx with rfl | rfl | rfl | rfl
          · unfold N0; omega
          · unfold N0; omega
          · exact numB_small _
          · unfold N0; omega
        · have := hac x hx
          unfold N0; omega
    · unfold prN
      rw [List.length_append, List.length_append]
      simp only [List.length_cons, List.length_nil]
      omega
  have hI : ∀ l ∈ s.g.ins, (∀ x ∈ inN l, N0 x) ∧ (inN l).length ≤ 28 := fun l hl => by
    obtain ⟨k1, k2⟩ := h.w.i l hl
    refine ⟨fun x hx => ?_, ?_⟩
    · unfold inN at hx
      rcases List.mem_cons.1 hx with rfl | hx
      · unfold N0; omega
      · obtain ⟨v, hv, hx⟩ := List.mem_flatMap.1 hx
        exact (vec_small (k2 v hv)).1 x hx
    · unfold inN
      rw [List.length_cons]
      have := flat_len vecN 9 l fun v hv => (vec_small (k2 v hv)).2
      omega
  have hK : ∀ k ∈ s.g.pks, (∀ x ∈ pkN k, N0 x) ∧ (pkN k).length ≤ 13 := fun k hk => by
    obtain ⟨k1, k2, i, l, k3, k4, _⟩ := h.w.k k hk
    obtain ⟨g1, g2⟩ := vec_small k1
    have k5 := hb.k k hk
    have k6 := (List.getElem?_eq_some_iff.1 k4).1
    refine ⟨fun x hx => ?_, ?_⟩
    · unfold pkN at hx
      rcases List.mem_append.1 hx with hx | hx
      · simp only [List.mem_cons, List.not_mem_nil, or_false] at hx
        rcases hx with rfl | rfl | rfl | rfl
        · exact numB_small _
        · unfold N0; omega
        · unfold N0; omega
        · unfold N0; omega
      · exact g1 x hx
    · unfold pkN
      rw [List.length_append]
      simp only [List.length_cons, List.length_nil]
      omega
  have hD : ∀ d ∈ s.g.decs, (∀ x ∈ deN d, d.step = 0 → N0 x) ∧ (deN d).length ≤ 12 := fun d hd => by
    obtain ⟨g1, g2⟩ := vec_small (h.w.d d hd)
    obtain ⟨_, i, l, p, v, k1, k2, k3, k4, _⟩ := h.v.de d hd
    have k5 := (List.getElem?_eq_some_iff.1 k2).1
    have k6 := (List.getElem?_eq_some_iff.1 k4).1
    have k7 := (h.w.i l (List.mem_of_getElem? k2)).1
    refine ⟨fun x hx hs => ?_, ?_⟩
    · unfold deN at hx
      rcases List.mem_append.1 hx with hx | hx
      · simp only [List.mem_cons, List.not_mem_nil, or_false] at hx
        rcases hx with rfl | rfl | rfl
        · unfold N0; omega
        · unfold N0; omega
        · unfold N0; omega
      · exact g1 x hx
    · unfold deN
      rw [List.length_append]
      simp only [List.length_cons, List.length_nil]
      omega
  have hN : ∀ x ∈ s.g.nxt, N0 x := fun x hx => by
    obtain ⟨i, hi⟩ := List.mem_iff_getElem?.1 hx
    have := h.w.x i x hi
    unfold N0; omega
  refine ⟨fun x hx => ?_, ?_⟩
  · unfold keyN at hx
    rcases List.mem_append.1 hx with hx | hx
    · simp only [List.mem_cons, List.not_mem_nil, or_false] at hx
      rcases hx with rfl | rfl | rfl | rfl | rfl | rfl | rfl | rfl | rfl <;> omega
    rcases List.mem_append.1 hx with hx | hx
    · obtain ⟨v, hv, hx⟩ := List.mem_flatMap.1 hx
      exact (hA v hv).1 x hx
    rcases List.mem_append.1 hx with hx | hx
    · obtain ⟨v, hv, hx⟩ := List.mem_flatMap.1 hx
      exact (hP v hv).1 x hx
    rcases List.mem_append.1 hx with hx | hx
    · obtain ⟨v, hv, hx⟩ := List.mem_flatMap.1 hx
      exact (hI v hv).1 x hx
    rcases List.mem_append.1 hx with hx | hx
    · exact hN x hx
    rcases List.mem_append.1 hx with hx | hx
    · obtain ⟨v, hv, hx⟩ := List.mem_flatMap.1 hx
      exact (hK v hv).1 x hx
    · obtain ⟨v, hv, hx⟩ := List.mem_flatMap.1 hx
      exact (hD v hv).1 x hx (hds v hv)
  · have l1 := flat_len vecN 9 s.g.accs fun v hv => (hA v hv).2
    have l2 := flat_len prN 25 s.g.props fun v hv => (hP v hv).2
    have l3 := flat_len inN 28 s.g.ins fun v hv => (hI v hv).2
    have l4 := flat_len pkN 13 s.g.pks fun v hv => (hK v hv).2
    have l5 := flat_len deN 12 s.g.decs fun v hv => (hD v hv).2
    unfold keyN
    simp only [List.length_append, List.length_cons, List.length_nil]
    omega
/-- What holds of a state after k steps; am0: how often the program lets acceptors forget. -/
structure JX (ins : List (List V2)) (m : Nat) (am0 : Int) (k : Nat) (s : XpS) : Prop where
  x : XInv ins (allIns ins) m (100 + 14 * k) s.g
  b : XB s.g
  lo : 0 ≤ s.lo ∧ s.lo ≤ 2
  am : 0 ≤ s.am ∧ s.am ≤ 2
  c : am0 = 0 → s.am = 0 ∧ ∃ H, InvC H [] s.g
theorem JX.can {ins : List (List V2)} {m k : Nat} {am0 : Int} {s : XpS} (h : JX ins m am0 k s) : JX ins m am0 k (canX s) := ⟨can_X h.x, can_B h.b, h.lo, h.am, fun ha => by
  obtain ⟨h0, H, hH⟩ := h.c ha
  exact ⟨h0, H, can_C hH⟩⟩
theorem JX.init {ins : List (List V2)} {m : Nat} (h0 : PIns ins m) {lo am : Int} (hlo : 0 ≤ lo ∧ lo ≤ 2) (ham : 0 ≤ am ∧ am ≤ 2) : JX ins m am 0 ⟨newG m ins, lo, am⟩ :=
  ⟨new_X h0.x, new_B fun l hl v hv => ((h0.two l hl).2 v hv).1, hlo, ham, fun h => ⟨h, _, new_C m ins⟩⟩
theorem JX.perf {ins : List (List V2)} {m k : Nat} {am0 : Int} (h0 : PIns ins m) {s : XpS} (h : JX ins m am0 k s) {a : ActP} (ha : a ∈ actsX s) : JX ins m am0 (k + 1) (perfX s a) := by
  have hc := perf_case ha
  have hb : XB (perfX s a).g ∧ (0 ≤ (perfX s a).lo ∧ (perfX s a).lo ≤ 2) ∧ (0 ≤ (perfX s a).am ∧ (perfX s a).am ≤ 2) ∧ (am0 = 0 → (perfX s a).am = 0 ∧ ∃ H, InvC H [] (perfX s a).g) ∧ XInv ins (allIns ins) m (100 + 14 * k + 14) (perfX s a).g := by
    have hlo := h.lo
    have ham := h.am
    generalize perfX s a = t at hc
    cases hc with
    | del i hi ha2 =>
      have hk : s.g.pks[i]? = some s.g.pks[i] := List.getElem?_eq_getElem hi
      have c := deliv_case h.x.w hk
      refine ⟨case_B h.x.w h.b hk c, hlo, ham, fun ha0 => ?_, deliv_X h0.x h.x hi⟩
      obtain ⟨h1, H, hH⟩ := h.c ha0
      exact ⟨h1, case_C h.x.w hH hk c⟩
    | lose i hi hl ha2 =>
      refine ⟨lose_B h.b i, ⟨by show 0 ≤ s.lo - 1; omega, by show s.lo - 1 ≤ 2; omega⟩, ham, fun ha0 => ?_, (lose_X h.x hi).ow (by omega)⟩
      obtain ⟨h1, H, hH⟩ := h.c ha0
      exact ⟨h1, H, lose_C hH i⟩
    | forg i hi hl ha2 =>
      refine ⟨forg_B h.b i, hlo, ⟨by show 0 ≤ s.am - 1; omega, by show s.am - 1 ≤ 2; omega⟩, fun ha0 => ?_, (forg_X h0.x h.x i).ow (by omega)⟩
      obtain ⟨h1, H, hH⟩ := h.c ha0
      omega
  exact ⟨hb.2.2.2.2.ow (by omega), hb.1, hb.2.1, hb.2.2.1, hb.2.2.2.1⟩
theorem JX.ok {ins : List (List V2)} {m k : Nat} {am0 : Int} (h0 : PIns ins m) (hk : k ≤ 5000) {s : XpS} (h : JX ins m am0 k s) : XOk s := by
  have hp := h.x.pks h0.x
  refine ⟨⟨_, 100 + 14 * k, by omega, h.x.w⟩, by omega, by have := h.lo; omega, by have := h.am; omega, ?_⟩
  have hc := h.can
  exact hc.x.small h0.x hc.b hc.lo hc.am rfl fun d hd => by
    obtain ⟨e, he, rfl⟩ := List.mem_map.1 hd
    rfl
theorem JX.safe {ins : List (List V2)} {m k : Nat} {s : XpS} (h : JX ins m 0 k s) : safeG s.g = true := by
  obtain ⟨_, H, hH⟩ := h.c rfl
  refine safe_of h.x.w ?_ fun d hd e he => invC_chain hH hd he
  rw [h.x.i]
  exact h.x.v
theorem good_of {ins : List (List V2)} {m : Nat} (h0 : PIns ins m) {lo am : Int} (hlo : 0 ≤ lo ∧ lo ≤ 2) (ham : 0 ≤ am ∧ am ≤ 2) : XGood (fun k s => JX ins m am k s ∧ canX s = s) (canX ⟨newG m ins, lo, am⟩) :=
  ⟨⟨(JX.init h0 hlo ham).can, canX_idem _⟩, fun k s a h ha => ⟨(h.1.perf h0 ha).can, canX_idem _⟩, fun k s hk h => ⟨h.1.ok h0 (by omega), h.2, fun a ha => (h.1.perf h0 ha).ok h0 (by omega)⟩⟩
theorem valGo_good : ∀ (v : V2) (p : Option Int), (∀ e ∈ v, Good e) → Srt v → (∀ q, p = some q → ∀ e ∈ v, q < e.1) → valGo p v = 0
  | [], _, _, _, _ => rfl
  | e :: v, p, hg, hs, hp => by
    have h1 := hg e (by simp)
    unfold Good at h1
    unfold Srt at hs
    rw [List.pairwise_cons] at hs
    rw [valGo, if_neg (by omega), if_neg]
    · exact valGo_good v (some e.1) (fun x hx => hg x (by simp [hx])) hs.2 fun q hq x hx => by
        cases hq
        exact hs.1 x hx
    · cases p with
      | none => simp
      | some q =>
        have := hp q rfl e (by simp)
        simp
        omega
theorem valI_ok {v : V2} (h : Val v) : valI v = 0 := valGo_good v none h.1 h.2 fun q hq => by cases hq
theorem valIns_ok {ins : List (List V2)} (h : ∀ l ∈ ins, l.length ≤ 2 ∧ ∀ v ∈ l, V4 v) : valIns ins = 0 := by
  have h1 : ∀ (l : List V2), (∀ v ∈ l, V4 v) → valVs l = 0 := fun l => by
    induction l with
    | nil => intro _; rfl
    | cons v l ih =>
      intro hv
      have h2 : valI v = 0 := valI_ok (hv v (by simp)).val
      rw [valVs, if_neg (by simpa using h2)]
      exact ih fun w hw => hv w (by simp [hw])
  induction ins with
  | nil => rfl
  | cons l ins ih =>
    obtain ⟨k1, k2⟩ := h l (by simp)
    rw [valIns, if_neg (by omega), if_neg (by rw [h1 l k2]; simp)]
    exact ih fun q hq => h q (by simp [hq])
theorem valP_ok {ins : List (List V2)} {m : Nat} (h0 : PIns ins m) {lo am : Int} (hlo : 0 ≤ lo ∧ lo ≤ 2) (ham : 0 ≤ am ∧ am ≤ 2) : valP m lo am ins = 0 := by
  have := h0.m
  have := h0.len
  unfold valP
  rw [if_neg (by omega), if_neg (by omega)]
  exact valIns_ok fun l hl => ⟨(h0.two l hl).1, fun v hv => ((h0.two l hl).2 v hv).1⟩
theorem safe_init (m : Nat) (ins : List (List V2)) (lo am : Int) : safeG (canX ⟨newG m ins, lo, am⟩).g = true := safe_nil (by
  show ((newG m ins).decs.map _) = []
  rw [(new_is m ins).decs]
  rfl)
/-- The search, for a small program. -/
theorem explore_ok {ins : List (List V2)} {m : Nat} (h0 : PIns ins m) {lo am : Int} (hlo : 0 ≤ lo ∧ lo ≤ 2) (ham : 0 ≤ am ∧ am ≤ 2) (limit : Int) : Pure Tryd.prog 11 [.agg (encPg m lo am ins), .c (cI limit)] (repO (exploreX (limOf limit) (canX ⟨newG m ins, lo, am⟩))) := by
  have hm := h0.m
  exact explore_pure (by omega) h0.ok lo am limit (valP_ok h0 hlo ham) (good_of h0 hlo ham) (safe_init m ins lo am) ((JX.init h0 hlo ham).ok h0 (by omega))
end Go.Proofs.YtphlhadgcfndhaaDoor.Abs
end
section
namespace Go.Proofs.YtphlhadgcfndhaaDoor.Abs
open Go Go.RowKit
set_option linter.unusedVariables false
set_option linter.unusedSimpArgs false

def indexI (x k : Int) : Int := if k < 1 then 0 else (IntKind.i64.wrap (x.tmod k + k)).tmod k
theorem index_pure (x k : Int) : Pure Tryd.prog 18 [.c (.sc (.int .i64 x)), .c (.sc (.int .i64 k))] (.c (.sc (.int .i64 (indexI x k)))) := by
  refine pure_of teOk Tryd.func18 (by kernel_rfl) (c := _) rfl (N := 14) rfl (rs := [Go.ResultVar.tmp 4]) rfl (by simp) fun base A w0 hA => ?_
  refine AW.st teOk [] (by simp [-Option.some.injEq] <;> rfl) trivial ?_
  refine AW.seq ?_
  refine AW.st teOk [] (by simp [-Option.some.injEq] <;> rfl) trivial ?_
  refine AW.iff (decide (k < 1)) (by simp) (fun h => ?_) (fun h => ?_)
  · refine AW.st teOk [] (by simp [-Option.some.injEq] <;> rfl) trivial ?_
    refine AW.ret ⟨.inr rfl, _, Weak.refl _, ?_⟩
    simp
    simp only [decide_eq_true_eq] at h
    rw [indexI, if_pos h]
  · simp only [decide_eq_false_iff_not] at h
    refine AW.skip ?_
    refine AW.st teOk [] (by simp [-Option.some.injEq] <;> rfl) ?_ ?_
    · have : k ≠ 0 := by omega
      simp [this]
    refine AW.ret ⟨.inr rfl, _, Weak.refl _, ?_⟩
    simp
    rw [indexI, if_neg h]
def digX (b x : Int) : Nat → Int
  | 0 => x
  | j + 1 => IntKind.i64.wrap ((digX b x j).tdiv b)
def digitI (x b : Int) (i : Nat) : Int := (digX b (indexI x 1099511627776) i).tmod b
theorem digit_pure (x b : Int) (i : Nat) (hb : b ≠ 0) (hi : i < 1000) : Pure Tryd.prog 28 [.c (.sc (.int .i64 x)), .c (.sc (.int .i64 b)), .c (.sc (.int .i64 i))] (.c (.sc (.int .i64 (digitI x b i)))) := by
  refine pure_of teOk Tryd.func28 (by kernel_rfl) (c := _) rfl (N := 22) rfl (rs := [Go.ResultVar.tmp 6]) rfl (by simp) fun base A w0 hA => ?_
  refine AW.st teOk [] (by simp [-Option.some.injEq] <;> rfl) trivial ?_
  refine AW.st teOk [.fz (.c (.sc (.int .i64 (indexI x 1099511627776))))] (by simp [-Option.some.injEq] <;> rfl) ?_ ?_
  · exact index_pure _ _
  refine AW.seq ?_
  refine AW.st teOk [] (by simp [-Option.some.injEq] <;> rfl) trivial ?_
  refine AW.block ?_
  refine AW.loop (fun m s => ∃ j : Nat, j ≤ i ∧ m = i - j ∧ s = ⟨[(0, .c (.sc (.int .i64 x))), (1, .c (.sc (.int .i64 b))), (2, .c (.sc (.int .i64 i))), (7, .c (.sc (.int .i64 (digX b (indexI x 1099511627776) j)))), (8, .c (.sc (.int .i64 j)))], [], 0⟩) i (Weak.norm hA [0, 1, 2, 7, 8] [] [] 0 _ rfl (by simp) (by simp)) ⟨0, Nat.zero_le _, rfl, ?_⟩ ?_
  · simp [digX]
  rintro m s ⟨j, hj, rfl, rfl⟩
  refine AW.seq ?_
  refine AW.st teOk [] (by simp [-Option.some.injEq] <;> rfl) trivial ?_
  refine AW.iff (decide (j < i)) (by simp) (fun h => ?_) (fun h => ?_)
  · simp only [decide_eq_true_eq] at h
    refine AW.skip ?_
    refine AW.seq (AW.block ?_)
    refine AW.text teOk (ans := []) (by simp [-Option.some.injEq]; rfl) (by simp [hb]) ?_
    refine AW.text teOk (ans := []) (by simp [-Option.some.injEq]; rfl) (by simp) ?_
    refine ⟨_, _, Weak.norm hA [0, 1, 2, 7, 8] [] [] 0 _ rfl (by simp) (by simp), ?_, j + 1, h, rfl, ?_⟩
    · omega
    · simp [digX]
      exact wrap_s j (by omega)
  · simp only [decide_eq_false_iff_not] at h
    have hji : j = i := by omega
    subst hji
    refine AW.exit (x_then (x_then (blockA_exit ?_)))
    refine AW.st teOk [] (by simp [-Option.some.injEq] <;> rfl) ?_ ?_
    · simp [hb]
    refine AW.ret ⟨.inr rfl, _, Weak.refl _, ?_⟩
    simp
    rw [digitI]
end Go.Proofs.YtphlhadgcfndhaaDoor.Abs
end
section
namespace Go.Proofs.YtphlhadgcfndhaaDoor.Abs
open Go Go.RowKit
set_option linter.unusedVariables false
set_option linter.unusedSimpArgs false
set_option maxHeartbeats 4000000
/-- An empty literal in a slot: an object without elements. -/
theorem Weak.emp {A : Old} (t k : Nat) (s : St) (ht : look t s.τ = some (.c (.row k true []))) : Weak A s ⟨putT t (.c (.ref s.fr 0 0)) s.τ, putA s.fr ⟨k, []⟩ s.σ, s.fr + 1⟩ := fun base w0 n β a w I => by
  obtain ⟨I', hle, hok, hfr⟩ := virt_inv I k
  refine ⟨_, I', I.defers, I.size, fun u x hx => ?_, hfr, I.ext.step hle fun x hx => ⟨hok x hx, rfl⟩⟩
  have hx' : look u (putT t (.c (.ref s.fr 0 0)) s.τ) = some x := hx
  rw [look_putT] at hx'
  split at hx'
  · rename_i e
    cases hx'
    subst e
    obtain ⟨y, hy, hr⟩ := I.tmps _ _ ht
    cases hr with
    | c hr =>
    cases hr with
    | fz hr =>
    cases hr with
    | row vs h1 h2 h3 h4 h5 h6 =>
    have hc := h2 rfl
    subst hc
    exact ⟨_, hy, .c (.refv (updB_self _ _ _))⟩
  · obtain ⟨y, hy, hr⟩ := I.tmps u x hx'
    exact ⟨y, hy, hr.mono (fun b hb => ⟨hok b hb, rfl⟩) hle⟩
theorem index_lt (x : Int) {k : Int} (hk : 0 < k) (hk2 : k < 4000000000000000000) : 0 ≤ indexI x k ∧ indexI x k < k := by
  unfold indexI
  rw [if_neg (by omega)]
  have h1 := Int.tmod_lt_of_pos x hk
  have h2 := Int.lt_tmod_of_pos x hk
  have hw : IntKind.i64.wrap (x.tmod k + k) = x.tmod k + k := by rw [IntKind.wrap_i64]; omega
  rw [hw]
  exact ⟨Int.tmod_nonneg _ (by omega), Int.tmod_lt_of_pos _ (by omega)⟩
theorem digX_nn {b x : Int} (hb : 1 ≤ b) (hx : 0 ≤ x ∧ x < 1099511627776) : ∀ j, 0 ≤ digX b x j ∧ digX b x j < 1099511627776
  | 0 => hx
  | j + 1 => by
    obtain ⟨h1, h2⟩ := digX_nn hb hx j
    have h3 : 0 ≤ (digX b x j).tdiv b := Int.tdiv_nonneg h1 (by omega)
    have h4 : (digX b x j).tdiv b ≤ digX b x j := by
      rw [Int.tdiv_eq_ediv_of_nonneg h1]
      exact Int.ediv_le_self _ h1
    have h5 : IntKind.i64.wrap ((digX b x j).tdiv b) = (digX b x j).tdiv b := by rw [IntKind.wrap_i64]; omega
    unfold digX
    rw [h5]
    omega
theorem digit_lt (x : Int) {b : Int} (hb : 1 ≤ b) (i : Nat) : 0 ≤ digitI x b i ∧ digitI x b i < b := by
  unfold digitI
  have h := digX_nn hb (index_lt x (k := 1099511627776) (by omega) (by omega)) i
  exact ⟨Int.tmod_nonneg _ h.1, Int.tmod_lt_of_pos _ (by omega)⟩
def atI (l : List Int) (i : Int) : Int := (l[(indexI i l.length).toNat]?).getD 0
theorem at_pure (l : List Int) (i : Int) (hl : l.length < 4000000000000000000) : Pure Tryd.prog 19 [.c (encIs l), .c (cI i)] (.c (cI (atI l i))) := by
  unfold atI
  refine pure_of teOk Tryd.func19 (by kernel_rfl) (c := _) rfl (N := 15) rfl (rs := [Go.ResultVar.tmp 4]) rfl (by simp) fun base A w0 hA => ?_
  refine AW.st teOk [] (by simp [-Option.some.injEq] <;> rfl) trivial ?_
  refine AW.seq ?_
  refine AW.st teOk [] (by simp [-Option.some.injEq] <;> rfl) trivial ?_
  by_cases h0 : l.length = 0
  · refine AW.iff true (by simp [h0]) (fun _ => ?_) (fun h => by cases h)
    refine AW.st teOk [] (by simp [-Option.some.injEq] <;> rfl) trivial ?_
    refine AW.ret ⟨.inr rfl, _, Weak.refl _, ?_⟩
    have : l = [] := List.eq_nil_of_length_eq_zero h0
    subst this
    simp
  · refine AW.iff false (by simp; intro e; exact h0 (by rw [e]; rfl)) (fun h => by cases h) (fun _ => AW.skip ?_)
    have hi := index_lt i (k := l.length) (by omega) (by omega)
    have hip := index_pure i l.length
    obtain ⟨j, hj⟩ : ∃ j : Nat, indexI i l.length = j := ⟨(indexI i l.length).toNat, by omega⟩
    rw [hj] at hip hi ⊢
    obtain ⟨x, hx⟩ : ∃ x, l[j]? = some x := ⟨_, List.getElem?_eq_getElem (by omega)⟩
    rw [Int.toNat_natCast, hx]
    refine AW.st teOk [.fz (.c (cI j))] (by simp [hx, -Option.some.injEq] <;> rfl) ?_ ?_
    · exact ⟨hip, by omega⟩
    refine AW.ret ⟨.inr rfl, _, Weak.refl _, ?_⟩
    simp
theorem index_pure' (x k : Int) : Pure Tryd.prog 18 [.c (cI x), .c (cI k)] (.c (cI (indexI x k))) := index_pure x k
theorem digit_pure' (x b : Int) (i : Nat) (hb : b ≠ 0) (hi : i < 1000) : Pure Tryd.prog 28 [.c (cI x), .c (cI b), .c (cI i)] (.c (cI (digitI x b i))) := digit_pure x b i hb hi
def sizeN (l : List Int) : Nat := (1 + digitI (atI l 0) 5 3).toNat
theorem size_is (l : List Int) : (sizeN l : Int) = 1 + digitI (atI l 0) 5 3 ∧ 1 ≤ sizeN l ∧ sizeN l ≤ 5 := by
  have := digit_lt (atI l 0) (b := 5) (by omega) 3
  unfold sizeN
  omega
def vecTo (l : List Int) (i k : Nat) : Nat → V2
  | 0 => []
  | a + 1 => if digitI (atI l (5 + 3 * i + k)) 4 a > 0 then vecTo l i k a ++ [((a : Int) + 1, digitI (atI l (5 + 3 * i + k)) 4 a)] else vecTo l i k a
def insTo (l : List Int) (i : Nat) : Nat → List V2
  | 0 => []
  | k + 1 => insTo l i k ++ [vecTo l i k 4]
def manyN (l : List Int) (i : Nat) : Nat := (digitI (atI l (1 + i)) 4 0).toNat
def allTo (l : List Int) : Nat → List (List V2)
  | 0 => []
  | i + 1 => allTo l i ++ [insTo l i (manyN l i)]
def propN (l : List Int) : Nat := (1 + digitI (atI l 0) 4 0).toNat
def inputsI (l : List Int) : List (List V2) := allTo l (propN l)
theorem vecTo_ok (l : List Int) (i k : Nat) : ∀ a : Nat, a ≤ 4 → V4 (vecTo l i k a) ∧ (∀ e ∈ vecTo l i k a, e.1 ≤ a) ∧ (vecTo l i k a).length ≤ a
  | 0, _ => ⟨V4.nil, (fun e he => by cases he), Nat.le_refl _⟩
  | a + 1, ha => by
    obtain ⟨h1, h2, h3⟩ := vecTo_ok l i k a (by omega)
    have hd := digit_lt (atI l (5 + 3 * i + k)) (b := 4) (by omega) a
    unfold vecTo
    split
    · rename_i hp
      generalize digitI (atI l (5 + 3 * i + k)) 4 a = d at *
      generalize vecTo l i k a = v at *
      have hc : ∀ x, cnt (v ++ [((a : Int) + 1, d)]) x = if x = (a : Int) + 1 then d else cnt v x := fun x => by
        clear h1 h3
        induction v with
        | nil => simp only [List.nil_append, cnt]; split <;> split <;> first | rfl | omega
        | cons e v ih =>
          have := h2 e (by simp)
          rw [List.cons_append, cnt_cons, cnt_cons, ih fun e he => h2 e (by simp [he])]
          split
          · rw [if_neg (by omega)]
          · rfl
      refine ⟨⟨⟨fun e he => ?_, ?_⟩, fun x => ?_, fun x hx => ?_⟩, fun e he => ?_, by simp; omega⟩
      · rcases List.mem_append.1 he with he | he
        · exact h1.val.1 e he
        · rw [List.mem_singleton.1 he]
          exact ⟨by show (1 : Int) ≤ a + 1; omega, by show 1 ≤ d; omega, by show d ≤ _; omega⟩
      · refine List.pairwise_append.2 ⟨h1.val.2, List.pairwise_singleton _ _, fun e he f hf => ?_⟩
        rw [List.mem_singleton.1 hf]
        have := h2 e he
        show e.1 < (a : Int) + 1
        omega
      · rw [hc]
        split
        · omega
        · exact h1.c x
      · rw [hc, if_neg (by omega)]
        exact h1.a x hx
      · rcases List.mem_append.1 he with he | he
        · have := h2 e he
          omega
        · rw [List.mem_singleton.1 he]
          show (a : Int) + 1 ≤ _
          omega
    · exact ⟨h1, fun e he => by have := h2 e he; omega, by omega⟩
theorem insTo_ok (l : List Int) (i : Nat) : ∀ k : Nat, (insTo l i k).length = k ∧ ∀ v ∈ insTo l i k, V4 v
  | 0 => ⟨rfl, (fun v hv => by cases hv)⟩
  | k + 1 => by
    obtain ⟨h1, h2⟩ := insTo_ok l i k
    unfold insTo
    refine ⟨by simp [h1], fun v hv => ?_⟩
    rcases List.mem_append.1 hv with hv | hv
    · exact h2 v hv
    · rw [List.mem_singleton.1 hv]
      exact (vecTo_ok l i k 4 (by omega)).1
theorem many_is (l : List Int) (i : Nat) : (manyN l i : Int) = digitI (atI l (1 + i)) 4 0 ∧ manyN l i ≤ 3 := by
  have := digit_lt (atI l (1 + i)) (b := 4) (by omega) 0
  unfold manyN
  omega
theorem prop_is (l : List Int) : (propN l : Int) = 1 + digitI (atI l 0) 4 0 ∧ propN l ≤ 4 ∧ 1 ≤ propN l := by
  have := digit_lt (atI l 0) (b := 4) (by omega) 0
  unfold propN
  omega
theorem allTo_ok (l : List Int) : ∀ i : Nat, (allTo l i).length = i ∧ ∀ x ∈ allTo l i, x.length ≤ 3 ∧ ∀ v ∈ x, V4 v
  | 0 => ⟨rfl, (fun v hv => by cases hv)⟩
  | i + 1 => by
    obtain ⟨h1, h2⟩ := allTo_ok l i
    unfold allTo
    refine ⟨by simp [h1], fun v hv => ?_⟩
    rcases List.mem_append.1 hv with hv | hv
    · exact h2 v hv
    · rw [List.mem_singleton.1 hv]
      obtain ⟨h3, h4⟩ := insTo_ok l i (manyN l i)
      have := (many_is l i).2
      exact ⟨by omega, h4⟩
theorem inputs_ok (l : List Int) : InsOk (inputsI l) := ⟨by have := (allTo_ok l (propN l)).1; have := (prop_is l).2.1; unfold inputsI; omega, (allTo_ok l (propN l)).2⟩
def awI : List (List V2) := [[[(1, 1)]], [[(2, 1)]]]
def awI1 : List (List V2) := [[[(1, 1)]]]
def awG : GrS := drainS 700 (newG 3 awI)
theorem awG_is : awG.decs.length = 2 ∧ awG.pks.length = 0 ∧ awG.accs.length = 3 := by decide +kernel
theorem aw_ok : InsOk awI := by
  have one : ∀ a : Int, 1 ≤ a ∧ a ≤ 4 → V4 [(a, 1)] := fun a ha => ⟨⟨fun e he => by rw [List.mem_singleton.1 he]; exact ⟨by show 1 ≤ a; omega, by show (1 : Int) ≤ 1; omega, by show (1 : Int) ≤ _; omega⟩, List.pairwise_singleton _ _⟩, fun x => by simp only [cnt]; split <;> omega, fun x hx => by simp only [cnt]; rw [if_neg (by omega)]; omega⟩
  refine ⟨by decide, fun l hl => ?_⟩
  unfold awI at hl
  simp only [List.mem_cons, List.not_mem_nil, or_false] at hl
  rcases hl with rfl | rfl
  · exact ⟨by decide, fun v hv => by rw [List.mem_singleton.1 hv]; exact one 1 (by omega)⟩
  · exact ⟨by decide, fun v hv => by rw [List.mem_singleton.1 hv]; exact one 2 (by omega)⟩
theorem aw_ok1 : InsOk awI1 := ⟨by decide, fun l hl => aw_ok.all l (by unfold awI1 at hl; rw [List.mem_singleton.1 hl]; simp [awI])⟩
theorem gnew_pure (n : Nat) (hn : 1 ≤ n ∧ n ≤ 12) {ins : List (List V2)} (hi : InsOk ins) : Pure Tryd.prog 29 [.c (cI n), .c (.row 1 false (ins.map encIn))] (.agg (encGr (newG n ins))) := (gnew_new n hn ins hi.len hi.all).group
theorem lit_v (a : Int) : LeC (.row 2 true [[cI a, cI 1]]) (encV [(a, 1)]) := LeC.rows rfl (one_le (.cons (.refl _) (.cons (.refl _) .nil)))
theorem lit_l (a : Int) : LeC (.row 1 true [[.row 2 true [[cI a, cI 1]]]]) (encVs [[(a, 1)]]) := LeC.rows rfl (one_le (.cons (lit_v a) .nil))
theorem lit_2 : LeC (.row 1 true [[.row 1 true [[.row 2 true [[cI 1, cI 1]]]]], [.row 1 true [[.row 2 true [[cI 2, cI 1]]]]]]) (.row 1 false (awI.map encIn)) := LeC.rows rfl fun i e e' h h' => by
  match i, h, h' with
  | 0, h, h' => cases h; cases h'; exact .cons (lit_l 1) .nil
  | 1, h, h' => cases h; cases h'; exact .cons (lit_l 2) .nil
theorem lit_1 : LeC (.row 1 true [[.row 1 true [[.row 2 true [[cI 1, cI 1]]]]]]) (.row 1 false (awI1.map encIn)) := LeC.rows rfl (one_le (.cons (lit_l 1) .nil))
theorem aw_n2 : Pure Tryd.prog 29 [.c (cI 3), .c (.row 1 true [[.row 1 true [[.row 2 true [[cI 1, cI 1]]]]], [.row 1 true [[.row 2 true [[cI 2, cI 1]]]]]])] (.agg (encGr (newG 3 awI))) :=
  (gnew_pure 3 (by omega) aw_ok).le (.cons (.refl _) (.cons (.c lit_2) .nil)) (.refl _)
theorem aw_n1 : Pure Tryd.prog 29 [.c (cI 3), .c (.row 1 true [[.row 1 true [[.row 2 true [[cI 1, cI 1]]]]]])] (.agg (encGr (newG 3 awI1))) :=
  (gnew_pure 3 (by omega) aw_ok1).le (.cons (.refl _) (.cons (.c lit_1) .nil)) (.refl _)
def awL : GrS := loseS (newG 3 awI1) 0
theorem awL_is : awL.pks.length = 2 := by decide +kernel
def awA : V2 := ((awG.decs[0]?).map (·.v)).getD []
def awB : V2 := ((awG.decs[1]?).map (·.v)).getD []
theorem awAB : (leI awA awB || leI awB awA) = true ∧ awA.length < 100 ∧ awB.length < 100 ∧ (rjoinI awA awB).length = 2 ∧ (awB.all fun e => decide (1 ≤ e.1 ∧ 1 ≤ e.2 ∧ e.2 ≤ 1000000)) = true := by decide +kernel
theorem aw_dec : ∃ a b r, awG.decs = a :: b :: r ∧ a.v = awA ∧ b.v = awB := by
  have h := awG_is.1
  unfold awA awB
  match awG.decs, h with
  | [a, b], _ => exact ⟨a, b, [], rfl, rfl, rfl⟩
end Go.Proofs.YtphlhadgcfndhaaDoor.Abs
end
section
namespace Go.Proofs.YtphlhadgcfndhaaDoor.Abs
open Go Go.RowKit
set_option linter.unusedVariables false
set_option linter.unusedSimpArgs false
set_option maxHeartbeats 4000000
def awE1 : ExO := exploreX 4000 (canX ⟨newG 1 awI1, 0, 0⟩)
def awE2 : ExO := exploreX 4000 (canX ⟨newG 1 awI, 0, 1⟩)
theorem awE1_is : ∃ e, awE1 = .go e ∧ e.fds.length = 3 ∧ e.fin = 1 ∧ e.steps = 2 ∧ e.dep = 2 := by
  have h : (match awE1 with
    | .go e => decide (e.fds.length = 3) && (decide (e.fin = 1) && (decide (e.steps = 2) && decide (e.dep = 2)))
    | _ => false) = true := by decide +kernel
  generalize awE1 = x at h
  cases x with
  | go e =>
    simp only [Bool.and_eq_true, decide_eq_true_eq] at h
    exact ⟨e, rfl, h⟩
  | long => cases h
  | bad e => cases h
theorem awE2_is : ∃ e, awE2 = .bad e ∧ 0 < (schedX e.fds (e.fds.length - 1) (e.fds.length - 1)).length := by
  have h : (match awE2 with
    | .bad e => decide (0 < (schedX e.fds (e.fds.length - 1) (e.fds.length - 1)).length)
    | _ => false) = true := by decide +kernel
  generalize awE2 = x at h
  cases x with
  | go e => cases h
  | long => cases h
  | bad e => exact ⟨e, rfl, of_decide_eq_true h⟩
theorem sub_one (a : Int) (h : a = 1 ∨ a = 2) : Sub [(a, 1)] topV := fun x => by
  unfold topV cnt cnt cnt
  rcases h with rfl | rfl
  · by_cases h1 : (1 : Int) = x
    · subst h1; decide
    · simp only [h1, if_false]
      split <;> omega
  · by_cases h1 : (2 : Int) = x
    · subst h1; decide
    · simp only [h1, if_false]
      split <;> omega
theorem aw_pins : PIns awI 1 := ⟨by omega, by decide, fun l hl => by
  have h4 := (aw_ok.all l hl).2
  unfold awI at hl
  rcases List.mem_cons.1 hl with rfl | hl
  · exact ⟨by decide, fun v hv => ⟨h4 v hv, by rw [List.mem_singleton.1 hv]; exact sub_one 1 (.inl rfl)⟩⟩
  · rw [List.mem_singleton.1 hl] at h4 ⊢
    exact ⟨by decide, fun v hv => ⟨h4 v hv, by rw [List.mem_singleton.1 hv]; exact sub_one 2 (.inr rfl)⟩⟩⟩
theorem aw_pins1 : PIns awI1 1 := ⟨by omega, by decide, fun l hl => aw_pins.two l (by
  unfold awI1 at hl
  rw [List.mem_singleton.1 hl]
  simp [awI])⟩
theorem xvec_pure (a : Int) : Pure Tryd.prog 22 [.c (cI a)] (.c (.row 2 true [[cI a, cI 1]])) := by
  refine pure_of teOk Tryd.func22 (by kernel_rfl) (c := _) rfl (N := 6) rfl (rs := [Go.ResultVar.tmp 2]) rfl (by simp) fun base A w0 hA => ?_
  refine AW.st teOk [] (by simp [-Option.some.injEq] <;> rfl) trivial ?_
  refine AW.st teOk [] (by simp [-Option.some.injEq] <;> rfl) trivial ?_
  refine AW.ret ⟨.inr rfl, _, Weak.refl _, ?_⟩
  simp
theorem aw_e1 : Pure Tryd.prog 11 [.agg [cI 1, .row 1 true [[.row 1 true [[.row 2 true [[cI 1, cI 1]]]]]], cI 0, cI 0], .c (cI 0)] (repO awE1) :=
  (explore_ok aw_pins1 (lo := 0) (am := 0) (by omega) (by omega) 0).le (.cons (.aggs (.cons (.refl _) (.cons lit_1 (.cons (.refl _) (.cons (.refl _) .nil))))) (.cons (.refl _) .nil)) (.refl _)
theorem aw_e2 : Pure Tryd.prog 11 [.agg [cI 1, .row 1 true [[.row 1 true [[.row 2 true [[cI 1, cI 1]]]]], [.row 1 true [[.row 2 true [[cI 2, cI 1]]]]]], cI 0, cI 1], .c (cI 0)] (repO awE2) :=
  (explore_ok aw_pins (lo := 0) (am := 1) (by omega) (by omega) 0).le (.cons (.aggs (.cons (.refl _) (.cons lit_2 (.cons (.refl _) (.cons (.refl _) .nil))))) (.cons (.refl _) .nil)) (.refl _)
theorem awake40_pure : Pure Tryd.prog 7 [] (.c (cB true)) := by
  obtain ⟨e1, h1, h2, h3, h4, h5⟩ := awE1_is
  obtain ⟨e2, g1, g2⟩ := awE2_is
  have q1 := aw_e1
  have q2 := aw_e2
  rw [h1] at q1
  rw [g1] at q2
  unfold repO at q1 q2
  dsimp only at q1 q2
  rw [h2, h3, h4, h5] at q1
  obtain ⟨L, hL⟩ : ∃ L, L = schedX e2.fds (e2.fds.length - 1) (e2.fds.length - 1) := ⟨_, rfl⟩
  rw [← hL] at g2 q2
  generalize e2.fds.length = n1 at *
  generalize e2.steps = n2 at *
  generalize e2.fin = n3 at *
  generalize e2.dep = n4 at *
  clear hL
  refine pure_of teOk Tryd.func7 (by kernel_rfl) (c := _) rfl (N := 70) rfl (rs := [Go.ResultVar.tmp 0]) rfl (by simp) fun base A w0 hA => ?_
  refine AW.st teOk [] (by simp [-Option.some.injEq] <;> rfl) trivial ?_
  refine AW.st teOk [.fz (.c (.row 2 true [[cI 1, cI 1]])), .fz (.tup [.agg (repA 3 2 1 2 true nilC), .c (cI 0)])] (by simp [-Option.some.injEq] <;> rfl) ?_ ?_
  · simpa using ⟨xvec_pure 1, q1⟩
  refine AW.st teOk [.fz (.c (.row 2 true [[cI 1, cI 1]])), .fz (.c (.row 2 true [[cI 2, cI 1]])), .fz (.tup [.agg (repA n1 n2 n3 n4 false (.row 2 false (L.map encA))), .c (cI 0)])] (by simp [-Option.some.injEq] <;> rfl) ?_ ?_
  · simpa using ⟨xvec_pure 1, xvec_pure 2, q2⟩
  refine AW.st teOk [] (by simp [g2, -Option.some.injEq] <;> rfl) trivial ?_
  refine AW.ret ⟨.inr rfl, _, Weak.refl _, ?_⟩
  simp
end Go.Proofs.YtphlhadgcfndhaaDoor.Abs
end
