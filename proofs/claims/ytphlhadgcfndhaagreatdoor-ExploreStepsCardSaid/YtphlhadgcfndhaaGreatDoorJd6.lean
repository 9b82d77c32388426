/- Joined for the claim: WXpl WXkey WXnum WDrC WXnum2 -/
import Derived.Test.YtphlhadgcfndhaaGreatDoorJd5
import Derived.Test.YtphlhadgcfndhaaGreatDoorJd3
import Derived.Test.YtphlhadgcfndhaaGreatDoorAbsS
section
namespace Go.Proofs.YtphlhadgcfndhaaGreatDoor.Abs
open Go Go.RowKit
set_option linter.unusedVariables false
set_option linter.unusedSimpArgs false
set_option maxHeartbeats 4000000
structure XpS where
  g : GrS
  lo : Int
  am : Int
/-- The first that isn't 0. -/
def orI : List Int → Int
  | [] => 0
  | x :: l => if x ≠ 0 then x else orI l
def numB (b : Bool) : Int := if b = true then 1 else 0
def cmpE (x y : E2) : Int := orI [cmpI x.1 y.1, cmpI x.2 y.2]
def cmpV : V2 → V2 → Int
  | [], [] => 0
  | [], _ :: _ => -1
  | _ :: _, [] => 1
  | x :: a, y :: b => if cmpE x y ≠ 0 then cmpE x y else cmpV a b
def cmpP (a b : PkS) : Int := orI [cmpI (numB a.reply) (numB b.reply), cmpI a.prop b.prop, cmpI a.acc b.acc, cmpI a.round b.round, cmpV a.v b.v]
/-- A packet goes to its place among sorted ones; the last is told first. -/
def insR (x : PkS) : List PkS → List PkS
  | [] => [x]
  | y :: l => if cmpP x y < 0 then y :: insR x l else x :: y :: l
def sortR : List PkS → List PkS → List PkS
  | l, [] => l
  | l, x :: r => sortR (insR x l) r
def sortP (l : List PkS) : List PkS := (sortR [] l).reverse
def canG (g : GrS) : GrS := { g with pks := sortP g.pks, decs := g.decs.map fun d => { d with step := 0 }, steps := 0 }
def canX (s : XpS) : XpS := { s with g := canG s.g }
theorem insR_len (x : PkS) : ∀ l, (insR x l).length = l.length + 1
  | [] => rfl
  | y :: l => by
    rw [insR]
    split
    · rw [List.length_cons, insR_len x l, List.length_cons]
    · rfl
theorem insR_mem {x z : PkS} : ∀ {l}, z ∈ insR x l ↔ z = x ∨ z ∈ l
  | [] => by simp [insR]
  | y :: l => by
    rw [insR]
    split
    · rw [List.mem_cons, insR_mem, List.mem_cons]
      constructor
      · rintro (h | h | h)
        · exact .inr (.inl h)
        · exact .inl h
        · exact .inr (.inr h)
      · rintro (h | h | h)
        · exact .inr (.inl h)
        · exact .inl h
        · exact .inr (.inr h)
    · simp
theorem sortR_len : ∀ (r l : List PkS), (sortR l r).length = l.length + r.length
  | [], l => rfl
  | x :: r, l => by
    rw [sortR, sortR_len r, insR_len, List.length_cons]
    omega
theorem sortR_mem {z : PkS} : ∀ {r l : List PkS}, z ∈ sortR l r ↔ z ∈ l ∨ z ∈ r
  | [], l => by simp [sortR]
  | x :: r, l => by
    rw [sortR, sortR_mem, insR_mem, List.mem_cons]
    constructor
    · rintro ((h | h) | h)
      · exact .inr (.inl h)
      · exact .inl h
      · exact .inr (.inr h)
    · rintro (h | h | h)
      · exact .inl (.inr h)
      · exact .inl (.inl h)
      · exact .inr h
theorem sortP_len (l : List PkS) : (sortP l).length = l.length := by rw [sortP, List.length_reverse, sortR_len]; simp
theorem sortP_mem {z : PkS} {l : List PkS} : z ∈ sortP l ↔ z ∈ l := by rw [sortP, List.mem_reverse, sortR_mem]; simp
theorem sortR_app (a b l : List PkS) : sortR l (a ++ b) = sortR (sortR l a) b := by
  induction a generalizing l with
  | nil => rfl
  | cons x a ih => exact ih _
abbrev encXp (s : XpS) : List Cell := encGr s.g ++ [cI s.lo, cI s.am]
end Go.Proofs.YtphlhadgcfndhaaGreatDoor.Abs
end
section
namespace Go.Proofs.YtphlhadgcfndhaaGreatDoor.Abs
open Go Go.RowKit
set_option linter.unusedVariables false
set_option linter.unusedSimpArgs false
set_option maxHeartbeats 4000000
/-- A small number's digits, and a space. -/
def digN (n : Int) : List Int := if n < 10 then [48 + n] else [48 + n / 10, 48 + n % 10]
def strN : List Int → List Int
  | [] => []
  | n :: l => digN n ++ 32 :: strN l
theorem strN_app : ∀ a b : List Int, strN (a ++ b) = strN a ++ strN b
  | [], b => rfl
  | n :: a, b => by
    rw [List.cons_append, strN, strN_app a b, strN, List.append_assoc]
    rfl
theorem strN_inj : ∀ {l l' : List Int}, (∀ x ∈ l, 0 ≤ x ∧ x < 100) → (∀ x ∈ l', 0 ≤ x ∧ x < 100) → strN l = strN l' → l = l'
  | [], [], _, _, _ => rfl
  | [], y :: l', _, _, h => by
    rw [strN, strN] at h
    unfold digN at h
    split at h <;> cases h
  | x :: l, [], _, _, h => by
    rw [strN, strN] at h
    unfold digN at h
    split at h <;> cases h
  | x :: l, y :: l', h1, h2, h => by
    have hx := h1 x (by simp)
    have hy := h2 y (by simp)
    have ih : strN l = strN l' → l = l' := strN_inj (fun z hz => h1 z (by simp [hz])) fun z hz => h2 z (by simp [hz])
    rw [strN, strN] at h
    unfold digN at h
    split at h <;> split at h
    · simp only [List.cons_append, List.nil_append, List.cons.injEq] at h
      rw [ih h.2.2, show x = y by omega]
    · simp only [List.cons_append, List.nil_append, List.cons.injEq] at h
      omega
    · simp only [List.cons_append, List.nil_append, List.cons.injEq] at h
      omega
    · simp only [List.cons_append, List.nil_append, List.cons.injEq] at h
      rw [ih h.2.2.2, show x = y by omega]
def PI {α : Type} (f : α → List Int) : Prop := ∀ x y r r', f x ++ r = f y ++ r' → x = y ∧ r = r'
theorem pi_list {α : Type} {f : α → List Int} (hf : PI f) : ∀ {l l' : List α} {r r' : List Int}, l.length = l'.length → l.flatMap f ++ r = l'.flatMap f ++ r' → l = l' ∧ r = r'
  | [], [], r, r', _, h => ⟨rfl, h⟩
  | [], _ :: _, _, _, hl, _ => by cases hl
  | _ :: _, [], _, _, hl, _ => by cases hl
  | x :: l, y :: l', r, r', hl, h => by
    rw [List.flatMap_cons, List.flatMap_cons, List.append_assoc, List.append_assoc] at h
    obtain ⟨e1, h1⟩ := hf x y _ _ h
    obtain ⟨e2, h2⟩ := pi_list hf (Nat.succ.inj hl) h1
    exact ⟨by rw [e1, e2], h2⟩
def entN (e : E2) : List Int := [e.1, e.2]
def vecN (v : V2) : List Int := (v.length : Int) :: v.flatMap entN
def prN (p : PrS) : List Int := vecN p.v ++ ([p.n, p.r, numB p.dec, (p.acks.length : Int)] ++ p.acks)
def inN (l : List V2) : List Int := (l.length : Int) :: l.flatMap vecN
def pkN (k : PkS) : List Int := [numB k.reply, k.prop, k.acc, k.round] ++ vecN k.v
def deN (d : DeS) : List Int := [d.prop, d.input, d.step] ++ vecN d.v
def keyN (s : XpS) : List Int := [s.lo, s.am, s.g.steps, (s.g.accs.length : Int), (s.g.props.length : Int), (s.g.ins.length : Int), (s.g.nxt.length : Int), (s.g.pks.length : Int), (s.g.decs.length : Int)] ++
  (s.g.accs.flatMap vecN ++ (s.g.props.flatMap prN ++ (s.g.ins.flatMap inN ++ (s.g.nxt ++ (s.g.pks.flatMap pkN ++ s.g.decs.flatMap deN)))))
theorem pi_ent : PI entN := fun x y r r' h => by
  simp only [entN, List.cons_append, List.nil_append, List.cons.injEq] at h
  exact ⟨Prod.ext h.1 h.2.1, h.2.2⟩
theorem pi_vec : PI vecN := fun x y r r' h => by
  simp only [vecN, List.cons_append, List.cons.injEq] at h
  exact pi_list pi_ent (by omega) h.2
theorem numB_inj {a b : Bool} (h : numB a = numB b) : a = b := by cases a <;> cases b <;> first | rfl | (simp [numB] at h)
theorem pi_id {l l' r r' : List Int} (hl : l.length = l'.length) (h : l ++ r = l' ++ r') : l = l' ∧ r = r' := List.append_inj h hl
theorem pi_pr : PI prN := fun x y r r' h => by
  obtain ⟨n, v, q, acks, d⟩ := x
  obtain ⟨n', v', q', acks', d'⟩ := y
  simp only [prN, List.append_assoc] at h
  obtain ⟨e1, h1⟩ := pi_vec _ _ _ _ h
  simp only [List.cons_append, List.nil_append, List.cons.injEq] at h1
  obtain ⟨e2, e3, hd, hl, h2⟩ := h1
  obtain ⟨e4, h3⟩ := pi_id (by omega) h2
  rw [numB_inj hd, e1, e2, e3, e4]
  exact ⟨rfl, h3⟩
theorem pi_in : PI inN := fun x y r r' h => by
  simp only [inN, List.cons_append, List.cons.injEq] at h
  exact pi_list pi_vec (by omega) h.2
theorem pi_pk : PI pkN := fun x y r r' h => by
  obtain ⟨a, b, c, d, v⟩ := x
  obtain ⟨a', b', c', d', v'⟩ := y
  simp only [pkN, List.cons_append, List.nil_append, List.cons.injEq] at h
  obtain ⟨ha, e1, e2, e3, h1⟩ := h
  obtain ⟨e4, h2⟩ := pi_vec _ _ _ _ h1
  rw [numB_inj ha, e1, e2, e3, e4]
  exact ⟨rfl, h2⟩
theorem pi_de : PI deN := fun x y r r' h => by
  obtain ⟨a, b, v, c⟩ := x
  obtain ⟨a', b', v', c'⟩ := y
  simp only [deN, List.cons_append, List.nil_append, List.cons.injEq] at h
  obtain ⟨e1, e2, e3, h1⟩ := h
  obtain ⟨e4, h2⟩ := pi_vec _ _ _ _ h1
  rw [e1, e2, e3, e4]
  exact ⟨rfl, h2⟩
theorem keyN_inj {s t : XpS} (h : keyN s = keyN t) : s = t := by
  obtain ⟨⟨a1, a2, a3, a4, a5, a6, a7⟩, a8, a9⟩ := s
  obtain ⟨⟨b1, b2, b3, b4, b5, b6, b7⟩, b8, b9⟩ := t
  simp only [keyN, List.cons_append, List.nil_append, List.cons.injEq] at h
  obtain ⟨e1, e2, e3, l1, l2, l3, l4, l5, l6, h⟩ := h
  obtain ⟨f1, h1⟩ := pi_list pi_vec (by omega) h
  obtain ⟨f2, h2⟩ := pi_list pi_pr (by omega) h1
  obtain ⟨f3, h3⟩ := pi_list pi_in (by omega) h2
  obtain ⟨f4, h4⟩ := pi_id (by omega) h3
  obtain ⟨f5, h5⟩ := pi_list pi_pk (by omega) h4
  obtain ⟨f6, h6⟩ := pi_list pi_de (l := a6) (l' := b6) (r := []) (r' := []) (by omega) (by simpa using h5)
  rw [e1, e2, e3, f1, f2, f3, f4, f5, f6]
end Go.Proofs.YtphlhadgcfndhaaGreatDoor.Abs
end
section
namespace Go.Proofs.YtphlhadgcfndhaaGreatDoor.Abs
open Go Go.RowKit
set_option linter.unusedVariables false
set_option linter.unusedSimpArgs false
set_option maxHeartbeats 4000000
@[simp] def encb (n : Int) : List Cell := [.sc (.int .u8 n)]
@[simp] theorem flat_encb (l : List Int) : flatO ⟨1, l.map encb⟩ = true := flatO_of fun e he => by
  obtain ⟨x, _, rfl⟩ := List.mem_map.1 he
  rfl
theorem enc_b (l : List Int) : ∀ e ∈ l.map encb, e.length = 1 := fun e he => by obtain ⟨x, _, rfl⟩ := List.mem_map.1 he; rfl
abbrev cU (n : Int) : Cell := .sc (.int .u64 n)
def lit1 : ByteArray := ⟨(((List.range 10).map fun n => UInt8.ofNat (48 + n)) ++ (List.range 26).map fun n => UInt8.ofNat (97 + n)).toArray⟩
def lit2 : ByteArray := ⟨((List.range 100).flatMap fun n => [UInt8.ofNat (48 + n / 10), UInt8.ofNat (48 + n % 10)]).toArray⟩
def digS (n : Nat) : ByteArray := if n < 10 then lit1.extract n (n + 1) else lit2.extract (n * 2) (n * 2 + 2)
theorem digS_fin : ∀ n : Fin 100, (digS n.1).data.toList.map (fun y => (y.toNat : Int)) = digN (n.1 : Int) := by decide +kernel
theorem digS_es {n : Nat} (h : n < 100) : strEs (digS n) = (digN n).map encb := by
  have := digS_fin ⟨n, h⟩
  unfold strEs
  rw [← this, List.map_map]
  rfl
theorem dig_one {b : ByteArray} (hb : b = lit1) {n : Nat} (h : n < 10) : b.extract n (n + 1) = digS n := by rw [hb, digS, if_pos h]
theorem dig_two {b : ByteArray} (hb : b = lit2) {n : Nat} (h : ¬ n < 10) : b.extract (n * 2) (n * 2 + 2) = digS n := by rw [hb, digS, if_neg h]
theorem small_pure (n : Nat) (hn : n < 100) : Pure Tryz.prog 107 [.c (cI n)] (.c (.sc (.string (digS n)))) := by
  refine pure_of teOk Tryz.func107 (by kernel_rfl) (c := _) rfl (N := 15) rfl (rs := [Go.ResultVar.tmp 2]) rfl (by simp) fun base A w0 hA => ?_
  refine AW.st teOk [] (by simp [-Option.some.injEq] <;> rfl) trivial ?_
  refine AW.seq ?_
  by_cases h : n < 10
  · have h' : (n : Int) < 10 := by omega
    have h1 : IntKind.i64.wrap ((n : Int) + 1) = (n : Int) + 1 := wrap_s n (by omega)
    refine AW.st teOk [] (by simp [h', -Option.some.injEq] <;> rfl) trivial ?_
    refine AW.iff true (by simp) (fun _ => ?_) (fun h => by cases h)
    refine AW.st teOk [] (by simp [h1, -Option.some.injEq] <;> rfl) ?_ ?_
    · refine ⟨by omega, Int.le_trans (show (n : Int) + 1 ≤ 36 by omega) (by decide +kernel)⟩
    refine AW.ret ⟨.inr rfl, _, Weak.refl _, ?_⟩
    simp
    exact dig_one (by decide +kernel) h
  · have h' : ¬ (n : Int) < 10 := by omega
    have h1 : IntKind.i64.wrap ((n : Int) * 2) = (n : Int) * 2 := by rw [IntKind.wrap_i64]; omega
    have h2 : IntKind.i64.wrap ((n : Int) * 2 + 2) = (n : Int) * 2 + 2 := by rw [IntKind.wrap_i64]; omega
    refine AW.st teOk [] (by simp [h', -Option.some.injEq] <;> rfl) trivial ?_
    refine AW.iff false (by simp) (fun h => by cases h) (fun _ => AW.skip ?_)
    refine AW.st teOk [] (by simp [h1, h2, -Option.some.injEq] <;> rfl) ?_ ?_
    · refine ⟨by omega, by omega, Int.le_trans (show (n : Int) * 2 + 2 ≤ 200 by omega) (by decide +kernel)⟩
    refine AW.ret ⟨.inr rfl, _, Weak.refl _, ?_⟩
    simp
    rw [show ((n : Int) * 2).toNat = n * 2 by omega, show ((n : Int) * 2 + 2).toNat = n * 2 + 2 by omega]
    exact dig_two (by decide +kernel) h
theorem digS_size {n : Nat} (h : n < 100) : (digS n).size = (digN n).length := by
  have := congrArg List.length (digS_es h)
  rw [List.length_map] at this
  rw [← this]
  unfold strEs
  rw [List.length_map, Array.length_toList]
  rfl
theorem digN_len (n : Nat) (h : n < 100) : 1 ≤ (digN (n : Int)).length ∧ (digN (n : Int)).length ≤ 2 := by
  unfold digN
  split <;> simp
/-- The encoder, and its bytes in an object of their own. -/
@[simp] def encS (id : Nat) (b : List Int) : Sig := [(1000000, ⟨1, [[.ref id 0 b.length]]⟩), (id, ⟨1, b.map encb⟩)]
@[simp] def encT (id : Nat) (b : List Int) : Sig := [(1000000, ⟨1, [[.any]]⟩), (id, ⟨1, b.map encb⟩)]
def ID3 (id : Nat) : Prop := id = 1000001 ∨ id = 1000103 ∨ id = 1000112
theorem appU_con (id : Nat) (hid : ID3 id) (b : List Int) (hb : b.length < 1000000000) (n : Nat) (hn : n < 100) : Con Tryz.prog 106 [.c (.ref id 0 b.length), .c (cU n), .c (cI 10)] (encS id b) 1000160 (.c (.ref 1000170 0 (b.length + (digN n).length))) (encT 1000170 (b ++ digN n)) 1000171 := by
  have hdl := digN_len n hn
  rcases hid with rfl | rfl | rfl
  all_goals
    refine con_of teOk Tryz.func106 (by kernel_rfl) (c := _) rfl (N := 36) rfl (rs := [Go.ResultVar.tmp 6]) rfl (by simp) fun base A w0 rest hrest hrefs hA => ?_
    have hh := hiS_low hrest
    have hl' := loS_low hrest
    have hdr := fun k hk => drop_rest hrest k hk
    have hrn : ∀ (ρ : List (Nat × Nat)) (ids : List Nat), (ids.all fun i => decide (1000000 ≤ i)) = true → rnS 1000000 ρ ids rest = rest := fun ρ ids h => rnS_low h hrest
    have hlt : (n : Int) < 100 := by omega
    have hw : IntKind.i64.wrap (n : Int) = n := by rw [IntKind.wrap_i64]; omega
    refine AW.st teOk [] (by simp [hdr, -Option.some.injEq] <;> rfl) trivial ?_
    refine AW.seq ?_
    refine AW.st teOk [] (by simp [hdr, -Option.some.injEq] <;> rfl) trivial ?_
    refine AW.iff true (by simp) (fun _ => ?_) (fun h => by cases h)
    refine AW.seq ?_
    refine AW.st teOk [] (by simp [hdr, hlt, -Option.some.injEq] <;> rfl) trivial ?_
    refine AW.iff true (by simp) (fun _ => ?_) (fun h => by cases h)
    refine AW.st teOk [.fz (.c (.sc (.string (digS n))))] (by simp [hdr, hw, digS_es hn, -Option.some.injEq] <;> rfl) ?_ ?_
    · simp [growOk]
      exact ⟨small_pure n hn, by omega⟩
    refine AW.ret ⟨.inr rfl, _, Weak.normCS hA hrefs [6] [(6, 1000170)] [(1000000, 1000000)] [1000000] 1000171 _ (by simp [hl', hdr]) (by simp) (by simp) (by simp) (by simp [hh, hdr]) (by simp [hh, hdr, digS_es hn]), by simp [normL, digS_size hn], by simp [normL, hh, hl', hrn, hdr, digS_es hn], rfl⟩
theorem appI2_con (id : Nat) (hid : ID3 id) (b : List Int) (hb : b.length < 1000000000) (n : Nat) (hn : n < 100) : Con Tryz.prog 102 [.c (.ref id 0 b.length), .c (cI n), .c (cI 10)] (encS id b) 1000140 (.c (.ref 1000150 0 (b.length + (digN n).length))) (encT 1000150 (b ++ digN n)) 1000172 := by
  have hc := appU_con id hid b hb n hn
  have hdl := digN_len n hn
  rcases hid with rfl | rfl | rfl
  all_goals
    refine con_of teOk Tryz.func102 (by kernel_rfl) (c := _) rfl (N := 21) rfl (rs := [Go.ResultVar.tmp 6]) rfl (by simp) fun base A w0 rest hrest hrefs hA => ?_
    have hh := hiS_low hrest
    have hl' := loS_low hrest
    have hdr := fun k hk => drop_rest hrest k hk
    have hrn : ∀ (ρ : List (Nat × Nat)) (ids : List Nat), (ids.all fun i => decide (1000000 ≤ i)) = true → rnS 1000000 ρ ids rest = rest := fun ρ ids h => rnS_low h hrest
    have hlt : ¬ (n : Int) < 0 := by omega
    have hw : IntKind.u64.wrap (n : Int) = n := by rw [IntKind.wrap_u64]; omega
    refine AW.st teOk [] (by simp [hdr, -Option.some.injEq] <;> rfl) trivial ?_
    refine AW.st teOk [] (by simp [hdr, hw, -Option.some.injEq] <;> rfl) trivial ?_
    refine AW.seq ?_
    refine AW.st teOk [] (by simp [hdr, hlt, -Option.some.injEq] <;> rfl) trivial ?_
    refine AW.iff false (by simp) (fun h => by cases h) (fun _ => AW.skip ?_)
    refine AW.to (s2 := ⟨[(0, .c (.ref _ 0 b.length)), (2, .c (cI 10)), (7, .c (cU n))], encS _ b ++ rest, 1000157⟩) (Weak.normCS hA hrefs [0, 2, 7] [] [(1000000, 1000000), (1000001, 1000001), (1000103, 1000103), (1000112, 1000112)] [1000000] 1000157 _ (by simp [hl', hdr]) (by simp) (by simp) (by simp) (by simp [hh, hdr]) (by simp [hh, hdr])) (by simp [normL, hh, hl', hrn, hdr] <;> exact ⟨rfl, rfl⟩) ?_
    refine AW.st teOk [.own (.c (.ref 1000170 0 (b.length + (digN n).length))) (encT 1000170 (b ++ digN n)) 1000171] (by simp [hdr, hh, hl', -Option.some.injEq] <;> rfl) ?_ ?_
    · simpa using hc
    refine AW.ret ⟨.inr rfl, _, Weak.normCS hA hrefs [6] [(6, 1000150)] [(1000000, 1000000)] [1000000] 1000172 _ (by simp [hl', hdr]) (by simp) (by simp) (by simp) (by simp [hh, hdr]) (by simp [hh, hdr]), by simp [normL], by simp [normL, hh, hl', hrn, hdr], rfl⟩
theorem appI_con (id : Nat) (hid : ID3 id) (b : List Int) (hb : b.length < 1000000000) (n : Nat) (hn : n < 100) : Con Tryz.prog 95 [.c (.ref id 0 b.length), .c (cI n), .c (cI 10)] (encS id b) 1000124 (.c (.ref 1000130 0 (b.length + (digN n).length))) (encT 1000130 (b ++ digN n)) 1000173 := by
  have hc := appI2_con id hid b hb n hn
  have hdl := digN_len n hn
  rcases hid with rfl | rfl | rfl
  all_goals
    refine con_of teOk Tryz.func95 (by kernel_rfl) (c := _) rfl (N := 11) rfl (rs := [Go.ResultVar.tmp 6]) rfl (by simp) fun base A w0 rest hrest hrefs hA => ?_
    have hh := hiS_low hrest
    have hl' := loS_low hrest
    have hdr := fun k hk => drop_rest hrest k hk
    have hrn : ∀ (ρ : List (Nat × Nat)) (ids : List Nat), (ids.all fun i => decide (1000000 ≤ i)) = true → rnS 1000000 ρ ids rest = rest := fun ρ ids h => rnS_low h hrest
    refine AW.st teOk [] (by simp [hdr, -Option.some.injEq] <;> rfl) trivial ?_
    refine AW.to (s2 := ⟨[(0, .c (.ref _ 0 b.length)), (1, .c (cI n)), (2, .c (cI 10))], encS _ b ++ rest, 1000137⟩) (Weak.normCS hA hrefs [0, 1, 2] [] [(1000000, 1000000), (1000001, 1000001), (1000103, 1000103), (1000112, 1000112)] [1000000] 1000137 _ (by simp [hl', hdr]) (by simp) (by simp) (by simp) (by simp [hh, hdr]) (by simp [hh, hdr])) (by simp [normL, hh, hl', hrn, hdr] <;> exact ⟨rfl, rfl⟩) ?_
    refine AW.st teOk [.own (.c (.ref 1000150 0 (b.length + (digN n).length))) (encT 1000150 (b ++ digN n)) 1000172] (by simp [hdr, hh, hl', -Option.some.injEq] <;> rfl) ?_ ?_
    · simpa using hc
    refine AW.ret ⟨.inr rfl, _, Weak.normCS hA hrefs [6] [(6, 1000130)] [(1000000, 1000000)] [1000000] 1000173 _ (by simp [hl', hdr]) (by simp) (by simp) (by simp) (by simp [hh, hdr]) (by simp [hh, hdr]), by simp [normL], by simp [normL, hh, hl', hrn, hdr], rfl⟩
end Go.Proofs.YtphlhadgcfndhaaGreatDoor.Abs
end
section
namespace Go.Proofs.YtphlhadgcfndhaaGreatDoor.Abs
open Go Go.RowKit
set_option linter.unusedVariables false
set_option linter.unusedSimpArgs false
section
variable {P : Program} {ops : Array Oper} {m : Nat} {Q Qf : Exit → Act → World → Prop}
theorem upon_Q {o : Oper} {a : Act} {K K' : Act → World → Prop} (hK : ∀ a w, K a w → K' a w) (hp : ∀ ch a w, Qf (.panic ch) a w → Q (.panic ch) a w) (ho : LetsOut Qf → LetsOut Q) {r : Result Next} (h : o.upon P a K Qf r) : o.upon P a K' Q r := by
  cases r with
  | ok n w' =>
    cases n <;> simp only [Oper.upon] at h ⊢ <;>
      first
        | exact hK _ _ h
        | exact Calls.mono h (fun e w'' he => by cases e <;> first | exact hK _ _ he | exact hp _ _ _ he | exact ho he)
        | exact Rows.mono h (fun _ _ he => hK _ _ he)
  | halt x w' => cases x <;> simp only [Oper.upon] at h ⊢ <;> first | exact hp _ _ _ h | exact h
def guardsLt (ops : Array Oper) : Bool := (List.range ops.size).all fun i => match ops[i]? with
  | some o => (match o.guard with
    | some (j, _) => decide (j < i)
    | none => true)
  | none => true
theorem guardsLt_at (h : guardsLt ops = true) {i : Nat} {o : Oper} (ho : ops[i]? = some o) {j : Nat} {b : Bool} (hg : o.guard = some (j, b)) : j < i := by
  unfold guardsLt at h
  rw [List.all_eq_true] at h
  have := h i (List.mem_range.2 (Array.getElem?_eq_some_iff.1 ho).1)
  rw [ho] at this
  simp only [hg] at this
  simpa using this
theorem pop_get (hm : ops.size = m + 1) {i : Nat} (hi : i < m) : ops.pop[i]? = ops[i]? := by
  rw [Array.getElem?_pop, if_pos (by omega)]
theorem wpOp_front (hm : ops.size = m + 1) (hg : guardsLt ops = true) {i : Nat} (hi : i < m) {K K' : Act → World → Prop} (hK : ∀ a w, K a w → K' a w) (hp : ∀ ch a w, Qf (.panic ch) a w → Q (.panic ch) a w) (ho : LetsOut Qf → LetsOut Q) {a : Act} {w : World} (h : wpOp P ops.pop Qf i K a w) : wpOp P ops Q i K' a w := by
  unfold wpOp at h ⊢
  rw [pop_get hm hi] at h
  have hio : ops[i]? = some (ops[i]'(by omega)) := Array.getElem?_eq_getElem (by omega)
  generalize (ops[i]'(by omega)) = o at hio
  rw [hio] at h ⊢
  simp only at h ⊢
  have hw : Region.wanted o (yielded ops.pop a.tmps) = Region.wanted o (yielded ops a.tmps) := by
    unfold Region.wanted
    cases hgo : o.guard with
    | none => rfl
    | some g =>
      obtain ⟨j, b⟩ := g
      have := guardsLt_at hg hio hgo
      simp only [yielded, pop_get hm (show j < m by omega)]
  rw [hw] at h
  split
  · rename_i h1
    rw [if_pos h1] at h
    rcases h with h | ⟨h, h'⟩
    · exact .inl (upon_Q hK hp ho h)
    · exact .inr ⟨h, ho h'⟩
  · rename_i h1
    rw [if_neg h1] at h
    exact hK _ _ h
/-- The last waits for all others. -/
def lastOk (ops : Array Oper) : Bool := (List.range (ops.size - 1)).all fun j => ((depTab ops).getD (ops.size - 1) []).contains j
theorem last_all (hm : ops.size = m + 1) (hl : lastOk ops = true) {b : Nat → Bool} (hc : ClosedL ops b) (hr : ∀ o, ops[m]? = some o → ∀ e ∈ o.after.toList, Region.binds .any e = true → b e.on = true) {j : Nat} (hj : j < m) : b j = true := by
  unfold lastOk at hl
  rw [List.all_eq_true] at hl
  have h1 := hl j (List.mem_range.2 (by omega))
  rw [show ops.size - 1 = m by omega, List.getD_eq_getElem?_getD] at h1
  cases hD : (depTab ops)[m]? with
  | none => rw [hD] at h1; simp at h1
  | some l =>
    rw [hD] at h1
    exact (depTab_sound hD (j := j) (by simpa using h1)).listed hc hr
theorem getD_push (l : Array Bool) (hl : l.size = m) (d : Bool) {j : Nat} (hj : j < m) : (l.push false).getD j d = l.getD j d := by
  rw [Array.getD_eq_getD_getElem?, Array.getD_eq_getD_getElem?, Array.getElem?_push, if_neg (by omega)]
theorem wpAny_last (hm : ops.size = m + 1) (hg : guardsLt ops = true) (hon : onOk ops = true) (hl : lastOk ops = true) (hp : ∀ ch a w, Qf (.panic ch) a w → Q (.panic ch) a w) (ho : LetsOut Qf → LetsOut Q)
    (hf : ∀ a w, Qf .normal a w → wpOp P ops Q m (fun a w => Q .normal a w) a w) : ∀ (f : Nat) (listed : Array Bool) (a : Act) (w : World), listed.size = m → ClosedL ops (fun j => (listed.push false).getD j false) → wpAny P .any ops.pop Qf f listed a w → wpAny P .any ops Q (f + 1) (listed.push false) a w := by
  have edge := onOk_sound hon
  have opm : ops[m]? = some (ops[m]'(by omega)) := Array.getElem?_eq_getElem (by omega)
  -- which are ready
  have rdy : ∀ (listed : Array Bool), listed.size = m → ∀ i, i < m → (i ∈ Region.ready .any ops (listed.push false) ↔ i ∈ Region.ready .any ops.pop listed) := fun listed hsz i hi => by
    rw [mem_ready, mem_ready, pop_get hm hi, getD_push listed hsz true hi]
    refine and_congr_right fun _ => exists_congr fun o => and_congr_right fun hoi => ?_
    refine forall_congr' fun e => ?_
    constructor
    · intro h he hb
      have hlt := edge i o hoi e (by simpa using he) hb
      have := h he hb
      rwa [getD_push listed hsz false (by omega)] at this
    · intro h he hb
      have hlt := edge i o hoi e (by simpa using he) hb
      rw [getD_push listed hsz false (by omega)]
      exact h he hb
  have none_ready : ∀ (listed : Array Bool), listed.size = m → Region.ready .any ops.pop listed = [] → ∀ j, j < m → listed.getD j false = true := fun listed hsz hr j => by
    induction j using Nat.strongRecOn with
    | _ j ih =>
      intro hj
      cases hb : listed.getD j false with
      | true => rfl
      | false =>
        exfalso
        have hoj : ops[j]? = some (ops[j]'(by omega)) := Array.getElem?_eq_getElem (by omega)
        have : j ∈ Region.ready .any ops.pop listed := by
          rw [mem_ready]
          refine ⟨?_, ops[j]'(by omega), by rw [pop_get hm hj]; exact hoj, fun e he hbn => ?_⟩
          · rw [Array.getD_eq_getD_getElem?] at hb ⊢
            rw [Array.getElem?_eq_getElem (by omega)] at hb ⊢
            exact hb
          · have := edge j _ hoj e (by simpa using he) hbn
            exact ih e.on this (by omega)
        rw [hr] at this
        cases this
  have fin : ∀ (f : Nat) (listed : Array Bool) (a : Act) (w : World), listed.size = m → (∀ j, j < m → listed.getD j false = true) → Qf .normal a w → wpAny P .any ops Q (f + 1) (listed.push false) a w := fun f listed a w hsz hall hq => by
    have hmr : m ∈ Region.ready .any ops (listed.push false) := by
      rw [mem_ready]
      refine ⟨?_, _, opm, fun e he hbn => ?_⟩
      · rw [Array.getD_eq_getD_getElem?, Array.getElem?_push, if_pos hsz.symm]
        rfl
      · have := edge m _ opm e (by simpa using he) hbn
        rw [getD_push listed hsz false this]
        exact hall _ this
    have hafter : Region.ready .any ops ((listed.push false).setIfInBounds m true) = [] := by
      rw [List.eq_nil_iff_forall_not_mem]
      intro j hj
      rw [mem_ready] at hj
      obtain ⟨h0, o, hoj, _⟩ := hj
      have hjl : j < m + 1 := by rw [← hm]; exact (Array.getElem?_eq_some_iff.1 hoj).1
      by_cases hjm : j = m
      · subst hjm
        rw [Array.getD_eq_getD_getElem?, Array.getElem?_setIfInBounds, if_pos rfl, if_pos (by rw [Array.size_push]; omega)] at h0
        cases h0
      · rw [Array.getD_eq_getD_getElem?, Array.getElem?_setIfInBounds, if_neg (Ne.symm hjm), Array.getElem?_push, if_neg (by omega)] at h0
        have := hall j (by omega)
        rw [Array.getD_eq_getD_getElem?] at this
        rw [Array.getElem?_eq_getElem (by omega)] at h0 this
        simp only [Option.getD_some] at h0 this
        rw [this] at h0
        cases h0
    refine ⟨fun h => (by rw [h] at hmr; cases hmr), fun i hi => ?_⟩
    have him : i = m := by
      by_cases h : i = m
      · exact h
      · exfalso
        rw [mem_ready] at hi
        obtain ⟨h0, o, hoj, _⟩ := hi
        have hjl : i < m + 1 := by rw [← hm]; exact (Array.getElem?_eq_some_iff.1 hoj).1
        rw [getD_push listed hsz true (by omega)] at h0
        have := hall i (by omega)
        rw [Array.getD_eq_getD_getElem?] at this h0
        rw [Array.getElem?_eq_getElem (by omega)] at h0 this
        simp only [Option.getD_some] at h0 this
        rw [this] at h0
        cases h0
    subst him
    refine wpOp_mono (fun a' w' hq' => ?_) (hf a w hq)
    cases f with
    | zero => exact ⟨hafter, hq'⟩
    | succ f => exact ⟨fun _ => hq', fun i hi => by rw [hafter] at hi; cases hi⟩
  intro f
  induction f with
  | zero =>
    intro listed a w hsz hc h
    exact fin 0 listed a w hsz (none_ready listed hsz h.1) h.2
  | succ f ih =>
    intro listed a w hsz hc h
    obtain ⟨h0, h1⟩ := h
    by_cases hr : Region.ready .any ops.pop listed = []
    · exact fin (f + 1) listed a w hsz (none_ready listed hsz hr) (h0 hr)
    · obtain ⟨i0, hi0⟩ := List.exists_mem_of_ne_nil _ hr
      have lt_of : ∀ i, i ∈ Region.ready .any ops.pop listed → i < m := fun i hi => by
        rw [mem_ready] at hi
        obtain ⟨_, o, hoi, _⟩ := hi
        have := (Array.getElem?_eq_some_iff.1 hoi).1
        rw [Array.size_pop] at this
        omega
      have hi0m := lt_of i0 hi0
      refine ⟨fun h => ?_, fun i hi => ?_⟩
      · have := (rdy listed hsz i0 hi0m).2 hi0
        rw [h] at this
        cases this
      · have him : i < m := by
          have hi' := hi
          rw [mem_ready] at hi'
          obtain ⟨_, o, hoi, hre⟩ := hi'
          have hlt : i < m + 1 := by rw [← hm]; exact (Array.getElem?_eq_some_iff.1 hoi).1
          by_cases h : i = m
          · exfalso
            subst h
            have := last_all hm hl hc (fun o' ho' e he hb => by
              rw [hoi] at ho'
              cases ho'
              exact hre e (by simpa using he) hb) hi0m
            simp only [getD_push listed hsz false hi0m] at this
            rw [mem_ready] at hi0
            obtain ⟨h00, _⟩ := hi0
            rw [Array.getD_eq_getD_getElem?] at this h00
            rw [Array.getElem?_eq_getElem (by omega)] at h00 this
            simp only [Option.getD_some] at h00 this
            rw [this] at h00
            cases h00
          · omega
        have hif := (rdy listed hsz i him).1 hi
        refine wpOp_front hm hg him (fun a' w' hK => ?_) hp ho (h1 i hif)
        have hset : (listed.push false).setIfInBounds i true = (listed.setIfInBounds i true).push false := by
          refine Array.ext_getElem? fun j => ?_
          rw [Array.getElem?_setIfInBounds, Array.getElem?_push, Array.getElem?_push, Array.size_setIfInBounds, Array.size_push, Array.getElem?_setIfInBounds]
          by_cases hji : i = j
          · subst hji
            rw [if_pos rfl, if_pos (by omega), if_neg (by omega), if_pos rfl, if_pos (by omega)]
          · rw [if_neg hji, if_neg hji]
        rw [hset]
        refine ih (listed.setIfInBounds i true) a' w' (by simp [hsz]) ?_ hK
        rw [← hset]
        intro j oj hoj hbj e he hbn
        have gset : ∀ q, ((listed.push false).setIfInBounds i true).getD q false = (q == i || (listed.push false).getD q false) := fun q => by
          by_cases hqi : q = i
          · subst hqi
            rw [Array.getD_eq_getD_getElem?, Array.getElem?_setIfInBounds, if_pos rfl, if_pos (by rw [Array.size_push]; omega)]
            simp
          · rw [Array.getD_eq_getD_getElem?, Array.getElem?_setIfInBounds, if_neg (Ne.symm hqi), ← Array.getD_eq_getD_getElem?]
            simp [hqi]
        simp only [gset] at hbj ⊢
        by_cases hji : j = i
        · subst hji
          rw [mem_ready] at hi
          obtain ⟨_, o, hoi, hre⟩ := hi
          rw [hoi] at hoj
          cases hoj
          simp [hre e (by simpa using he) hbn]
        · simp only [beq_eq_false_iff_ne.2 hji, Bool.false_or] at hbj
          simp [hc j oj hoj hbj e he hbn]
end
section
variable {P : Program} {base : Nat} {A : Old} {w0 : World} {n : Nat}
theorem AW.drawC (hmx : P.follows .mixedOrders = true) {T : TyEnv} (hT : TOk P T) {id : Nat} {ops : Array Oper} {s s' : St} {Q : Exit → St → Prop} {ans : List AVal} {ans2 ans3 : List Ans} {R : List Rec} {o : Oper} {p : Prop} (m : Nat) (hm : ops.size = m + 1) (ho : ops[m]? = some o)
    (hev : evUs T (PN P) n ops.pop ops.pop.toList s.τ s.σ s.fr ans = some R) (hon : onOk ops = true) (hon1 : onOk ops.pop = true) (hchk : chkAll ops.pop (depTab ops.pop) ops.pop.toList R = true) (hg : guardsLt ops = true) (hl : lastOk ops = true) (hp : allP R)
    (hlast : evOp P T n ops o (endSt R s) ans2 = some (s', ans3, p)) (hp2 : p) (h : Q .normal s') : AW P base A w0 n (.region id ops true) s Q := fun β a w I => by
  obtain ⟨hlen, hat, hmono⟩ := evUs_at ops.pop.toList s.τ s.σ s.fr ans R hev
  refine wp_region_any hmx ?_
  have hd : Below base w { w with drawn := w.drawn + 1 } := ⟨rfl, rfl, rfl, Nat.le_refl _, fun _ _ => rfl⟩
  have I1 : InvS base A w0 n β s a { w with drawn := w.drawn + 1 } := ⟨I.inv.heap hd rfl, I.defers, I.size, fun t v hv => by
    obtain ⟨u, hu, hr⟩ := I.tmps t v hv
    exact ⟨u, hu, RepV.mono (w := w) (ok := okOf base A.own w β) (w' := { w with drawn := w.drawn + 1 }) (ok' := okOf base A.own { w with drawn := w.drawn + 1 } β) (β := β) (β' := β) (fun x hx => ⟨hx, rfl⟩) (BLe.refl' β) hr⟩, I.fresh, I.ext.step (BLe.refl' β) (fun x hx => ⟨hx, rfl⟩)⟩
  have hps : ops.pop.size = m := by rw [Array.size_pop]; omega
  have hrep : Array.replicate ops.size false = (Array.replicate m false).push false := by
    rw [hm, Array.replicate_succ]
  have hf : ∀ d, (fun j => (Array.replicate m false).getD j false) = fun _ => (d : Bool) && false := fun d => by
    funext j
    rw [Array.getD_eq_getD_getElem?, Array.getElem?_replicate]
    cases d <;> split <;> rfl
  have hf2 : ∀ j, ((Array.replicate m false).push false).getD j false = false := fun j => by
    rw [Array.getD_eq_getD_getElem?, Array.getElem?_push, Array.getElem?_replicate]
    split
    · rfl
    · split <;> rfl
  have key : wpAny P .any ops.pop (fun e a' w' => match e with
      | .normal => wpOp P ops (fun e a' w' => ∃ s' β', Q e s' ∧ InvS base A w0 n β' s' a' w') m (fun a' w' => ∃ s' β', Q .normal s' ∧ InvS base A w0 n β' s' a' w') a' w'
      | e => ∃ s' β', Q e s' ∧ InvS base A w0 n β' s' a' w') m (Array.replicate m false) a { w with drawn := w.drawn + 1 } := by
    refine any_go (A := A) (base := base) (w0 := w0) (n := n) (s := s) hT hev (allP_mem hp) hchk (fun a' w' J => ?_) (onOk_sound hon1) m _ a _ (by simp [hps]) ?_ ?_ ?_
    · obtain ⟨β', I', hfr⟩ := J
      obtain ⟨e1, e2⟩ := endSt_τ R 0 s
      rw [← e1, ← e2] at I'
      have hle : ∀ (i : Nat) (r : Rec), R[i]? = some r → s.fr ≤ r.fr ∧ r.fr ≤ r.fr' := fun i r hr => by
        have hi : i < ops.pop.toList.length := by rw [← hlen]; exact (List.getElem?_eq_some_iff.1 hr).1
        obtain ⟨g1, g2⟩ := hat i _ r (List.getElem?_eq_getElem hi) hr
        have := (evU_fr g1).1
        exact ⟨g2, by omega⟩
      obtain ⟨g1, g2⟩ := endSt_fr R s hmono hle
      have I2 : InvS base A w0 n β' (endSt R s) a' w' := I'.toS fun id hid => hfr id (by omega) fun j r hr _ => by
        have h1 := g2 j r hr
        have h2 := (hle j r hr).2
        omega
      exact evOp_sound hT hlast hp2 I2 ho fun β2 a2 w2 I3 => ⟨s', β2, h, I3⟩
    · rw [hf true]
      intro i o ho hb
      cases hb
    · rw [hps]
      exact Nat.le_trans (List.length_filter_le _ _) (by simp)
    · rw [hf true]
      refine ⟨β, ?_, fun id hid _ => I.fresh id hid⟩
      show InvT base A w0 n β (selτ (fun _ => false) 0 R s.τ) (selσ (fun _ => false) 0 R s.σ) a _
      rw [selτ_false, selσ_false]
      exact I1.toT
  have := wpAny_last (Q := fun e a' w' => ∃ s' β', Q e s' ∧ InvS base A w0 n β' s' a' w') hm hg hon hl (fun ch a w h => h) (fun ⟨a, w, h⟩ => ⟨a, w, h⟩) (fun a w h => h) m (Array.replicate m false) a { w with drawn := w.drawn + 1 } (by simp) (fun i o ho hb => by simp only [hf2] at hb; cases hb) key
  rw [hrep, hm]
  exact this
theorem AW.drC (hmx : P.follows .mixedOrders = true) {T : TyEnv} (hT : TOk P T) {id : Nat} {ops : Array Oper} {y : Code} {s s' : St} {Q : Exit → St → Prop} (ans : List AVal) (ans2 : List Ans) {ans3 : List Ans} {R : List Rec} {o : Oper} {p : Prop} (m : Nat) (hm : ops.size = m + 1) (ho : ops[m]? = some o)
    (hev : evUs T (PN P) n ops.pop ops.pop.toList s.τ s.σ s.fr ans = some R) (hon : onOk ops = true) (hon1 : onOk ops.pop = true) (hchk : chkAll ops.pop (depTab ops.pop) ops.pop.toList R = true) (hg : guardsLt ops = true) (hl : lastOk ops = true)
    (hlast : evOp P T n ops o (endSt R s) ans2 = some (s', ans3, p)) (hp : allP R) (hp2 : p) (h : AW P base A w0 n y s' Q) : AW P base A w0 n (.seq (.region id ops true) y) s Q := AW.seq (AW.drawC hmx hT m hm ho hev hon hon1 hchk hg hl hp hlast hp2 h)
end
end Go.Proofs.YtphlhadgcfndhaaGreatDoor.Abs
end
section
namespace Go.Proofs.YtphlhadgcfndhaaGreatDoor.Abs
open Go Go.RowKit
set_option linter.unusedVariables false
set_option linter.unusedSimpArgs false
set_option maxHeartbeats 4000000
theorem mapAt_nil' {α : Type} (f : α → α) : ∀ l : List (Nat × α), mapAt [] f l = l
  | [] => rfl
  | (t, v) :: r => by
    rw [mapAt, mapAt_nil' f r]
    rfl
theorem strN_one (n : Int) : strN [n] = digN n ++ [32] := rfl
theorem strN_take (l : List Int) (j : Nat) {x : Int} (hx : l[j]? = some x) : strN (l.take (j + 1)) = strN (l.take j) ++ digN x ++ [32] := by
  have : l.take (j + 1) = l.take j ++ [x] := by rw [List.take_add_one, hx]; rfl
  rw [this, strN_app, strN_one, List.append_assoc]
theorem strN_len : ∀ {l : List Int}, (∀ x ∈ l, 0 ≤ x ∧ x < 100) → (strN l).length ≤ 3 * l.length
  | [], _ => by simp [strN]
  | x :: l, h => by
    have hx := h x (by simp)
    have ih := strN_len (l := l) fun y hy => h y (by simp [hy])
    obtain ⟨n, rfl⟩ : ∃ n : Nat, x = n := ⟨x.toNat, by omega⟩
    have := digN_len n (by omega)
    rw [strN, List.length_append, List.length_cons, List.length_cons]
    omega
/-- A call may be made with fewer names in use. -/
theorem Con.lower {P : Program} {f : FuncId} {xs : List AVal} {σ σ' : Sig} {m m1 m' : Nat} {r : AVal} (h : Con P f xs σ m r σ' m') (hm : m1 ≤ m) : Con P f xs σ m1 r σ' m' :=
  ⟨h.1, fun base A w β rest vs h1 h2 I hf hr => h.2 base A w β rest vs h1 (fun i o ho e he c hc => by
    have := h2 i o ho e he c hc
    cases c <;> first | trivial | exact Nat.lt_of_lt_of_le this hm) I (fun id hid => hf id (Nat.le_trans hm hid)) hr⟩
theorem numbers_con (t : Bool) (id : Nat) (hid : id = 1000001 ∨ id = 1000103) (b : List Int) (l : List Int) (hl0 : l ≠ []) (hl : ∀ x ∈ l, 0 ≤ x ∧ x < 100) (hb : b.length + 3 * l.length < 1000000) : Con Tryz.prog 81 [.c (.ptr 1000000 0 0), .c (.row 1 t (l.map encn))] (encS id b) 1000110 (.tup []) (encS 1000112 (b ++ strN l)) 1000114 := by
  have hpos : 0 < l.length := List.length_pos_iff.2 hl0
  have hid' : id < 1000110 := by omega
  refine con_of teOk Tryz.func81 (by kernel_rfl) (c := _) rfl (N := 24) rfl (rs := []) rfl (by simp) fun base A w0 rest hrest hrefs hA => ?_
  have hh := hiS_low hrest
  have hl' := loS_low hrest
  have hdr := fun k hk => drop_rest hrest k hk
  have hrn : ∀ (ρ : List (Nat × Nat)) (ids : List Nat), (ids.all fun i => decide (1000000 ≤ i)) = true → rnS 1000000 ρ ids rest = rest := fun ρ ids h => rnS_low h hrest
  rcases hid with rfl | rfl
  all_goals
    refine AW.st teOk [] (by simp [hdr, -Option.some.injEq] <;> rfl) trivial ?_
    refine AW.block (AW.loop (fun m s => ∃ (j q : Nat), m = l.length - j ∧ j ≤ l.length ∧ (q = _ ∧ j = 0 ∨ q = 1000112) ∧ s = ⟨[(0, .c (.ptr 1000000 0 0)), (6, .c (.row 1 t (l.map encn))), (7, .c (cI l.length)), (8, .c (cI j))], encS q (b ++ strN (l.take j)) ++ rest, 1000114⟩) _ (Weak.normCS hA hrefs [0, 6, 7, 8] [(0, 1000000)] [(1000001, 1000001), (1000103, 1000103)] [1000000] 1000114 _ (by simp [hl']) (by simp) (by simp) (by simp) (by simp [hh]) (by simp [hh])) ⟨0, _, rfl, Nat.zero_le _, .inl ⟨rfl, rfl⟩, by simp [normL, hh, hl', hrn, strN] <;> rfl⟩ ?_)
  all_goals
    rintro m s ⟨j, q, rfl, hj, hq, rfl⟩
    have hinc : IntKind.i64.wrap ((j : Int) + 1) = (j : Int) + 1 := wrap_s _ (by omega)
    have h3 : ∀ q : Nat, (q = 1000001 ∧ j = 0 ∨ q = 1000112) ∨ (q = 1000103 ∧ j = 0 ∨ q = 1000112) → q = 1000001 ∨ q = 1000103 ∨ q = 1000112 := fun q h => by omega
    have hlenj : (strN (l.take j)).length ≤ 3 * j := by
      have := strN_len (l := l.take j) fun x hx => hl x (List.mem_of_mem_take hx)
      rw [List.length_take] at this
      omega
    by_cases hjn : j < l.length
    · have hbody := h3 q (by first | exact .inl hq | exact .inr hq)
      obtain ⟨x, hx⟩ : ∃ x, l[j]? = some x := ⟨_, List.getElem?_eq_getElem hjn⟩
      have hxr := hl x (List.mem_of_getElem? hx)
      have htk := strN_take l j hx
      obtain ⟨n, rfl⟩ : ∃ n : Nat, x = n := ⟨x.toNat, by omega⟩
      have hdl := digN_len n (by omega)
      have hc := appI_con q hbody (b ++ strN (l.take j)) (by rw [List.length_append]; omega) n (by omega)
      clear hq h3
      generalize strN (l.take j) = dn at *
      rcases hbody with rfl | rfl | rfl
      all_goals
        refine AW.st teOk [] (by simp [hdr, -Option.some.injEq] <;> rfl) trivial ?_
        refine AW.seq (AW.iff true (by simp [hjn]) (fun _ => AW.skip ?_) (fun h => by cases h))
        refine AW.seq (AW.block ?_)
        refine AW.st teOk [] (by simp [hdr, hx, -Option.some.injEq] <;> rfl) ?_ ?_
        · exact hjn
        refine AW.text teOk (ans := [.own (.c (.ref 1000130 0 ((b ++ dn).length + (digN n).length))) (encT 1000130 ((b ++ dn) ++ digN n)) 1000173]) (by simp [hdr, hh, hl', -Option.some.injEq] <;> rfl) ?_ ?_
        · simp [growOk]
          exact ⟨by simpa using hc, by omega, by omega⟩
        refine AW.text teOk (ans := []) (by simp [hdr, -Option.some.injEq] <;> rfl) ?_ ?_
        · trivial
        refine ⟨_, _, Weak.normCS hA hrefs [0, 6, 7, 8] [(0, 1000000)] [(1000174, 1000112)] [1000000] 1000114 _ (by simp [hl']) (by simp) (by simp) (by simp) (by simp [hh]) (by simp [hh]), ?_, j + 1, 1000112, rfl, hjn, .inr rfl, ?_⟩
        · omega
        · simp [normL, hh, hl', hrn, hinc, htk]
          omega
    have hjn' : j = l.length := by omega
    subst hjn'
    have hq2 : q = 1000112 := by omega
    subst hq2
    refine AW.st teOk [] (by simp [hdr, -Option.some.injEq] <;> rfl) trivial ?_
    refine AW.seq (AW.iff false (by simp) (fun h => by cases h) (fun h => AW.exit (x_then (x_then (blockA_exit ?_)))))
    refine ⟨.inl rfl, _, Weak.normCS hA hrefs [0] [(0, 1000000)] [(1000112, 1000112)] [1000000] 1000114 _ (by simp [hl']) (by simp) (by simp) (by simp) (by simp [hh]) (by simp [hh]), by simp, by simp [normL, hh, hl', hrn], rfl⟩
theorem vecN_len (v : V2) : (vecN v).length = 1 + 2 * v.length := by
  unfold vecN
  rw [List.length_cons]
  have e : ∀ v : V2, (v.flatMap entN).length = 2 * v.length := fun v => by
    induction v with
    | nil => rfl
    | cons x v ih => rw [List.flatMap_cons, List.length_append, ih, List.length_cons]; simp [entN]; omega
  rw [e]
  omega
theorem vec_take (v : V2) (j : Nat) {e : E2} (he : v[j]? = some e) : (v.take (j + 1)).flatMap entN = (v.take j).flatMap entN ++ [e.1, e.2] := by
  have : v.take (j + 1) = v.take j ++ [e] := by rw [List.take_add_one, he]; rfl
  rw [this, List.flatMap_append]
  simp [entN]
/-- Small entries. -/
def Sm (v : V2) : Prop := v.length < 100 ∧ ∀ e ∈ v, (0 ≤ e.1 ∧ e.1 < 100) ∧ 0 ≤ e.2 ∧ e.2 < 100
theorem Sm.nums {v : V2} (h : Sm v) : ∀ x ∈ vecN v, 0 ≤ x ∧ x < 100 := fun x hx => by
  unfold vecN at hx
  rcases List.mem_cons.1 hx with rfl | hx
  · have := h.1
    omega
  · obtain ⟨e, he, hx⟩ := List.mem_flatMap.1 hx
    have := h.2 e he
    simp only [entN, List.mem_cons, List.not_mem_nil, or_false] at hx
    rcases hx with rfl | rfl
    · exact this.1
    · exact this.2
theorem evec_con (b : List Int) (v : V2) (hv : Sm v) (hb : b.length < 900000) : Con Tryz.prog 82 [.c (.ptr 1000000 0 0), .c (encV v)] (encS 1000001 b) 1000052 (.tup []) (encS 1000103 (b ++ strN (vecN v))) 1000104 := by
  obtain ⟨hvl, hve⟩ := hv
  have hc0 := numbers_con true 1000001 (.inl rfl) b [(v.length : Int)] (by simp) (fun x hx => by rw [List.mem_singleton.1 hx]; omega) (by simp; omega)
  have hv2 : strN (vecN v) = strN [(v.length : Int)] ++ strN (v.flatMap entN) := by
    rw [← strN_app]
    rfl
  have h1l : (strN [(v.length : Int)]).length ≤ 3 := by
    have := strN_len (l := [(v.length : Int)]) fun x hx => by rw [List.mem_singleton.1 hx]; omega
    simpa using this
  obtain ⟨c, hcd⟩ : ∃ c, c = b ++ strN [(v.length : Int)] := ⟨_, rfl⟩
  have hcl : c.length < 900003 := by rw [hcd, List.length_append]; omega
  have hfin : b ++ strN (vecN v) = c ++ strN (v.flatMap entN) := by rw [hv2, hcd, List.append_assoc]
  rw [hfin]
  rw [← hcd] at hc0
  clear hfin hcd hv2 h1l
  refine con_of teOk Tryz.func82 (by kernel_rfl) (c := _) rfl (N := 25) rfl (rs := []) rfl (by simp) fun base A w0 rest hrest hrefs hA => ?_
  have hh := hiS_low hrest
  have hl' := loS_low hrest
  have hdr := fun k hk => drop_rest hrest k hk
  have hrn : ∀ (ρ : List (Nat × Nat)) (ids : List Nat), (ids.all fun i => decide (1000000 ≤ i)) = true → rnS 1000000 ρ ids rest = rest := fun ρ ids h => rnS_low h hrest
  refine AW.to (s2 := ⟨[(0, .c (.ptr 1000000 0 0)), (1, .c (encV v))], encS 1000001 b ++ rest, 1000106⟩) (Weak.normCS hA hrefs [0, 1] [(0, 1000000)] [(1000001, 1000001)] [1000000] 1000106 _ (by simp [hl']) (by simp) (by simp) (by simp) (by simp [hh]) (by simp [hh])) (by simp [normL, hh, hl', hrn]) ?_
  refine AW.st teOk [.own (.tup []) (encS 1000112 c) 1000114] (by simp [hdr, hh, hl', -Option.some.injEq] <;> rfl) ?_ ?_
  · simpa using hc0
  refine AW.st teOk [] (by simp [hdr, -Option.some.injEq] <;> rfl) trivial ?_
  refine AW.block (AW.loop (fun m s => ∃ (j : Nat), m = v.length - j ∧ j ≤ v.length ∧ s = ⟨[(0, .c (.ptr 1000000 0 0)), (11, .c (encV v)), (12, .c (cI v.length)), (13, .c (cI j))], encS 1000103 (c ++ strN ((v.take j).flatMap entN)) ++ rest, 1000104⟩) _ (Weak.normCS hA hrefs [0, 11, 12, 13] [(0, 1000000)] [(1000112, 1000103)] [1000000] 1000104 _ (by simp [hl']) (by simp) (by simp) (by simp) (by simp [hh]) (by simp [hh])) ⟨0, rfl, Nat.zero_le _, by simp [normL, hh, hl', hrn, strN]⟩ ?_)
  rintro m s ⟨j, rfl, hj, rfl⟩
  have hinc : IntKind.i64.wrap ((j : Int) + 1) = (j : Int) + 1 := wrap_s _ (by omega)
  by_cases hjn : j < v.length
  · obtain ⟨e, he⟩ : ∃ e, v[j]? = some e := ⟨_, List.getElem?_eq_getElem hjn⟩
    obtain ⟨⟨e1, e2⟩, e3, e4⟩ := hve e (List.mem_of_getElem? he)
    have htk : strN ((v.take (j + 1)).flatMap entN) = strN ((v.take j).flatMap entN) ++ strN [e.1, e.2] := by rw [vec_take v j he, strN_app]
    have hlen : (strN ((v.take j).flatMap entN)).length ≤ 600 := by
      have h1 := strN_len (l := (v.take j).flatMap entN) fun x hx => by
        obtain ⟨y, hy, hx⟩ := List.mem_flatMap.1 hx
        have := hve y (List.mem_of_mem_take hy)
        simp only [entN, List.mem_cons, List.not_mem_nil, or_false] at hx
        rcases hx with rfl | rfl
        · exact this.1
        · exact this.2
      have h2 := vecN_len (v.take j)
      unfold vecN at h2
      rw [List.length_cons, List.length_take] at h2
      omega
    have hc := numbers_con true 1000103 (.inr rfl) (c ++ strN ((v.take j).flatMap entN)) [e.1, e.2] (by simp) (fun x hx => by
      simp only [List.mem_cons, List.not_mem_nil, or_false] at hx
      rcases hx with rfl | rfl <;> omega) (by rw [List.length_append]; simp; omega)
    have htk2 : c ++ strN ((v.take (j + 1)).flatMap entN) = c ++ strN ((v.take j).flatMap entN) ++ strN [e.1, e.2] := by rw [htk, List.append_assoc]
    obtain ⟨cn, hcn⟩ : ∃ cn, cn = c ++ strN ((v.take (j + 1)).flatMap entN) := ⟨_, rfl⟩
    rw [← htk2, ← hcn] at hc
    generalize c ++ strN ((v.take j).flatMap entN) = dn at *
    refine AW.st teOk [] (by simp [hdr, -Option.some.injEq] <;> rfl) trivial ?_
    refine AW.seq (AW.iff true (by simp [hjn]) (fun _ => AW.skip ?_) (fun h => by cases h))
    refine AW.seq (AW.block ?_)
    refine AW.st teOk [] (by simp [hdr, he, -Option.some.injEq] <;> rfl) ?_ ?_
    · exact hjn
    refine AW.to (s2 := ⟨[(0, .c (.ptr 1000000 0 0)), (11, .c (encV v)), (12, .c (cI v.length)), (13, .c (cI j)), (5, .c (.fad [cI e.1, cI e.2]))], encS 1000103 dn ++ rest, 1000104⟩) ((Weak.freeze 1000107 ⟨2, [encE e]⟩ [] _ (by simp) (by simp)).trans (Weak.normCS hA hrefs [0, 11, 12, 13, 5] [(0, 1000000)] [(1000103, 1000103)] [1000000] 1000104 _ (by simp [hl', hdr, mapAt_nil']) (by simp) (by simp) (by simp) (by simp [hh, hdr, mapAt_nil']) (by simp [hh, hdr, mapAt_nil']))) (by simp [normL, hh, hl', hrn, hdr, mapAt_nil']) ?_
    refine AW.text teOk (ans := [.own (.tup []) (encS 1000112 cn) 1000114]) (by simp [hdr, hh, hl', -Option.some.injEq] <;> rfl) ?_ ?_
    · simpa using hc
    refine AW.text teOk (ans := []) (by simp [hdr, -Option.some.injEq] <;> rfl) ?_ ?_
    · trivial
    refine ⟨_, _, Weak.normCS hA hrefs [0, 11, 12, 13] [(0, 1000000)] [(1000112, 1000103)] [1000000] 1000104 _ (by simp [hl']) (by simp) (by simp) (by simp) (by simp [hh]) (by simp [hh]), ?_, j + 1, rfl, hjn, ?_⟩
    · omega
    · simp [normL, hh, hl', hrn, hinc, ← hcn]
  have hjn' : j = v.length := by omega
  subst hjn'
  rw [List.take_length]
  refine AW.st teOk [] (by simp [hdr, -Option.some.injEq] <;> rfl) trivial ?_
  refine AW.seq (AW.iff false (by simp) (fun h => by cases h) (fun h => AW.exit (x_then (x_then (blockA_exit ?_)))))
  refine ⟨.inl rfl, _, Weak.normCS hA hrefs [0] [(0, 1000000)] [(1000103, 1000103)] [1000000] 1000104 _ (by simp [hl']) (by simp) (by simp) (by simp) (by simp [hh]) (by simp [hh]), by simp, by simp [normL, hh, hl', hrn], rfl⟩
theorem xnumber_pure (b : Bool) : Pure Tryz.prog 43 [.c (cB b)] (.c (cI (numB b))) := by
  refine pure_of teOk Tryz.func43 (by kernel_rfl) (c := _) rfl (N := 4) rfl (rs := [Go.ResultVar.tmp 2]) rfl (by simp) fun base A w0 hA => ?_
  refine AW.st teOk [] (by simp [-Option.some.injEq] <;> rfl) trivial ?_
  refine AW.seq ?_
  refine AW.st teOk [] (by simp [-Option.some.injEq] <;> rfl) trivial ?_
  cases b with
  | true =>
    refine AW.iff true (by simp) (fun _ => ?_) (fun h => by cases h)
    refine AW.st teOk [] (by simp [-Option.some.injEq] <;> rfl) trivial ?_
    refine AW.ret ⟨.inr rfl, _, Weak.refl _, ?_⟩
    simp [numB]
  | false =>
    refine AW.iff false (by simp) (fun h => by cases h) (fun _ => AW.skip ?_)
    refine AW.st teOk [] (by simp [-Option.some.injEq] <;> rfl) trivial ?_
    refine AW.ret ⟨.inr rfl, _, Weak.refl _, ?_⟩
    simp [numB]
end Go.Proofs.YtphlhadgcfndhaaGreatDoor.Abs
end
