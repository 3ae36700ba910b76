/- This file holds the plain law: solved rows are told by their solutions. -/
import Derived.Test.Ytffpdaejemmgpaap3
namespace Go.Proofs.Ytffpdaejemmgpaa.W
set_option linter.unusedVariables false
set_option linter.unusedSimpArgs false
theorem sum8_ext {f g : Nat → Rat} (h : ∀ i, i < 8 → f i = g i) : sum8 f = sum8 g := by
  simp only [sum8]
  rw [h 0 (by omega), h 1 (by omega), h 2 (by omega), h 3 (by omega), h 4 (by omega), h 5 (by omega), h 6 (by omega), h 7 (by omega)]
theorem sum8_zero {f : Nat → Rat} (h : ∀ i, i < 8 → f i = 0) : sum8 f = 0 := by
  rw [sum8_ext h]; simp only [sum8]; grind
theorem sum8_split (f : Nat → Rat) (v : Nat) (hv : v < 8) : sum8 f = f v + sum8 (fun i => if i = v then 0 else f i) := by
  simp only [sum8]
  have : v = 0 ∨ v = 1 ∨ v = 2 ∨ v = 3 ∨ v = 4 ∨ v = 5 ∨ v = 6 ∨ v = 7 := by omega
  rcases this with rfl | rfl | rfl | rfl | rfl | rfl | rfl | rfl <;> simp <;> grind
theorem sum8_one (f : Nat → Rat) (v : Nat) (hv : v < 8) (h : ∀ i, i < 8 → i ≠ v → f i = 0) : sum8 f = f v := by
  rw [sum8_split f v hv, sum8_zero]
  · grind
  · intro i hi
    by_cases e : i = v
    · rw [if_pos e]
    · rw [if_neg e]; exact h i hi e
/-- Rows that are solved; S are the solutions. -/
structure RR (S : (Nat → Rat) → Prop) (o : List GR) : Prop where
  good : ∀ y ∈ o, Good y.t ∧ ∃ u : Nat, y.b = u ∧ u < 8
  inc : o.Pairwise (fun x y => x.b < y.b)
  piv : ∀ x ∈ o, ∀ y ∈ o, ∀ u : Nat, x.b = u → cf y.t u = if x.b = y.b then 1 else 0
  low : ∀ y ∈ o, ∀ (p u : Nat), y.b = p → u < p → cf y.t u = 0
  sol : ∀ x, S x ↔ ∀ y ∈ o, ev y.t x = 0
/-- A row of one in which another one's variable does not stand. -/
def Apart (x y : GR) : Prop := ∀ u : Nat, (x.b = u → cf y.t u = 0) ∧ (y.b = u → cf x.t u = 0)
theorem Inv.apart {S : (Nat → Rat) → Prop} {v : Nat} {R : List GR} (hI : Inv S v R) : R.Pairwise Apart := by
  rw [List.pairwise_iff_getElem]
  intro i j hi hj hij u
  exact ⟨fun h => (hI.one i R[i] u (List.getElem?_eq_getElem hi) h).2 j R[j] (by omega) (List.getElem?_eq_getElem hj), fun h => (hI.one j R[j] u (List.getElem?_eq_getElem hj) h).2 i R[i] (by omega) (List.getElem?_eq_getElem hi)⟩
theorem Inv.self {S : (Nat → Rat) → Prop} {v : Nat} {R : List GR} (hI : Inv S v R) {y : GR} (hy : y ∈ R) {u : Nat} (h : y.b = u) : cf y.t u = 1 := by
  obtain ⟨j, hj⟩ := List.mem_iff_getElem?.1 hy
  exact (hI.one j y u hj h).1
def taken (x : GR) : Bool := x.b != -1
theorem Inv.rr {S : (Nat → Rat) → Prop} {R R' : List GR} (hI : Inv S 8 R) (hp : R'.Perm R) (hs : R'.Pairwise (fun x y => x.b ≤ y.b)) (hk : ∀ y ∈ R', y.b = -1 → y.t.k.n = 0) : RR S (R'.filter taken) := by
  have hmem : ∀ y, y ∈ R'.filter taken ↔ y ∈ R ∧ y.b ≠ -1 := fun y => by
    rw [List.mem_filter, hp.mem_iff]; simp [taken]
  have hb : ∀ y ∈ R'.filter taken, ∃ u : Nat, y.b = u ∧ u < 8 := fun y hy => by
    obtain ⟨h1, h2⟩ := (hmem y).1 hy
    rcases hI.b y h1 with h | h
    · exact absurd h h2
    · exact h
  have hap : (R'.filter taken).Pairwise Apart := ((hp.pairwise_iff (fun {x y} h u => ⟨(h u).2, (h u).1⟩)).2 hI.apart).filter _
  have hself : ∀ y ∈ R'.filter taken, ∀ u : Nat, y.b = u → cf y.t u = 1 := fun y hy u hu => hI.self ((hmem y).1 hy).1 hu
  have hinc : (R'.filter taken).Pairwise (fun x y => x.b < y.b) := by
    have hle := hs.filter taken
    rw [List.pairwise_iff_getElem] at hle hap ⊢
    intro i j hi hj hij
    have h1 := hle i j hi hj hij
    have h2 := hap i j hi hj hij
    obtain ⟨u, hu, _⟩ := hb _ (List.getElem_mem hi)
    have h3 := hself _ (List.getElem_mem hj)
    apply Classical.byContradiction
    intro hlt
    have e : (R'.filter taken)[j].b = u := by omega
    have h4 := h3 u e
    have h5 := (h2 u).1 hu
    rw [h4] at h5
    revert h5; decide
  refine ⟨fun y hy => ⟨hI.good y ((hmem y).1 hy).1, hb y hy⟩, hinc, ?_, fun y hy => hI.low y ((hmem y).1 hy).1, ?_⟩
  · intro x hx y hy u hu
    by_cases e : x.b = y.b
    · rw [if_pos e]; exact hself y hy u (by rw [← e]; exact hu)
    · rw [if_neg e]
      obtain ⟨i, hi⟩ := List.mem_iff_getElem?.1 hx
      obtain ⟨j, hj⟩ := List.mem_iff_getElem?.1 hy
      obtain ⟨hi1, hi2⟩ := List.getElem?_eq_some_iff.1 hi
      obtain ⟨hj1, hj2⟩ := List.getElem?_eq_some_iff.1 hj
      rw [List.pairwise_iff_getElem] at hap
      rcases Nat.lt_trichotomy i j with h | h | h
      · have := hap i j hi1 hj1 h
        rw [hi2, hj2] at this
        exact (this u).1 hu
      · subst h; rw [hi] at hj; cases hj; exact absurd rfl e
      · have := hap j i hj1 hi1 h
        rw [hi2, hj2] at this
        exact (this u).2 hu
  · intro x
    rw [hI.sol x]
    constructor
    · intro h y hy; exact h y ((hmem y).1 hy).1
    · intro h y hy
      by_cases e : y.b = -1
      · have h0 := hk y (hp.mem_iff.2 hy) e
        have hz : ck y.t = 0 := (val_eq_zero (rightT_iff.1 (hI.good y hy).r).2.1).2 h0
        rw [ev, hz, sum8_zero]
        · grind
        · intro i hi
          rw [hI.free y hy e i hi]; grind
      · exact h y ((hmem y).2 ⟨hy, e⟩)
theorem Inv.unsat {S : (Nat → Rat) → Prop} {R : List GR} (hI : Inv S 8 R) {y : GR} (hy : y ∈ R) (hb : y.b = -1) (hk : y.t.k.n ≠ 0) (x : Nat → Rat) : ¬ S x := by
  intro hS
  have h := (hI.sol x).1 hS y hy
  rw [ev, sum8_zero (fun i hi => by rw [hI.free y hy hb i hi]; grind)] at h
  have : ck y.t = 0 := by grind
  exact hk ((val_eq_zero (rightT_iff.1 (hI.good y hy).r).2.1).1 this)
theorem Inv.start (l : List T) (hr : ∀ t ∈ l, rightT t = true) (hw : ∀ t ∈ l, t.wf) : Inv (fun x => ∀ t ∈ l, ev t x = 0) 0 (l.map fun t => ⟨ownS t, -1⟩) := by
  have back : ∀ y ∈ l.map (fun t => (⟨ownS t, -1⟩ : GR)), ∃ t ∈ l, y = ⟨ownS t, -1⟩ := by
    intro y hy
    obtain ⟨t, h1, h2⟩ := List.mem_map.1 hy
    exact ⟨t, h1, h2.symm⟩
  have hev : ∀ t ∈ l, ∀ x, ev (ownS t) x = ev t x := by
    intro t ht x
    obtain ⟨_, _, _, h4, h5⟩ := ownS_ok (hr t ht) (hw t ht)
    simp only [ev, ck, cf, h4, h5]
  refine ⟨?_, ?_, ?_, ?_, ?_, ?_⟩
  · intro y hy
    obtain ⟨t, ht, rfl⟩ := back y hy
    obtain ⟨h1, h2, h3, _⟩ := ownS_ok (hr t ht) (hw t ht)
    exact ⟨h1, h2, h3⟩
  · intro y hy
    obtain ⟨t, ht, rfl⟩ := back y hy
    exact .inl rfl
  · intro j y u hj hu
    obtain ⟨t, ht, rfl⟩ := back y (List.mem_of_getElem? hj)
    dsimp only at hu; omega
  · intro y hy _ u hu; omega
  · intro y hy p u hb
    obtain ⟨t, ht, rfl⟩ := back y hy
    dsimp only at hb; omega
  · intro x
    constructor
    · intro h y hy
      obtain ⟨t, ht, rfl⟩ := back y hy
      rw [hev t ht]; exact h t ht
    · intro h t ht
      rw [← hev t ht]
      exact h ⟨ownS t, -1⟩ (List.mem_map.2 ⟨t, ht, rfl⟩)
open Classical in
/-- The solution in which the variables that aren't taken are as told. -/
noncomputable def solO (o : List GR) (f : Nat → Rat) (u : Nat) : Rat :=
  if h : ∃ y ∈ o, y.b = u then -(ck h.choose.t + sum8 (fun i => if ∃ y ∈ o, y.b = (i : Nat) then 0 else cf h.choose.t i * f i)) else f u
theorem RR.same {S : (Nat → Rat) → Prop} {o : List GR} (h : RR S o) {x y : GR} (hx : x ∈ o) (hy : y ∈ o) (e : x.b = y.b) : x = y := by
  obtain ⟨i, hi⟩ := List.mem_iff_getElem?.1 hx
  obtain ⟨j, hj⟩ := List.mem_iff_getElem?.1 hy
  obtain ⟨hi1, hi2⟩ := List.getElem?_eq_some_iff.1 hi
  obtain ⟨hj1, hj2⟩ := List.getElem?_eq_some_iff.1 hj
  have hp := h.inc
  rw [List.pairwise_iff_getElem] at hp
  rcases Nat.lt_trichotomy i j with c | c | c
  · have := hp i j hi1 hj1 c; rw [hi2, hj2] at this; omega
  · subst c; rw [hi] at hj; cases hj; rfl
  · have := hp j i hj1 hi1 c; rw [hi2, hj2] at this; omega
open Classical in
/-- A solved term comes to its own variable and those that aren't taken. -/
theorem RR.ev {S : (Nat → Rat) → Prop} {o : List GR} (h : RR S o) {y : GR} (hy : y ∈ o) {p : Nat} (hp : y.b = p) (x : Nat → Rat) :
    ev y.t x = ck y.t + x p + sum8 (fun i => if ∃ z ∈ o, z.b = (i : Nat) then 0 else cf y.t i * x i) := by
  obtain ⟨_, u, hu, hu8⟩ := h.good y hy
  have e : u = p := by omega
  subst e
  rw [W.ev, sum8_split _ u hu8, h.piv y hy y hy u hp, if_pos rfl]
  have : sum8 (fun i => if i = u then 0 else cf y.t i * x i) = sum8 (fun i => if ∃ z ∈ o, z.b = (i : Nat) then 0 else cf y.t i * x i) := by
    apply sum8_ext
    intro i hi
    by_cases e : i = u
    · subst e; rw [if_pos rfl, if_pos ⟨y, hy, hp⟩]
    · rw [if_neg e]
      by_cases hz : ∃ z ∈ o, z.b = (i : Nat)
      · rw [if_pos hz]
        obtain ⟨z, hz, hzi⟩ := hz
        rw [h.piv z hz y hy i hzi, if_neg (by omega)]; grind
      · rw [if_neg hz]
  rw [this]; grind
open Classical in
theorem RR.solves {S : (Nat → Rat) → Prop} {o : List GR} (h : RR S o) (f : Nat → Rat) : S (solO o f) := by
  rw [h.sol]
  intro y hy
  obtain ⟨_, p, hp, hp8⟩ := h.good y hy
  rw [h.ev hy hp]
  have e1 : solO o f p = -(ck y.t + sum8 (fun i => if ∃ z ∈ o, z.b = (i : Nat) then 0 else cf y.t i * f i)) := by
    have hex : ∃ y ∈ o, y.b = (p : Int) := ⟨y, hy, hp⟩
    unfold solO
    rw [dif_pos hex]
    have : hex.choose = y := h.same hex.choose_spec.1 hy (by rw [hex.choose_spec.2, hp])
    rw [this]
  have e2 : sum8 (fun i => if ∃ z ∈ o, z.b = (i : Nat) then 0 else cf y.t i * solO o f i) = sum8 (fun i => if ∃ z ∈ o, z.b = (i : Nat) then 0 else cf y.t i * f i) := by
    apply sum8_ext
    intro i hi
    by_cases hz : ∃ z ∈ o, z.b = (i : Nat)
    · rw [if_pos hz, if_pos hz]
    · rw [if_neg hz, if_neg hz]; unfold solO; rw [dif_neg hz]
  rw [e1, e2]; grind
theorem solO_free {o : List GR} {f : Nat → Rat} {u : Nat} (h : ¬ ∃ y ∈ o, y.b = (u : Int)) : solO o f u = f u := by
  unfold solO; rw [dif_neg h]
open Classical in
theorem RR.solO_piv {S : (Nat → Rat) → Prop} {o : List GR} (h : RR S o) {y : GR} (hy : y ∈ o) {p : Nat} (hp : y.b = p) (f : Nat → Rat) : solO o f p = -(ck y.t + sum8 (fun i => if ∃ z ∈ o, z.b = (i : Nat) then 0 else cf y.t i * f i)) := by
  have hex : ∃ y ∈ o, y.b = (p : Int) := ⟨y, hy, hp⟩
  unfold solO
  rw [dif_pos hex]
  have : hex.choose = y := h.same hex.choose_spec.1 hy (by rw [hex.choose_spec.2, hp])
  rw [this]
/-- 1 at one place. -/
def unit (u : Nat) (i : Nat) : Rat := if i = u then 1 else 0
open Classical in
theorem RR.piv_sub {S : (Nat → Rat) → Prop} {o o' : List GR} (h : RR S o) (h' : RR S o') {y' : GR} (hy' : y' ∈ o') : ∃ y ∈ o, y.b = y'.b := by
  apply Classical.byContradiction
  intro hno
  obtain ⟨_, u, hu, hu8⟩ := h'.good y' hy'
  have hfree : ¬ ∃ y ∈ o, y.b = (u : Int) := by rw [← hu]; exact hno
  have s0 := (h'.sol _).1 (h.solves (fun _ => 0)) y' hy'
  have s1 := (h'.sol _).1 (h.solves (unit u)) y' hy'
  have hd : ∀ i, i < 8 → cf y'.t i * solO o (unit u) i - cf y'.t i * solO o (fun _ => 0) i = if i = u then 1 else 0 := by
    intro i hi
    rcases Nat.lt_trichotomy i u with c | c | c
    · rw [h'.low y' hy' u i hu c, if_neg (by omega)]; grind
    · subst c
      rw [solO_free hfree, solO_free hfree, if_pos rfl, h'.piv y' hy' y' hy' i hu, if_pos rfl]
      simp only [unit, if_true]; grind
    · rw [if_neg (by omega)]
      by_cases hz : ∃ z ∈ o, z.b = (i : Int)
      · obtain ⟨z, hz, hzi⟩ := hz
        rw [h.solO_piv hz hzi, h.solO_piv hz hzi]
        have : sum8 (fun i => if ∃ z ∈ o, z.b = (i : Nat) then 0 else cf z.t i * unit u i) = sum8 (fun i => if ∃ z ∈ o, z.b = (i : Nat) then 0 else cf z.t i * 0) := by
          apply sum8_ext
          intro k hk
          by_cases hq : ∃ z ∈ o, z.b = (k : Nat)
          · rw [if_pos hq, if_pos hq]
          · rw [if_neg hq, if_neg hq]
            by_cases e : k = u
            · subst e; rw [h.low z hz i k hzi c]; grind
            · simp only [unit, if_neg e]
        rw [this]; grind
      · rw [solO_free hz, solO_free hz]
        simp only [unit]; rw [if_neg (by omega)]; grind
  simp only [W.ev] at s0 s1
  have : sum8 (fun i => cf y'.t i * solO o (unit u) i) - sum8 (fun i => cf y'.t i * solO o (fun _ => 0) i) = 1 := by
    rw [show sum8 (fun i => cf y'.t i * solO o (unit u) i) - sum8 (fun i => cf y'.t i * solO o (fun _ => 0) i) = sum8 (fun i => cf y'.t i * solO o (unit u) i - cf y'.t i * solO o (fun _ => 0) i) by simp only [sum8]; grind]
    rw [sum8_ext hd, sum8_one _ u hu8 (fun i _ hi => by rw [if_neg hi]), if_pos rfl]
  grind
open Classical in
/-- The same solutions have the same solved rows. -/
theorem RR.row_eq {S : (Nat → Rat) → Prop} {o o' : List GR} (h : RR S o) (h' : RR S o') {y y' : GR} (hy : y ∈ o) (hy' : y' ∈ o') (e : y.b = y'.b) : y = y' := by
  obtain ⟨g, p, hp, hp8⟩ := h.good y hy
  have g' := (h'.good y' hy').1
  have hp' : y'.b = p := by rw [← e]; exact hp
  have iff : ∀ i : Nat, (∃ z ∈ o, z.b = (i : Int)) ↔ (∃ z ∈ o', z.b = (i : Int)) := by
    intro i
    constructor
    · rintro ⟨z, hz, hzi⟩
      obtain ⟨z', hz', h2⟩ := h'.piv_sub h hz
      exact ⟨z', hz', by rw [h2, hzi]⟩
    · rintro ⟨z, hz, hzi⟩
      obtain ⟨z', hz', h2⟩ := h.piv_sub h' hz
      exact ⟨z', hz', by rw [h2, hzi]⟩
  have key : ∀ f : Nat → Rat, ck y.t + sum8 (fun i => if ∃ z ∈ o, z.b = (i : Nat) then 0 else cf y.t i * f i) = ck y'.t + sum8 (fun i => if ∃ z ∈ o, z.b = (i : Nat) then 0 else cf y'.t i * f i) := by
    intro f
    have s := h.solves f
    have s1 := (h.sol _).1 s y hy
    have s2 := (h'.sol _).1 s y' hy'
    rw [h.ev hy hp] at s1
    rw [h'.ev hy' hp'] at s2
    have q1 : sum8 (fun i => if ∃ z ∈ o, z.b = (i : Nat) then 0 else cf y.t i * solO o f i) = sum8 (fun i => if ∃ z ∈ o, z.b = (i : Nat) then 0 else cf y.t i * f i) := by
      apply sum8_ext
      intro i hi
      by_cases hz : ∃ z ∈ o, z.b = (i : Nat)
      · rw [if_pos hz, if_pos hz]
      · rw [if_neg hz, if_neg hz, solO_free hz]
    have q2 : sum8 (fun i => if ∃ z ∈ o', z.b = (i : Nat) then 0 else cf y'.t i * solO o f i) = sum8 (fun i => if ∃ z ∈ o, z.b = (i : Nat) then 0 else cf y'.t i * f i) := by
      apply sum8_ext
      intro i hi
      by_cases hz : ∃ z ∈ o, z.b = (i : Nat)
      · rw [if_pos hz, if_pos ((iff i).1 hz)]
      · rw [if_neg hz, if_neg (fun hh => hz ((iff i).2 hh)), solO_free hz]
    rw [q1] at s1
    rw [q2] at s2
    grind
  have k0 : ck y.t = ck y'.t := by
    have := key (fun _ => 0)
    rw [sum8_zero (fun i _ => by split <;> grind), sum8_zero (fun i _ => by split <;> grind)] at this
    grind
  have hc : ∀ i, i < 8 → cf y.t i = cf y'.t i := by
    intro i hi
    by_cases hz : ∃ z ∈ o, z.b = (i : Int)
    · obtain ⟨z, hz1, hzi⟩ := hz
      obtain ⟨z', hz', h2⟩ := h'.piv_sub h hz1
      rw [h.piv z hz1 y hy i hzi, h'.piv z' hz' y' hy' i (by rw [h2, hzi]), h2, e]
    · have := key (unit i)
      rw [k0, sum8_one _ i hi (fun k _ hk => by simp only [unit, if_neg hk]; split <;> grind), sum8_one _ i hi (fun k _ hk => by simp only [unit, if_neg hk]; split <;> grind), if_neg hz, if_neg hz] at this
      simp only [unit, if_true] at this
      grind
  have := T_ext g.r g'.r g.m g'.m k0 hc
  obtain ⟨t, b⟩ := y
  obtain ⟨t', b'⟩ := y'
  dsimp only at *
  subst e
  rw [this]
theorem sorted_eq : ∀ {o o' : List GR}, o.Pairwise (fun x y => x.b < y.b) → o'.Pairwise (fun x y => x.b < y.b) → (∀ x, x ∈ o ↔ x ∈ o') → o = o'
  | [], [], _, _, _ => rfl
  | [], y :: o', _, _, h => absurd ((h y).2 (List.mem_cons_self)) (by simp)
  | x :: o, [], _, _, h => absurd ((h x).1 (List.mem_cons_self)) (by simp)
  | x :: o, y :: o', h1, h2, h => by
    rw [List.pairwise_cons] at h1 h2
    have e : x = y := by
      rcases List.mem_cons.1 ((h x).1 List.mem_cons_self) with e | e
      · exact e
      · rcases List.mem_cons.1 ((h y).2 List.mem_cons_self) with e' | e'
        · exact e'.symm
        · have := h1.1 y e'; have := h2.1 x e; omega
    subst e
    rw [sorted_eq h1.2 h2.2 (fun z => ?_)]
    constructor
    · intro hz
      rcases List.mem_cons.1 ((h z).1 (List.mem_cons_of_mem _ hz)) with e | e
      · subst e; have := h1.1 z hz; omega
      · exact e
    · intro hz
      rcases List.mem_cons.1 ((h z).2 (List.mem_cons_of_mem _ hz)) with e | e
      · subst e; have := h2.1 z hz; omega
      · exact e
theorem RR.unique {S : (Nat → Rat) → Prop} {o o' : List GR} (h : RR S o) (h' : RR S o') : o = o' := by
  refine sorted_eq h.inc h'.inc (fun x => ⟨fun hx => ?_, fun hx => ?_⟩)
  · obtain ⟨y, hy, e⟩ := h'.piv_sub h hx
    rw [h.row_eq h' hx hy e.symm]; exact hy
  · obtain ⟨y, hy, e⟩ := h.piv_sub h' hx
    rw [h'.row_eq h hx hy e.symm]; exact hy
end Go.Proofs.Ytffpdaejemmgpaa.W
