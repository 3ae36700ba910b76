/- This file holds the plain law: what gauss.Solve answers. -/
import Derived.Test.Ytffpdaejemmgpaap4
namespace Go.Proofs.Ytffpdaejemmgpaa.W
set_option linter.unusedVariables false
set_option linter.unusedSimpArgs false
/-- What gauss.Solve answers. -/
def startS (l : List T) : List GR := l.map fun t => ⟨ownS t, -1⟩
def badS (l : List T) : Bool := decide (400 < l.length) || l.any fun t => !rightT t
structure GOut where
  a : List T
  p : List Int
  s : Int
def outOf (R : List GR) : GOut :=
  if R.any (fun y => y.b == -1 && y.t.k.n != 0) then ⟨[], [], 1⟩ else ⟨(R.filter taken).map GR.t, (R.filter taken).map GR.b, 0⟩
def GSol (l : List T) (r : GOut) : Prop :=
  (badS l = true ∧ r = ⟨[], [], 2⟩) ∨ (badS l = false ∧ (solveN (startS l, false) 8).2 = true ∧ r = ⟨[], [], 2⟩) ∨
  (badS l = false ∧ (solveN (startS l, false) 8).2 = false ∧ ∃ R : List GR, R.Perm (solveN (startS l, false) 8).1 ∧ R.Pairwise (fun x y => x.b ≤ y.b) ∧ r = outOf R)
def AllS (l : List T) (x : Nat → Rat) : Prop := ∀ t ∈ l, ev t x = 0
theorem badS_false {l : List T} (h : badS l = false) : l.length ≤ 400 ∧ ∀ t ∈ l, rightT t = true := by
  simp only [badS, Bool.or_eq_false_iff, decide_eq_false_iff_not, List.any_eq_false, Bool.not_eq_true] at h
  exact ⟨by omega, fun t ht => by simpa using h.2 t ht⟩
/-- The three ways. -/
theorem GSol.ways {l : List T} {r : GOut} (h : GSol l r) (hw : ∀ t ∈ l, t.wf) :
    r = ⟨[], [], 2⟩ ∨ (r = ⟨[], [], 1⟩ ∧ ∀ x, ¬ AllS l x) ∨ ∃ o, r = ⟨o.map GR.t, o.map GR.b, 0⟩ ∧ RR (AllS l) o := by
  rcases h with ⟨_, h⟩ | ⟨_, _, h⟩ | ⟨hb, ho, R, hp, hs, h⟩
  · exact .inl h
  · exact .inl h
  · have hI := solveN_inv (Inv.start l (badS_false hb).2 hw) 8 ho
    unfold outOf at h
    by_cases hu : (R.any fun y => y.b == -1 && y.t.k.n != 0) = true
    · rw [if_pos hu] at h
      refine .inr (.inl ⟨h, fun x hx => ?_⟩)
      rw [List.any_eq_true] at hu
      obtain ⟨y, hy, hh⟩ := hu
      simp only [Bool.and_eq_true, beq_iff_eq, bne_iff_ne] at hh
      exact hI.unsat (hp.mem_iff.1 hy) hh.1 hh.2 x hx
    · rw [if_neg hu] at h
      refine .inr (.inr ⟨_, h, hI.rr hp hs (fun y hy hb => ?_)⟩)
      rw [Bool.not_eq_true, List.any_eq_false] at hu
      have := hu y hy
      simpa [hb] using this
theorem RR.sat {S : (Nat → Rat) → Prop} {o : List GR} (h : RR S o) : ∃ x, S x := ⟨_, h.solves fun _ => 0⟩
/-- In another order. -/
theorem GSol.order {l m : List T} {r r' : GOut} (h : GSol l r) (h' : GSol m r') (hw : ∀ t ∈ l, t.wf) (hm : ∀ t, t ∈ m ↔ t ∈ l) (h2 : r.s ≠ 2) (h2' : r'.s ≠ 2) : r = r' := by
  have hS : ∀ x, AllS m x ↔ AllS l x := fun x => ⟨fun h t ht => h t ((hm t).2 ht), fun h t ht => h t ((hm t).1 ht)⟩
  rcases h.ways hw with e | ⟨e, hu⟩ | ⟨o, e, ho⟩
  · rw [e] at h2; exact absurd rfl h2
  all_goals rcases h'.ways (fun t ht => hw t ((hm t).1 ht)) with e' | ⟨e', hu'⟩ | ⟨o', e', ho'⟩
  any_goals (rw [e'] at h2'; exact absurd rfl h2')
  · rw [e, e']
  · obtain ⟨x, hx⟩ := ho'.sat
    exact absurd ((hS x).1 hx) (hu x)
  · obtain ⟨x, hx⟩ := ho.sat
    exact absurd ((hS x).2 hx) (hu' x)
  · have ho2 : RR (AllS l) o' := ⟨ho'.good, ho'.inc, ho'.piv, ho'.low, fun x => by rw [← hS, ho'.sol]⟩
    rw [e, e', ho.unique ho2]
/-- Each taken variable stands once, and they rise. -/
theorem GSol.pivots {l : List T} {r : GOut} (h : GSol l r) (hw : ∀ t ∈ l, t.wf) (hs : r.s = 0) :
    r.a.length = r.p.length ∧ ∀ (i : Nat) (hi : i < r.p.length), (∀ (hi0 : 0 < i), r.p[i - 1] < r.p[i]) ∧ 0 ≤ r.p[i] ∧ r.p[i] ≤ 7 ∧ ∀ (k : Nat) (hk : k < r.a.length), atT r.a[k] r.p[i] = if k = i then ⟨1, 1⟩ else ⟨0, 1⟩ := by
  rcases h.ways hw with e | ⟨e, hu⟩ | ⟨o, e, ho⟩
  · rw [e] at hs; cases hs
  · rw [e] at hs; cases hs
  · subst e
    dsimp only
    refine ⟨by simp, fun i hi => ?_⟩
    simp only [List.length_map] at hi
    have hinc := ho.inc
    rw [List.pairwise_iff_getElem] at hinc
    obtain ⟨_, u, hu, hu8⟩ := ho.good _ (List.getElem_mem hi)
    refine ⟨fun h0 => ?_, ?_, ?_, fun k hk => ?_⟩
    · simp only [List.getElem_map]; exact hinc (i - 1) i (by omega) hi (by omega)
    · simp only [List.getElem_map]; omega
    · simp only [List.getElem_map]; omega
    · simp only [List.length_map] at hk
      simp only [List.getElem_map]
      rw [hu]
      have g := (ho.good _ (List.getElem_mem hk)).1
      have hp := ho.piv _ (List.getElem_mem hi) _ (List.getElem_mem hk) u hu
      by_cases c : k = i
      · subst c
        rw [if_pos rfl] at hp ⊢
        exact val_inj (atT_rt g.r u) (by decide) (by rw [val_one]; exact hp)
      · have hne : o[i].b ≠ o[k].b := by
          rcases Nat.lt_or_gt_of_ne c with c | c
          · have := hinc k i hk hi c; omega
          · have := hinc i k hi hk c; omega
        rw [if_neg hne] at hp
        rw [if_neg c]
        exact val_inj (atT_rt g.r u) (by decide) (by rw [val_zero]; exact hp)
theorem RR.getElem_inc {S : (Nat → Rat) → Prop} {o : List GR} (h : RR S o) {i j : Nat} (hi : i < o.length) (hj : j < o.length) (hij : i < j) : o[i].b < o[j].b := by
  have := h.inc
  rw [List.pairwise_iff_getElem] at this
  exact this i j hi hj hij
theorem idx_set {α : Type} {l : List α} {k : Nat} {x : α} (h : l[k]? = some x) : l.set k x = l := by
  obtain ⟨hm, e⟩ := List.getElem?_eq_some_iff.1 h
  rw [← e]; simp
theorem loopS_id {k v : Nat} {pv : T} {R : List GR} (h : ∀ j y, j ≠ k → R[j]? = some y → (atT y.t v).n = 0) (m : Nat) : loopS k v pv (R, false) m = (R, false) := by
  induction m with
  | zero => rfl
  | succ m ih =>
    rw [loopS, ih]
    unfold stepS
    dsimp only
    cases hy : R[m]? with
    | none => rfl
    | some y =>
      dsimp only
      rw [if_pos]
      by_cases e : m = k
      · simp [e]
      · simp [h m y e hy]
/-- A row that is solved is taken as it is. -/
theorem takeS_id {k v : Nat} {x : GR} {R : List GR} (hx : R[k]? = some x) (hg : Good x.t) (h1 : atT x.t v = ⟨1, 1⟩) (h0 : ∀ j y, j ≠ k → R[j]? = some y → (atT y.t v).n = 0) : takeS k v x R = (R.set k ⟨x.t, v⟩, false) := by
  have e1 : mulS ⟨1, 1⟩ (flip (⟨1, 1⟩ : Q)) = (⟨1, 1⟩, 0) := mulS_one (by decide) (by simp [Q.wf, I64])
  unfold takeS
  rw [h1, e1]
  dsimp only
  rw [scaleS_one hg.r hg.w hg.m]
  dsimp only
  rw [show ((0 : Int) != 0 || (0 : Int) != 0) = false from rfl]
  apply loopS_id
  intro j y hj hy
  rw [List.getElem?_set_ne (by omega)] at hy
  exact h0 j y hj hy
/-- The rows of a solved system when the variables below v are done. -/
def half (o : List GR) (v : Nat) : List GR := o.map fun y : GR => (⟨y.t, if y.b < (v : Int) then y.b else -1⟩ : GR)
theorem half_step {S : (Nat → Rat) → Prop} {o : List GR} (h : RR S o) (v : Nat) : roundS v (half o v, false) = (half o (v + 1), false) := by
  have hget : ∀ (w j : Nat), (half o w)[j]? = (o[j]?).map fun y : GR => (⟨y.t, if y.b < (w : Int) then y.b else -1⟩ : GR) := fun w j => by simp [half]
  by_cases hex : ∃ k, ∃ h : k < o.length, o[k].b = (v : Int)
  · obtain ⟨k, hk, hkb⟩ := hex
    have hsel : (half o v).findIdx? (selB v) = some k := by
      rw [List.findIdx?_eq_some_iff_getElem]
      refine ⟨by simpa [half] using hk, ?_, ?_⟩
      · simp only [half, List.getElem_map, hkb]
        have hp := h.piv _ (List.getElem_mem hk) _ (List.getElem_mem hk) v hkb
        rw [if_pos rfl] at hp
        have g := (h.good _ (List.getElem_mem hk)).1
        have : (atT o[k].t v).n ≠ 0 := by
          intro e
          have := (val_eq_zero (atT_rt g.r v)).2 e
          rw [cf] at hp; rw [hp] at this; revert this; decide
        simp [selB, this]
      · intro j hj
        have hjo : j < o.length := by omega
        have := h.getElem_inc hjo hk hj
        obtain ⟨_, u, hu, _⟩ := h.good _ (List.getElem_mem hjo)
        simp only [half, List.getElem_map, selB]
        rw [if_pos (by omega)]
        simp; omega
    have g := (h.good _ (List.getElem_mem hk)).1
    unfold roundS
    dsimp only
    rw [hsel]
    dsimp only
    rw [if_neg (by simp), hget, List.getElem?_eq_getElem hk]
    dsimp only [Option.map]
    have hp := h.piv _ (List.getElem_mem hk) _ (List.getElem_mem hk) v hkb
    rw [if_pos rfl] at hp
    rw [takeS_id (x := ⟨o[k].t, if o[k].b < (v : Int) then o[k].b else -1⟩) (by rw [hget, List.getElem?_eq_getElem hk]; rfl) g (val_inj (atT_rt g.r v) (by decide) (by rw [val_one]; exact hp))]
    · dsimp only
      congr 1
      apply List.ext_getElem?
      intro j
      rw [hget]
      by_cases e : j = k
      · subst e
        rw [List.getElem?_set_self (by simpa [half] using hk), List.getElem?_eq_getElem hk]
        dsimp only [Option.map]
        rw [if_pos (by omega), hkb]
      · rw [List.getElem?_set_ne (by omega), hget]
        cases hj : o[j]? with
        | none => rfl
        | some y =>
          dsimp only [Option.map]
          obtain ⟨hj1, hj2⟩ := List.getElem?_eq_some_iff.1 hj
          have hne : y.b ≠ v := by
            rw [← hj2]
            rcases Nat.lt_or_gt_of_ne e with c | c
            · have := h.getElem_inc hj1 hk c; omega
            · have := h.getElem_inc hk hj1 c; omega
          by_cases c : y.b < v
          · rw [if_pos c, if_pos (by omega)]
          · rw [if_neg c, if_neg (by omega)]
    · intro j y hj hy
      rw [hget] at hy
      cases hj' : o[j]? with
      | none => rw [hj'] at hy; cases hy
      | some z =>
        rw [hj'] at hy
        dsimp only [Option.map] at hy
        cases hy
        dsimp only
        obtain ⟨hj1, hj2⟩ := List.getElem?_eq_some_iff.1 hj'
        subst hj2
        have hp := h.piv _ (List.getElem_mem hk) _ (List.getElem_mem hj1) v hkb
        have hne : o[k].b ≠ o[j].b := by
          rcases Nat.lt_or_gt_of_ne hj with c | c
          · have := h.getElem_inc hj1 hk c; omega
          · have := h.getElem_inc hk hj1 c; omega
        rw [if_neg hne] at hp
        exact (val_eq_zero (atT_rt (h.good _ (List.getElem_mem hj1)).1.r v)).1 hp
  · have hno : ∀ y ∈ o, y.b ≠ (v : Int) := by
      intro y hy e
      obtain ⟨j, hj⟩ := List.mem_iff_getElem?.1 hy
      obtain ⟨hj1, hj2⟩ := List.getElem?_eq_some_iff.1 hj
      exact hex ⟨j, hj1, by rw [hj2, e]⟩
    have hsel : (half o v).findIdx? (selB v) = none := by
      rw [List.findIdx?_eq_none_iff]
      intro z hz
      obtain ⟨y, hy, rfl⟩ := List.mem_map.1 hz
      simp only [selB]
      obtain ⟨g, u, hu, _⟩ := h.good y hy
      by_cases c : y.b < v
      · rw [if_pos c]; simp; omega
      · rw [if_neg c]
        have := h.low y hy u v hu (by have := hno y hy; omega)
        have := (val_eq_zero (atT_rt g.r v)).1 this
        simp [this]
    unfold roundS
    dsimp only
    rw [hsel]
    dsimp only
    congr 1
    apply List.map_congr_left
    intro y hy
    have := hno y hy
    by_cases c : y.b < v
    · rw [if_pos c, if_pos (by omega)]
    · rw [if_neg c, if_neg (by omega)]
theorem half_all {S : (Nat → Rat) → Prop} {o : List GR} (h : RR S o) (v : Nat) : solveN (half o 0, false) v = (half o v, false) := by
  induction v with
  | zero => rfl
  | succ v ih => rw [solveN, ih, half_step h]
theorem RR.len {S : (Nat → Rat) → Prop} {o : List GR} (h : RR S o) : o.length ≤ 8 := by
  have hk : ∀ k (hk : k < o.length), (k : Int) ≤ o[k].b := by
    intro k
    induction k with
    | zero => intro hk; obtain ⟨_, u, hu, _⟩ := h.good _ (List.getElem_mem hk); omega
    | succ k ih =>
      intro hk
      have := ih (by omega)
      have := h.getElem_inc (by omega) hk (Nat.lt_succ_self k)
      omega
  apply Classical.byContradiction
  intro hc
  have := hk 8 (by omega)
  obtain ⟨_, u, hu, _⟩ := h.good _ (List.getElem_mem (show 8 < o.length by omega))
  omega
/-- What is solved is solved. -/
theorem GSol.twice {l : List T} {r r' : GOut} (h : GSol l r) (hw : ∀ t ∈ l, t.wf) (hs : r.s = 0) (h' : GSol r.a r') : r' = r := by
  rcases h.ways hw with e | ⟨e, hu⟩ | ⟨o, e, ho⟩
  · rw [e] at hs; cases hs
  · rw [e] at hs; cases hs
  · subst e
    dsimp only at h'
    have hgood : ∀ y ∈ o, Good y.t := fun y hy => (ho.good y hy).1
    have e0 : startS (o.map GR.t) = half o 0 := by
      simp only [startS, half, List.map_map]
      apply List.map_congr_left
      intro y hy
      obtain ⟨_, u, hu, _⟩ := ho.good y hy
      simp only [Function.comp]
      rw [ownS_self (hgood y hy).r (hgood y hy).m, if_neg (by omega)]
    have e1 : half o 8 = o := by
      have : o.map (fun y : GR => (⟨y.t, if y.b < ((8 : Nat) : Int) then y.b else -1⟩ : GR)) = o.map id := by
        apply List.map_congr_left
        intro y hy
        obtain ⟨_, u, hu, _⟩ := ho.good y hy
        rw [if_pos (by omega)]; rfl
      rw [List.map_id] at this
      exact this
    have hb : badS (o.map GR.t) = false := by
      simp only [badS, Bool.or_eq_false_iff, decide_eq_false_iff_not, List.length_map, List.any_eq_false]
      refine ⟨by have := ho.len; omega, fun t ht => ?_⟩
      obtain ⟨y, hy, rfl⟩ := List.mem_map.1 ht
      simp [(hgood y hy).r]
    have hsol : solveN (startS (o.map GR.t), false) 8 = (o, false) := by rw [e0, half_all ho, e1]
    have hall : ∀ y ∈ o, y.b ≠ -1 := fun y hy => by obtain ⟨_, u, hu, _⟩ := ho.good y hy; omega
    rcases h' with ⟨h1, _⟩ | ⟨_, h1, _⟩ | ⟨_, _, R, hp, hsr, hr⟩
    · rw [hb] at h1; cases h1
    · rw [hsol] at h1; cases h1
    · rw [hsol] at hp
      dsimp only at hp
      have hR : R = o := by
        refine sorted_eq ?_ ho.inc (fun x => hp.mem_iff)
        rw [List.pairwise_iff_getElem] at hsr ⊢
        intro i j hi hj hij
        have h1 := hsr i j hi hj hij
        have hnd : R.Pairwise (fun x y => x.b ≠ y.b) := (hp.pairwise_iff (fun {x y} h => Ne.symm h)).2 (ho.inc.imp (fun h => by omega))
        rw [List.pairwise_iff_getElem] at hnd
        have := hnd i j hi hj hij
        omega
      subst hR
      rw [hr]
      unfold outOf
      rw [if_neg]
      · rw [List.filter_eq_self.2 (fun y hy => by simpa [taken] using hall y hy)]
      · rw [Bool.not_eq_true, List.any_eq_false]
        intro y hy
        simp [hall y hy]
/-- The same solutions. -/
theorem GSol.keeps {l : List T} {r : GOut} (h : GSol l r) (hw : ∀ t ∈ l, t.wf) :
    r.s = 2 ∨ (r.s = 1 ∧ ∀ x, ¬ AllS l x) ∨ (r.s = 0 ∧ (∀ x, AllS l x ↔ AllS r.a x)) := by
  rcases h.ways hw with e | ⟨e, hu⟩ | ⟨o, e, ho⟩
  · rw [e]; exact .inl rfl
  · rw [e]; exact .inr (.inl ⟨rfl, hu⟩)
  · subst e
    refine .inr (.inr ⟨rfl, fun x => ?_⟩)
    rw [ho.sol]
    constructor
    · intro h t ht
      obtain ⟨y, hy, rfl⟩ := List.mem_map.1 ht
      exact h y hy
    · intro h y hy
      exact h y.t (List.mem_map.2 ⟨y, hy, rfl⟩)
theorem GSol.good {l : List T} {r : GOut} (h : GSol l r) (hw : ∀ t ∈ l, t.wf) : (∀ t ∈ r.a, Good t) ∧ r.a.length ≤ 8 ∧ r.p.length ≤ 8 ∧ (∀ v ∈ r.p, 0 ≤ v ∧ v ≤ 7) ∧ (r.s ≠ 0 → r.a = [] ∧ r.p = []) ∧ r.p.Pairwise (· < ·) := by
  rcases h.ways hw with e | ⟨e, hu⟩ | ⟨o, e, ho⟩
  · subst e; simp
  · subst e; simp
  · subst e
    refine ⟨fun t ht => ?_, by simpa using ho.len, by simpa using ho.len, fun v hv => ?_, fun h => absurd rfl h, ?_⟩
    · obtain ⟨y, hy, rfl⟩ := List.mem_map.1 ht
      exact (ho.good y hy).1
    · obtain ⟨y, hy, rfl⟩ := List.mem_map.1 hv
      obtain ⟨_, u, hu, _⟩ := ho.good y hy
      omega
    · exact List.pairwise_map.2 ho.inc
end Go.Proofs.Ytffpdaejemmgpaa.W
