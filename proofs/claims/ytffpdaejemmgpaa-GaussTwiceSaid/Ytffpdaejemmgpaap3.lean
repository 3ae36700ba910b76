/- This file holds the plain law: what gauss.take and gauss.solve keep. -/
import Derived.Test.Ytffpdaejemmgpaap2
namespace Go.Proofs.Ytffpdaejemmgpaa.W
set_option linter.unusedVariables false
set_option linter.unusedSimpArgs false
structure Good (t : T) : Prop where
  r : rightT t = true
  w : t.wf
  m : Trim t.c
def cf (t : T) (i : Nat) : Rat := val (atT t i)
def ck (t : T) : Rat := val t.k
def sum8 (f : Nat → Rat) : Rat := f 0 + f 1 + f 2 + f 3 + f 4 + f 5 + f 6 + f 7
/-- What a term comes to. -/
def ev (t : T) (x : Nat → Rat) : Rat := ck t + sum8 (fun i => cf t i * x i)
/-- One row less so many times the pivot. -/
structure Less (v : Nat) (pv y z : T) : Prop where
  c : ∀ i, cf z i = cf y i - cf y v * cf pv i
  k : ck z = ck y - cf y v * ck pv
theorem step_ok {k v m : Nat} {pv : T} (hp : Good pv) {R : List GR} (h : (stepS k v pv m (R, false)).2 = false) {y : GR} (hy : R[m]? = some y) (hgy : Good y.t) :
    ∃ z : GR, (stepS k v pv m (R, false)).1 = R.set m z ∧ Good z.t ∧ z.b = y.b ∧ if m = k then z = y else Less v pv y.t z.t := by
  have hset : R.set m y = R := by
    obtain ⟨hm, e⟩ := List.getElem?_eq_some_iff.1 hy
    rw [← e]; simp
  unfold stepS at h ⊢
  dsimp only at h ⊢
  rw [hy] at h ⊢
  dsimp only at h ⊢
  by_cases hk : m = k
  · refine ⟨y, by rw [if_pos (by simp [hk]), hset], hgy, rfl, by rw [if_pos hk]⟩
  · by_cases h0 : (atT y.t v).n = 0
    · refine ⟨y, by rw [if_pos (by simp [h0]), hset], hgy, rfl, ?_⟩
      rw [if_neg hk]
      have hz : cf y.t v = 0 := (val_eq_zero (atT_rt hgy.r v)).2 h0
      exact ⟨fun i => by rw [hz]; grind, by rw [hz]; grind⟩
    · rw [if_neg (by simp [hk, h0])] at h ⊢
      by_cases h1 : (scaleS pv (lessQ (atT y.t v))).2 = 0
      · rw [if_neg (by simp [h1])] at h ⊢
        have h2 : (addTS y.t (scaleS pv (lessQ (atT y.t v))).1).2 = 0 := by simpa using h
        obtain ⟨l1, l2, l3⟩ := lessQ_ok (atT_rt hgy.r v) (atT_w hgy.w v)
        obtain ⟨s1, s2, s3, s4, s5⟩ := scaleS_ok hp.r l1 h1
        obtain ⟨a1, a2, a3, a4, a5⟩ := addTS_ok hgy.r s1 h2
        refine ⟨_, rfl, ⟨a1, a2, a3⟩, rfl, ?_⟩
        rw [if_neg hk]
        refine ⟨fun i => ?_, ?_⟩
        · simp only [cf]; rw [a5, s5, l3]; grind
        · simp only [ck, cf]; rw [a4, s4, l3]; grind
      · rw [if_pos (by simp [h1])] at h
        cases h
theorem step_over {k v m : Nat} {pv : T} {R : List GR} : stepS k v pv m (R, true) = (R, true) := by
  unfold stepS
  split
  · rfl
  · rw [if_pos (by simp)]
theorem step_none {k v m : Nat} {pv : T} {R : List GR} {o : Bool} (h : R[m]? = none) : stepS k v pv m (R, o) = (R, o) := by
  unfold stepS
  dsimp only; rw [h]
theorem loopS_ok {k v : Nat} {pv : T} (hp : Good pv) {R0 : List GR} {o0 : Bool} (hg : ∀ y ∈ R0, Good y.t) (m : Nat) (h : (loopS k v pv (R0, o0) m).2 = false) :
    o0 = false ∧ (loopS k v pv (R0, o0) m).1.length = R0.length ∧ ∀ j y, R0[j]? = some y → ∃ z, (loopS k v pv (R0, o0) m).1[j]? = some z ∧ Good z.t ∧ z.b = y.b ∧
      if j < m ∧ j ≠ k then Less v pv y.t z.t else z = y := by
  induction m with
  | zero =>
    refine ⟨h, rfl, fun j y hy => ⟨y, hy, hg y (List.mem_of_getElem? hy), rfl, ?_⟩⟩
    rw [if_neg (by omega)]
  | succ m ih =>
    rw [loopS] at h ⊢
    generalize loopS k v pv (R0, o0) m = s at *
    obtain ⟨R, o⟩ := s
    have ho : o = false := by
      cases o
      · rfl
      · rw [step_over] at h; cases h
    subst ho
    obtain ⟨h1, h2, h3⟩ := ih rfl
    dsimp only at h2 h3
    cases hy : R0[m]? with
    | none =>
      have hn : R[m]? = none := by
        rw [List.getElem?_eq_none_iff] at hy ⊢; omega
      rw [step_none hn]
      refine ⟨h1, h2, fun j y hj => ?_⟩
      obtain ⟨z, z1, z2, z3, z4⟩ := h3 j y hj
      refine ⟨z, z1, z2, z3, ?_⟩
      have hjm : j < m := by
        have := (List.getElem?_eq_some_iff.1 hj).1
        have := List.getElem?_eq_none_iff.1 hy
        omega
      by_cases hjk : j ≠ k
      · rw [if_pos ⟨hjm, hjk⟩] at z4; rw [if_pos ⟨by omega, hjk⟩]; exact z4
      · rw [if_neg (by omega)] at z4 ⊢; exact z4
    | some y =>
      obtain ⟨z, z1, z2, z3, z4⟩ := h3 m y hy
      rw [if_neg (by omega)] at z4
      subst z4
      obtain ⟨u, u1, u2, u3, u4⟩ := step_ok hp h z1 z2
      rw [u1]
      refine ⟨h1, by rw [List.length_set]; exact h2, fun j y' hj => ?_⟩
      by_cases hjm : j = m
      · subst hjm
        rw [hy] at hj; cases hj
        refine ⟨u, by rw [List.getElem?_set_self (by rw [h2]; exact (List.getElem?_eq_some_iff.1 hy).1)], u2, u3, ?_⟩
        by_cases hjk : j = k
        · rw [if_pos hjk] at u4; rw [if_neg (by omega)]; exact u4
        · rw [if_neg hjk] at u4; rw [if_pos ⟨by omega, hjk⟩]; exact u4
      · obtain ⟨z', z1', z2', z3', z4'⟩ := h3 j y' hj
        refine ⟨z', by rw [List.getElem?_set_ne (by omega)]; exact z1', z2', z3', ?_⟩
        by_cases hc : j < m ∧ j ≠ k
        · rw [if_pos hc] at z4'; rw [if_pos ⟨by omega, hc.2⟩]; exact z4'
        · rw [if_neg hc] at z4'; rw [if_neg (by omega)]; exact z4'
/-- The pivot's own term: so many times. -/
structure Piv (v : Nat) (x z : T) : Prop where
  c : ∀ i, cf z i = cf x i * (cf x v)⁻¹
  k : ck z = ck x * (cf x v)⁻¹
theorem takeS_ok {k v : Nat} {x : GR} {R : List GR} (hx : R[k]? = some x) (hg : ∀ y ∈ R, Good y.t) (h0 : (atT x.t v).n ≠ 0) (h : (takeS k v x R).2 = false) :
    cf x.t v ≠ 0 ∧ (takeS k v x R).1.length = R.length ∧ ∃ pv : T, Piv v x.t pv ∧ (takeS k v x R).1[k]? = some ⟨pv, v⟩ ∧ Good pv ∧ ∀ j y, j ≠ k → R[j]? = some y → ∃ z, (takeS k v x R).1[j]? = some z ∧ Good z.t ∧ z.b = y.b ∧ Less v pv y.t z.t := by
  have hgx := hg x (List.mem_of_getElem? hx)
  have hk := (List.getElem?_eq_some_iff.1 hx).1
  have hc0 : cf x.t v ≠ 0 := fun e => h0 ((val_eq_zero (atT_rt hgx.r v)).1 e)
  obtain ⟨f1, f2, f3⟩ := flip_ok (atT_rt hgx.r v) (atT_w hgx.w v) h0
  have r1 : rightB ⟨1, 1⟩ = true := by decide
  unfold takeS at h ⊢
  have hover : (mulS ⟨1, 1⟩ (flip (atT x.t v))).2 = 0 ∧ (scaleS x.t (mulS ⟨1, 1⟩ (flip (atT x.t v))).1).2 = 0 := by
    generalize hm : R.length = m at h
    clear hm
    have : ∀ (pv : T) (R' : List GR) (o : Bool) (m : Nat), (loopS k v pv (R', o) m).2 = false → o = false := by
      intro pv R' o m
      induction m with
      | zero => exact fun h => h
      | succ m ih =>
        intro h
        apply ih
        rw [loopS] at h
        generalize loopS k v pv (R', o) m = s at *
        obtain ⟨s, o'⟩ := s
        cases o'
        · rfl
        · rw [step_over] at h; cases h
    have := this _ _ _ _ h
    simpa using this
  obtain ⟨b1, b2, b3⟩ := mulS_ok r1 f1 hover.1
  obtain ⟨s1, s2, s3, s4, s5⟩ := scaleS_ok hgx.r b1 hover.2
  generalize (scaleS x.t (mulS ⟨1, 1⟩ (flip (atT x.t v))).1) = PV at *
  generalize (mulS ⟨1, 1⟩ (flip (atT x.t v))) = BY at *
  have hpv : Good PV.1 := ⟨s1, s2, s3⟩
  obtain ⟨l1, l2, l3⟩ := loopS_ok (v := v) hpv (R0 := R.set k ⟨PV.1, v⟩) (fun y hy => by
    rcases List.mem_or_eq_of_mem_set hy with e | e
    · exact hg y e
    · rw [e]; exact hpv) R.length h
  have hb : val BY.1 = (cf x.t v)⁻¹ := by rw [b3, f3, val_one]; simp only [cf]; grind
  refine ⟨hc0, by rw [l2, List.length_set], PV.1, ⟨fun i => by simp only [cf]; rw [s5, hb]; rfl, by simp only [ck]; rw [s4, hb]⟩, ?_, hpv, ?_⟩
  · obtain ⟨z, z1, z2, z3, z4⟩ := l3 k ⟨PV.1, v⟩ (by rw [List.getElem?_set_self hk])
    rw [if_neg (by simp)] at z4
    rw [z1, z4]
  · intro j y hj hy
    obtain ⟨z, z1, z2, z3, z4⟩ := l3 j y (by rw [List.getElem?_set_ne (by omega)]; exact hy)
    rw [if_pos ⟨(List.getElem?_eq_some_iff.1 hy).1, hj⟩] at z4
    exact ⟨z, z1, z2, z3, z4⟩
theorem ev_less {v : Nat} {pv y z : T} (h : Less v pv y z) (x : Nat → Rat) : ev z x = ev y x - cf y v * ev pv x := by
  simp only [ev, sum8, h.c, h.k]
  grind
theorem ev_piv {v : Nat} {y z : T} (h : Piv v y z) (x : Nat → Rat) : ev z x = ev y x * (cf y v)⁻¹ := by
  simp only [ev, sum8, h.c, h.k]
  grind
/-- What holds of the rows when the variables below v are done; S are the solutions. -/
structure Inv (S : (Nat → Rat) → Prop) (v : Nat) (R : List GR) : Prop where
  good : ∀ y ∈ R, Good y.t
  b : ∀ y ∈ R, y.b = -1 ∨ ∃ u : Nat, y.b = u ∧ u < v
  one : ∀ (j : Nat) (y : GR) (u : Nat), R[j]? = some y → y.b = u → cf y.t u = 1 ∧ ∀ (j' : Nat) (y' : GR), j' ≠ j → R[j']? = some y' → cf y'.t u = 0
  free : ∀ y ∈ R, y.b = -1 → ∀ u, u < v → cf y.t u = 0
  low : ∀ y ∈ R, ∀ (p u : Nat), y.b = p → u < p → cf y.t u = 0
  sol : ∀ x, S x ↔ ∀ y ∈ R, ev y.t x = 0
theorem Inv.take {S : (Nat → Rat) → Prop} {v k : Nat} {R : List GR} {x : GR} (hI : Inv S v R) (hx : R[k]? = some x) (hb : x.b = -1) (h0 : (atT x.t v).n ≠ 0) (h : (takeS k v x R).2 = false) : Inv S (v + 1) (takeS k v x R).1 := by
  obtain ⟨c0, hl, pv, hp, hk, hgp, hr⟩ := takeS_ok hx hI.good h0 h
  generalize (takeS k v x R).1 = R' at *
  have hxm := List.mem_of_getElem? hx
  -- each new row comes of an old one
  have back : ∀ j z, R'[j]? = some z → (j = k ∧ z = ⟨pv, v⟩) ∨ (j ≠ k ∧ ∃ y, R[j]? = some y ∧ Good z.t ∧ z.b = y.b ∧ Less v pv y.t z.t) := by
    intro j z hz
    by_cases e : j = k
    · subst e; rw [hk] at hz; cases hz; exact .inl ⟨rfl, rfl⟩
    · have hj : j < R.length := by rw [← hl]; exact (List.getElem?_eq_some_iff.1 hz).1
      obtain ⟨z', z1, z2, z3, z4⟩ := hr j R[j] e (List.getElem?_eq_getElem hj)
      rw [hz] at z1; cases z1
      exact .inr ⟨e, _, List.getElem?_eq_getElem hj, z2, z3, z4⟩
  have mem : ∀ z ∈ R', ∃ j : Nat, R'[j]? = some z := fun z hz => List.mem_iff_getElem?.1 hz
  have pvu : ∀ u, u < v → cf pv u = 0 := fun u hu => by rw [hp.c, hI.free x hxm hb u hu]; grind
  have pv1 : cf pv v = 1 := by rw [hp.c]; grind
  refine ⟨?_, ?_, ?_, ?_, ?_, ?_⟩
  · intro z hz
    obtain ⟨j, hj⟩ := mem z hz
    rcases back j z hj with ⟨_, rfl⟩ | ⟨_, y, _, g, _⟩
    · exact hgp
    · exact g
  · intro z hz
    obtain ⟨j, hj⟩ := mem z hz
    rcases back j z hj with ⟨_, rfl⟩ | ⟨_, y, hy, _, e, _⟩
    · exact .inr ⟨v, rfl, by omega⟩
    · rcases hI.b y (List.mem_of_getElem? hy) with h | ⟨u, h, hu⟩
      · exact .inl (by rw [e, h])
      · exact .inr ⟨u, by rw [e, h], by omega⟩
  · intro j z u hj hu
    rcases back j z hj with ⟨e, rfl⟩ | ⟨e, y, hy, _, hzb, hz⟩
    · have : u = v := by dsimp only at hu; omega
      subst this
      refine ⟨pv1, fun j' y' hne hj' => ?_⟩
      rcases back j' y' hj' with ⟨e', _⟩ | ⟨_, y2, _, _, _, h2⟩
      · omega
      · rw [h2.c, pv1]; grind
    · have huv : u < v := by
        rcases hI.b y (List.mem_of_getElem? hy) with h | ⟨u', h, hu'⟩ <;> omega
      obtain ⟨o1, o2⟩ := hI.one j y u hy (by rw [← hzb]; exact hu)
      have ou := pvu u huv
      refine ⟨by rw [hz.c, o1, ou]; grind, fun j' y' hne hj' => ?_⟩
      rcases back j' y' hj' with ⟨e', rfl⟩ | ⟨_, y2, hy2, _, _, h2⟩
      · exact ou
      · rw [h2.c, o2 j' y2 hne hy2, ou]; grind
  · intro z hz hzb u hu
    obtain ⟨j, hj⟩ := mem z hz
    rcases back j z hj with ⟨_, rfl⟩ | ⟨_, y, hy, _, e, h2⟩
    · dsimp only at hzb; omega
    · by_cases huv : u = v
      · subst huv; rw [h2.c, pv1]; grind
      · rw [h2.c, hI.free y (List.mem_of_getElem? hy) (by rw [← e]; exact hzb) u (by omega), pvu u (by omega)]; grind
  · intro z hz p u hzb hu
    obtain ⟨j, hj⟩ := mem z hz
    rcases back j z hj with ⟨_, rfl⟩ | ⟨_, y, hy, _, e, h2⟩
    · dsimp only at hzb; exact pvu u (by omega)
    · have hpv' : p < v := by
        rcases hI.b y (List.mem_of_getElem? hy) with h | ⟨u', h, hu'⟩ <;> omega
      rw [h2.c, hI.low y (List.mem_of_getElem? hy) p u (by rw [← e]; exact hzb) hu, pvu u (by omega)]; grind
  · intro q
    rw [hI.sol q]
    constructor
    · intro hS z hz
      obtain ⟨j, hj⟩ := mem z hz
      have hx0 : ev pv q = 0 := by rw [ev_piv hp, hS x hxm]; grind
      rcases back j z hj with ⟨_, rfl⟩ | ⟨_, y, hy, _, e, h2⟩
      · exact hx0
      · rw [ev_less h2, hS y (List.mem_of_getElem? hy), hx0]; grind
    · intro hS y hy
      have hp0 : ev pv q = 0 := hS _ (List.mem_of_getElem? hk)
      obtain ⟨j, hj⟩ := List.mem_iff_getElem?.1 hy
      by_cases e : j = k
      · subst e; rw [hx] at hj; cases hj
        rw [ev_piv hp] at hp0
        have : (cf x.t v)⁻¹ ≠ 0 := by grind
        grind
      · obtain ⟨z, z1, _, _, z4⟩ := hr j y e hj
        have := hS z (List.mem_of_getElem? z1)
        rw [ev_less z4, hp0] at this
        grind
theorem Inv.skip {S : (Nat → Rat) → Prop} {v : Nat} {R : List GR} (hI : Inv S v R) (h : ∀ y ∈ R, selB v y = false) : Inv S (v + 1) R := by
  refine ⟨hI.good, fun y hy => ?_, hI.one, fun y hy hb u hu => ?_, hI.low, hI.sol⟩
  · rcases hI.b y hy with h | ⟨u, h, hu⟩
    · exact .inl h
    · exact .inr ⟨u, h, by omega⟩
  · by_cases e : u = v
    · subst e
      have := h y hy
      simp only [selB, hb, beq_self_eq_true, Bool.true_and, bne_eq_false_iff_eq] at this
      exact (val_eq_zero (atT_rt (hI.good y hy).r u)).2 this
    · exact hI.free y hy hb u (by omega)
/-- One variable's round. -/
def roundS (v : Nat) (s : List GR × Bool) : List GR × Bool :=
  match s.1.findIdx? (selB v) with
  | none => s
  | some k => if s.2 = true then s else match s.1[k]? with
    | none => s
    | some x => takeS k v x s.1
def solveN (s : List GR × Bool) : Nat → List GR × Bool
  | 0 => s
  | v + 1 => roundS v (solveN s v)
theorem solveN_inv {S : (Nat → Rat) → Prop} {R : List GR} {o : Bool} (hI : Inv S 0 R) (v : Nat) (h : (solveN (R, o) v).2 = false) : Inv S v (solveN (R, o) v).1 := by
  induction v with
  | zero => exact hI
  | succ v ih =>
    rw [solveN] at h ⊢
    generalize solveN (R, o) v = s at *
    obtain ⟨R', o'⟩ := s
    unfold roundS at h ⊢
    dsimp only at *
    cases hf : R'.findIdx? (selB v) with
    | none =>
      rw [hf] at h
      dsimp only at h ⊢
      refine (ih h).skip ?_
      rw [List.findIdx?_eq_none_iff] at hf
      exact fun y hy => by simpa using hf y hy
    | some k =>
      rw [hf] at h
      dsimp only at h ⊢
      cases o' with
      | true => simp at h
      | false =>
        rw [if_neg (by simp)] at h ⊢
        rw [List.findIdx?_eq_some_iff_getElem] at hf
        obtain ⟨hk, hs, _⟩ := hf
        have hx : R'[k]? = some R'[k] := List.getElem?_eq_getElem hk
        rw [hx] at h ⊢
        dsimp only at h ⊢
        have hsel : R'[k].b = -1 ∧ (atT R'[k].t v).n ≠ 0 := by
          simp only [selB, Bool.and_eq_true, beq_iff_eq, bne_iff_ne] at hs; exact hs
        exact (ih rfl).take hx hsel.1 hsel.2 h
end Go.Proofs.Ytffpdaejemmgpaa.W
