/- This file holds the plain law: terms are exact, or they run over. -/
import Derived.Test.Ytffpdaejemmgpaap1
namespace Go.Proofs.Ytffpdaejemmgpaa.W
set_option linter.unusedVariables false
set_option linter.unusedSimpArgs false
theorem flip_ok {q : Q} (h : rightB q = true) (hw : q.wf) (h0 : q.n ≠ 0) : rightB (flip q) = true ∧ (flip q).wf ∧ val (flip q) = (val q)⁻¹ := by
  obtain ⟨h1, h2, h3⟩ := rt.1 h
  obtain ⟨⟨w1, w2⟩, w3, w4⟩ := hw
  obtain ⟨n, d⟩ := q
  dsimp only at *
  have hn : ((n : Int) : Rat) ≠ 0 := by intro e; exact h0 (by exact_mod_cast e)
  have hd := ratne h1
  unfold flip
  split
  · rename_i hneg
    dsimp only at hneg
    refine ⟨rt.2 ⟨by dsimp only; omega, by dsimp only; omega, by dsimp only; rw [Int.natAbs_neg, Int.natAbs_neg, Nat.gcd_comm]; exact h3⟩, ⟨⟨by dsimp only; omega, by dsimp only; omega⟩, by dsimp only; omega, by dsimp only; omega⟩, ?_⟩
    simp only [val]
    simp only [Rat.intCast_neg]; grind
  · rename_i hneg
    dsimp only at hneg
    refine ⟨rt.2 ⟨by dsimp only; omega, by dsimp only; omega, by dsimp only; rw [Nat.gcd_comm]; exact h3⟩, ⟨⟨by dsimp only; omega, by dsimp only; omega⟩, by dsimp only; omega, by dsimp only; omega⟩, ?_⟩
    simp only [val]; grind
theorem lessQ_ok {q : Q} (h : rightB q = true) (hw : q.wf) : rightB (lessQ q) = true ∧ (lessQ q).wf ∧ val (lessQ q) = - val q := by
  obtain ⟨h1, h2, h3⟩ := rt.1 h
  obtain ⟨⟨w1, w2⟩, w3, w4⟩ := hw
  obtain ⟨n, d⟩ := q
  dsimp only at *
  have e : lessQ ⟨n, d⟩ = ⟨-n, d⟩ := by
    simp only [lessQ]; congr 1; rw [IntKind.wrap_i64]; omega
  rw [e]
  refine ⟨rt.2 ⟨h1, by dsimp only; omega, by dsimp only; rw [Int.natAbs_neg]; exact h3⟩, ⟨⟨by dsimp only; omega, by dsimp only; omega⟩, w3, w4⟩, ?_⟩
  have hd := ratne h1
  simp only [val, Rat.intCast_neg]; grind
theorem mulS_one {q : Q} (h : rightB q = true) (hw : q.wf) : mulS q ⟨1, 1⟩ = (q, 0) := by
  obtain ⟨h1, h2, h3⟩ := rt.1 h
  obtain ⟨⟨w1, w2⟩, w3, w4⟩ := hw
  obtain ⟨n, d⟩ := q
  dsimp only at *
  have r1 : rightB ⟨1, 1⟩ = true := by decide
  simp only [mulS, h, r1, mulN, mulD, putS, Bool.and_self, if_true, Nat.gcd_one_left, Nat.gcd_one_right, Int.natAbs_one, Nat.div_one, Nat.mul_one]
  rw [if_pos (by omega)]
  have e : (decide (n < 0) != decide ((1 : Int) < 0) && n.natAbs != 0) = decide (n < 0) := by
    by_cases hn : n < 0 <;> simp [hn]; omega
  rw [e]
  by_cases hn : n < 0 <;> simp [hn] <;> omega
theorem rightT_iff {t : T} : rightT t = true ↔ t.c.length ≤ 8 ∧ rightB t.k = true ∧ ∀ q ∈ t.c, rightB q = true := by
  simp only [rightT, Bool.and_eq_true, decide_eq_true_eq, Bool.not_eq_true', List.any_eq_false]
  constructor
  · rintro ⟨⟨h1, h2⟩, h3⟩; exact ⟨h1, h2, fun q hq => by simpa using h3 q hq⟩
  · rintro ⟨h1, h2, h3⟩; exact ⟨⟨h1, h2⟩, fun q hq => by simpa using h3 q hq⟩
theorem atT_nat (t : T) (i : Nat) : atT t i = t.c.getD i ⟨0, 1⟩ := by
  unfold atT; rw [if_neg (by omega), Int.toNat_natCast]
theorem atT_lt {t : T} {i : Nat} (h : i < t.c.length) : atT t i = t.c[i] := by
  rw [atT_nat, List.getD_eq_getElem?_getD, List.getElem?_eq_getElem h]; rfl
theorem atT_ge {t : T} {i : Nat} (h : t.c.length ≤ i) : atT t i = ⟨0, 1⟩ := by
  rw [atT_nat, List.getD_eq_getElem?_getD, List.getElem?_eq_none h]; rfl
theorem atT_rt {t : T} (h : rightT t = true) (i : Nat) : rightB (atT t i) = true := by
  by_cases hi : i < t.c.length
  · rw [atT_lt hi]; exact (rightT_iff.1 h).2.2 _ (List.getElem_mem hi)
  · rw [atT_ge (by omega)]; decide
theorem atT_w {t : T} (h : t.wf) (i : Nat) : (atT t i).wf := by
  by_cases hi : i < t.c.length
  · rw [atT_lt hi]; exact h.1 _ (List.getElem_mem hi)
  · rw [atT_ge (by omega)]; simp [Q.wf, I64]
/-- No nought stands at the end. -/
def Trim (l : List Q) : Prop := trimN l l.length = l.length
theorem trimN_zero (l : List Q) (n i : Nat) (h1 : trimN l n ≤ i) (h2 : i < n) : (l.getD i zQ).n = 0 := by
  induction n with
  | zero => omega
  | succ n ih =>
    unfold trimN at h1
    split at h1
    · by_cases e : i = n
      · subst e; assumption
      · exact ih h1 (by omega)
    · omega
theorem trimN_last (l : List Q) (n : Nat) (h : 0 < trimN l n) : (l.getD (trimN l n - 1) zQ).n ≠ 0 := by
  induction n with
  | zero => simp [trimN] at h
  | succ n ih =>
    rw [trimN] at h ⊢
    by_cases e : (l.getD n zQ).n = 0
    · rw [if_pos e] at h ⊢; exact ih h
    · rw [if_neg e]; exact e
theorem getD_take {l : List Q} {k i : Nat} (h : i < k) : (l.take k).getD i zQ = l.getD i zQ := by
  rw [List.getD_eq_getElem?_getD, List.getD_eq_getElem?_getD, List.getElem?_take, if_pos h]
theorem Trim_iff {l : List Q} : Trim l ↔ ∀ n, l.length = n + 1 → (l.getD n zQ).n ≠ 0 := by
  unfold Trim
  constructor
  · intro h n hn e
    rw [hn, trimN, if_pos e] at h
    have := trimN_le l n
    omega
  · intro h
    cases hl : l.length with
    | zero => rfl
    | succ n => rw [trimN, if_neg (h n hl)]
theorem Trim_trimS (l : List Q) : Trim (trimS l) := by
  rw [Trim_iff]
  intro n hn
  have hle := trimN_le l l.length
  have hk : trimN l l.length = n + 1 := by simp only [trimS, List.length_take] at hn; omega
  have := trimN_last l l.length (by omega)
  rw [hk] at this
  simp only [trimS]
  rw [hk, getD_take (by omega)]
  simpa using this
theorem trimS_self {l : List Q} (h : Trim l) : trimS l = l := by
  unfold trimS; rw [h]; exact List.take_length
theorem atT_trim {l : List Q} {k k' : Q} (hr : ∀ q ∈ l, rightB q = true) (i : Nat) : atT ⟨trimS l, k⟩ i = atT ⟨l, k'⟩ i := by
  have hle := trimN_le l l.length
  have hlen : (trimS l).length = trimN l l.length := by simp only [trimS, List.length_take]; omega
  by_cases h1 : i < trimN l l.length
  · rw [atT_nat, atT_nat]
    simp only [trimS, List.getD_eq_getElem?_getD]
    rw [List.getElem?_take, if_pos h1]
  · rw [atT_ge (by dsimp only; omega)]
    by_cases h2 : i < l.length
    · rw [atT_lt h2]
      have := trimN_zero l l.length i (by omega) h2
      rw [List.getD_eq_getElem?_getD, List.getElem?_eq_getElem h2] at this
      exact (right_n0 (hr _ (List.getElem_mem h2)) this).symm
    · rw [atT_ge (by dsimp only; omega)]
theorem eachS_er {n : Nat} {f : Int → Q × Int} (h : (eachS n f).2 = 0) : (∀ i : Int, -1 ≤ i → i < n → (f i).2 = 0) ∧ eachS n f = (⟨trimS ((List.range n).map fun i : Nat => (f (i : Int)).1), (f (-1)).1⟩, 0) := by
  unfold eachS at *
  split at h
  · rename_i j hj
    have := List.find?_some hj
    rw [h] at this
    simp at this
  · rename_i hj
    refine ⟨fun i h1 h2 => ?_, rfl⟩
    rw [List.find?_eq_none] at hj
    have := hj (i + 1).toNat (by rw [List.mem_range]; omega)
    rw [show (((i + 1).toNat : Nat) : Int) - 1 = i by omega] at this
    simpa using this
theorem eachS_mk {n : Nat} {f : Int → Q × Int} (h : ∀ i : Int, -1 ≤ i → i < n → (f i).2 = 0) : eachS n f = (⟨trimS ((List.range n).map fun i : Nat => (f (i : Int)).1), (f (-1)).1⟩, 0) := by
  unfold eachS
  have : (List.range (n + 1)).find? (fun j : Nat => (f ((j : Int) - 1)).2 != 0) = none := by
    rw [List.find?_eq_none]
    intro j hj
    rw [List.mem_range] at hj
    rw [h _ (by omega) (by omega)]
    simp
  rw [this]
theorem mem_trimS {l : List Q} {q : Q} (h : q ∈ trimS l) : q ∈ l := List.mem_of_mem_take h
theorem eachS_oks {n : Nat} {f : Int → Q × Int} (hn : n ≤ 8) (h : (eachS n f).2 = 0) (hr : ∀ i : Int, -1 ≤ i → i < n → (f i).2 = 0 → rightB (f i).1 = true ∧ (f i).1.wf) :
    rightT (eachS n f).1 = true ∧ (eachS n f).1.wf ∧ Trim (eachS n f).1.c ∧ (eachS n f).1.k = (f (-1)).1 ∧ (∀ i : Nat, i < n → atT (eachS n f).1 i = (f i).1) ∧ (∀ i : Nat, n ≤ i → atT (eachS n f).1 i = ⟨0, 1⟩) ∧ (∀ i : Int, -1 ≤ i → i < n → (f i).2 = 0) := by
  obtain ⟨h0, e⟩ := eachS_er h
  rw [e]
  dsimp only
  have hall : ∀ q ∈ (List.range n).map fun i : Nat => (f (i : Int)).1, rightB q = true ∧ q.wf := by
    intro q hq
    obtain ⟨i, hi, rfl⟩ := List.mem_map.1 hq
    rw [List.mem_range] at hi
    exact hr _ (by omega) (by omega) (h0 _ (by omega) (by omega))
  have hk := hr (-1) (by omega) (by omega) (h0 _ (by omega) (by omega))
  refine ⟨rightT_iff.2 ⟨?_, hk.1, fun q hq => (hall q (mem_trimS hq)).1⟩, ⟨fun q hq => (hall q (mem_trimS hq)).2, hk.2⟩, Trim_trimS _, rfl, fun i hi => ?_, fun i hi => ?_, h0⟩
  · dsimp only [trimS]; rw [List.length_take]; simp; omega
  · rw [atT_trim (k' := ⟨0, 1⟩) (fun q hq => (hall q hq).1), atT_lt (by simp; omega)]; simp
  · rw [atT_trim (k' := ⟨0, 1⟩) (fun q hq => (hall q hq).1), atT_ge (by simp; omega)]
theorem oneT_k (t : T) : oneT t (-1) = t.k := rfl
theorem oneT_nat (t : T) (i : Nat) : oneT t i = atT t i := by unfold oneT; rw [if_neg (by omega)]
theorem oneT_rt {t : T} (h : rightT t = true) (i : Int) (hi : -1 ≤ i) : rightB (oneT t i) = true := by
  by_cases h0 : i = -1
  · subst h0; exact (rightT_iff.1 h).2.1
  · obtain ⟨j, rfl⟩ := Int.eq_ofNat_of_zero_le (show 0 ≤ i by omega)
    rw [oneT_nat]; exact atT_rt h j
theorem scaleS_ok {t : T} {q : Q} (ht : rightT t = true) (hq : rightB q = true) (h : (scaleS t q).2 = 0) :
    rightT (scaleS t q).1 = true ∧ (scaleS t q).1.wf ∧ Trim (scaleS t q).1.c ∧ val (scaleS t q).1.k = val t.k * val q ∧ ∀ i : Nat, val (atT (scaleS t q).1 i) = val (atT t i) * val q := by
  have e : scaleS t q = eachS t.c.length (fun i => mulS (oneT t i) q) := by simp [scaleS, ht, hq]
  rw [e] at h ⊢
  obtain ⟨r1, r2, r3, r4, r5, r6, r7⟩ := eachS_oks (rightT_iff.1 ht).1 h (fun i h1 h2 h3 => ⟨(mulS_ok (oneT_rt ht i h1) hq h3).1, (mulS_ok (oneT_rt ht i h1) hq h3).2.1⟩)
  refine ⟨r1, r2, r3, ?_, fun i => ?_⟩
  · rw [r4, (mulS_ok (oneT_rt ht _ (by omega)) hq (r7 (-1) (by omega) (by omega))).2.2, oneT_k]
  · by_cases hi : i < t.c.length
    · rw [r5 i hi, (mulS_ok (oneT_rt ht _ (by omega)) hq (r7 i (by omega) (by omega))).2.2, oneT_nat]
    · rw [r6 i (by omega), atT_ge (by omega), val_zero]; grind
theorem addTS_ok {t u : T} (ht : rightT t = true) (hu : rightT u = true) (h : (addTS t u).2 = 0) :
    rightT (addTS t u).1 = true ∧ (addTS t u).1.wf ∧ Trim (addTS t u).1.c ∧ val (addTS t u).1.k = val t.k + val u.k ∧ ∀ i : Nat, val (atT (addTS t u).1 i) = val (atT t i) + val (atT u i) := by
  have e : addTS t u = eachS (max t.c.length u.c.length) (fun i => addS (oneT t i) (oneT u i)) := by simp [addTS, ht, hu]
  rw [e] at h ⊢
  have ht8 := (rightT_iff.1 ht).1
  have hu8 := (rightT_iff.1 hu).1
  obtain ⟨r1, r2, r3, r4, r5, r6, r7⟩ := eachS_oks (by omega) h (fun i h1 h2 h3 => ⟨(addS_ok (oneT_rt ht i h1) (oneT_rt hu i h1) h3).1, (addS_ok (oneT_rt ht i h1) (oneT_rt hu i h1) h3).2.1⟩)
  refine ⟨r1, r2, r3, ?_, fun i => ?_⟩
  · rw [r4, (addS_ok (oneT_rt ht _ (by omega)) (oneT_rt hu _ (by omega)) (r7 (-1) (by omega) (by omega))).2.2, oneT_k, oneT_k]
  · by_cases hi : i < max t.c.length u.c.length
    · rw [r5 i hi, (addS_ok (oneT_rt ht _ (by omega)) (oneT_rt hu _ (by omega)) (r7 i (by omega) (by omega))).2.2, oneT_nat, oneT_nat]
    · rw [r6 i (by omega), atT_ge (by omega), atT_ge (by omega), val_zero]; grind
theorem scaleS_one {t : T} (ht : rightT t = true) (hw : t.wf) (htr : Trim t.c) : scaleS t ⟨1, 1⟩ = (t, 0) := by
  have r1 : rightB ⟨1, 1⟩ = true := by decide
  have e : scaleS t ⟨1, 1⟩ = eachS t.c.length (fun i => mulS (oneT t i) ⟨1, 1⟩) := by simp [scaleS, ht, r1]
  have h1 : ∀ i : Nat, i < t.c.length → mulS (oneT t i) ⟨1, 1⟩ = (t.c.getD i ⟨0, 1⟩, 0) := by
    intro i hi
    rw [oneT_nat, mulS_one (atT_rt ht i) (atT_w hw i), atT_nat]
  have h2 : mulS (oneT t (-1)) ⟨1, 1⟩ = (t.k, 0) := by rw [oneT_k, mulS_one (rightT_iff.1 ht).2.1 hw.2]
  rw [e, eachS_mk, h2]
  · have : ((List.range t.c.length).map fun i : Nat => (mulS (oneT t (i : Int)) ⟨1, 1⟩).1) = t.c := by
      apply List.ext_getElem
      · simp
      · intro i h3 h4
        simp only [List.getElem_map, List.getElem_range]
        rw [h1 i h4]
        rw [List.getD_eq_getElem?_getD, List.getElem?_eq_getElem h4]; rfl
    rw [this, trimS_self htr]
  · intro i h3 h4
    by_cases h0 : i = -1
    · subst h0; rw [h2]
    · obtain ⟨j, rfl⟩ := Int.eq_ofNat_of_zero_le (show 0 ≤ i by omega)
      rw [h1 j (by omega)]
/-- Terms in their own form are told by their numbers. -/
theorem T_ext {t u : T} (ht : rightT t = true) (hu : rightT u = true) (tt : Trim t.c) (tu : Trim u.c) (hk : val t.k = val u.k) (hc : ∀ i : Nat, i < 8 → val (atT t i) = val (atT u i)) : t = u := by
  have ht' := rightT_iff.1 ht
  have hu' := rightT_iff.1 hu
  have hk' := val_inj ht'.2.1 hu'.2.1 hk
  have hc' : ∀ i : Nat, i < 8 → atT t i = atT u i := fun i hi => val_inj (atT_rt ht i) (atT_rt hu i) (hc i hi)
  have hlen : ∀ {a b : T}, rightT a = true → rightT b = true → Trim b.c → (∀ i : Nat, i < 8 → atT a i = atT b i) → b.c.length ≤ a.c.length := by
    intro a b ha hb tb h
    apply Classical.byContradiction
    intro hlt
    obtain ⟨n, hn⟩ : ∃ n, b.c.length = n + 1 := ⟨b.c.length - 1, by omega⟩
    have h8 := (rightT_iff.1 hb).1
    have h1 := h n (by omega)
    rw [atT_ge (by omega), atT_lt (by omega)] at h1
    have h2 := Trim_iff.1 tb n hn
    rw [List.getD_eq_getElem?_getD, List.getElem?_eq_getElem (by omega)] at h2
    apply h2
    show (b.c[n]).n = 0
    rw [← h1]
  have l1 := hlen ht hu tu hc'
  have l2 := hlen hu ht tt (fun i hi => (hc' i hi).symm)
  obtain ⟨c, k⟩ := t
  obtain ⟨c', k'⟩ := u
  dsimp only at *
  rw [hk']
  congr 1
  apply List.ext_getElem (by omega)
  intro i h1 h2
  have := hc' i (by omega)
  rw [atT_lt (by exact h1), atT_lt (by exact h2)] at this
  exact this
theorem ownS_ok {t : T} (ht : rightT t = true) (hw : t.wf) : rightT (ownS t) = true ∧ (ownS t).wf ∧ Trim (ownS t).c ∧ (ownS t).k = t.k ∧ ∀ i : Nat, atT (ownS t) i = atT t i := by
  have e : ownS t = ⟨trimS t.c, t.k⟩ := by simp [ownS, ht]
  have ht' := rightT_iff.1 ht
  rw [e]
  refine ⟨rightT_iff.2 ⟨?_, ht'.2.1, fun q hq => ht'.2.2 q (mem_trimS hq)⟩, ⟨fun q hq => hw.1 q (mem_trimS hq), hw.2⟩, Trim_trimS _, rfl, fun i => atT_trim ht'.2.2 i⟩
  dsimp only [trimS]; rw [List.length_take]; omega
theorem ownS_self {t : T} (ht : rightT t = true) (htr : Trim t.c) : ownS t = t := by
  simp only [ownS, ht, if_true, trimS_self htr]
end Go.Proofs.Ytffpdaejemmgpaa.W
