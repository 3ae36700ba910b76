/- This file holds the plain law: fractions are exact, or they run over. -/
import Derived.Test.YtffpdaejemmgpaaT
namespace Go.Proofs.Ytffpdaejemmgpaa.W
set_option linter.unusedVariables false
set_option linter.unusedSimpArgs false
/-- The number of a fraction. -/
def val (q : Q) : Rat := (q.n : Rat) / (q.d : Rat)
theorem rt {q : Q} : rightB q = true ↔ 0 < q.d ∧ q.n ≠ -9223372036854775808 ∧ Nat.gcd q.n.natAbs q.d.natAbs = 1 := by
  simp [rightB]; grind
theorem ratne {d : Int} (h : 0 < d) : (d : Rat) ≠ 0 := by
  intro e
  have : d = 0 := by exact_mod_cast e
  omega
theorem quo_iff {n d N D : Int} (hd : 0 < d) (hD : 0 < D) : (n : Rat) / (d : Rat) = (N : Rat) / (D : Rat) ↔ n * D = N * d := by
  have h1 := ratne hd
  have h2 := ratne hD
  constructor
  · intro h
    have : (n : Rat) * D = N * d := by grind
    exact_mod_cast this
  · intro h
    have : (n : Rat) * D = N * d := by exact_mod_cast h
    grind
theorem val_inj {a b : Q} (ha : rightB a = true) (hb : rightB b = true) (h : val a = val b) : a = b := by
  obtain ⟨a1, _, a3⟩ := rt.1 ha
  obtain ⟨b1, _, b3⟩ := rt.1 hb
  obtain ⟨an, ad⟩ := a
  obtain ⟨bn, bd⟩ := b
  dsimp only at *
  have e := (quo_iff a1 b1).1 h
  have hn : an.natAbs * bd.natAbs = bn.natAbs * ad.natAbs := by rw [← Int.natAbs_mul, ← Int.natAbs_mul, e]
  have d1 : ad.natAbs ∣ bd.natAbs := by
    have : ad.natAbs ∣ an.natAbs * bd.natAbs := ⟨bn.natAbs, by rw [hn, Nat.mul_comm]⟩
    exact Nat.Coprime.dvd_of_dvd_mul_left (Nat.coprime_comm.1 a3) this
  have d2 : bd.natAbs ∣ ad.natAbs := by
    have : bd.natAbs ∣ bn.natAbs * ad.natAbs := ⟨an.natAbs, by rw [← hn, Nat.mul_comm]⟩
    exact Nat.Coprime.dvd_of_dvd_mul_left (Nat.coprime_comm.1 b3) this
  have e3 := Nat.dvd_antisymm d1 d2
  have e4 : ad = bd := by omega
  subst e4
  have e5 : an = bn := Int.eq_of_mul_eq_mul_right (by omega) e
  rw [e5]
theorem right_zero : rightB ⟨0, 1⟩ = true := by decide
theorem val_zero : val ⟨0, 1⟩ = 0 := by simp only [val]; grind
theorem val_one : val ⟨1, 1⟩ = 1 := by simp only [val]; grind
theorem val_eq_zero {q : Q} (h : rightB q = true) : val q = 0 ↔ q.n = 0 := by
  have h1 := (rt.1 h).1
  have := @quo_iff q.n q.d 0 1 h1 (by decide)
  rw [show ((0 : Int) : Rat) / ((1 : Int) : Rat) = 0 by grind] at this
  rw [val, this]
  omega
theorem val_pos {q : Q} (h : 0 < q.d) : 0 < val q ↔ 0 < q.n := by
  have h1 : (0 : Rat) < (q.d : Rat) := by exact_mod_cast h
  rw [val, Rat.lt_div_iff h1]
  rw [show (0 : Rat) * (q.d : Rat) = ((0 : Int) : Rat) by grind]
  exact Rat.intCast_lt_intCast
theorem right_n0 {q : Q} (h : rightB q = true) (h0 : q.n = 0) : q = ⟨0, 1⟩ := by
  exact val_inj h right_zero (by rw [val_zero, val_eq_zero h, h0])
theorem putS_ok {n d : Nat} {m : Bool} (hd : 0 < d) (hg : Nat.gcd n d = 1) (h : (putS n d m).2 = 0) : putS n d m = (⟨if m then -(n : Int) else n, d⟩, 0) ∧ rightB (putS n d m).1 = true ∧ (putS n d m).1.wf := by
  unfold putS at *
  split at h
  · rename_i hb
    rw [if_pos hb]
    refine ⟨rfl, rt.2 ⟨by dsimp only; omega, ?_, ?_⟩, ?_⟩
    · cases m <;> simp <;> omega
    · cases m <;> simpa using hg
    · cases m <;> simp [Q.wf, I64] <;> omega
  · simp at h
theorem putS_err {n d : Nat} {m : Bool} (h : (putS n d m).2 ≠ 0) : (putS n d m).2 = 3 ∧ (putS n d m).1 = ⟨0, 0⟩ := by
  unfold putS at *
  split at h
  · simp at h
  · rename_i hb; rw [if_neg hb]; exact ⟨rfl, rfl⟩
/-- Products are exact, or they run over. -/
theorem mulS_ok {a b : Q} (ha : rightB a = true) (hb : rightB b = true) (h : (mulS a b).2 = 0) : rightB (mulS a b).1 = true ∧ (mulS a b).1.wf ∧ val (mulS a b).1 = val a * val b := by
  have e0 : mulS a b = putS (mulN a b) (mulD a b) ((decide (a.n < 0) != decide (b.n < 0)) && mulN a b != 0) := by simp [mulS, ha, hb]
  rw [e0] at h ⊢
  obtain ⟨a1, _, a3⟩ := rt.1 ha
  obtain ⟨b1, _, b3⟩ := rt.1 hb
  obtain ⟨an, ad⟩ := a
  obtain ⟨bn, bd⟩ := b
  unfold mulN mulD at *
  dsimp only at *
  have ga := Nat.gcd_dvd_left an.natAbs bd.natAbs
  have ga' := Nat.gcd_dvd_right an.natAbs bd.natAbs
  have gb := Nat.gcd_dvd_left bn.natAbs ad.natAbs
  have gb' := Nat.gcd_dvd_right bn.natAbs ad.natAbs
  have g0 : 0 < Nat.gcd an.natAbs bd.natAbs := Nat.gcd_pos_of_pos_right _ (by omega)
  have h0 : 0 < Nat.gcd bn.natAbs ad.natAbs := Nat.gcd_pos_of_pos_right _ (by omega)
  have c1 := Nat.coprime_div_gcd_div_gcd g0
  have c2 := Nat.coprime_div_gcd_div_gcd h0
  generalize Nat.gcd an.natAbs bd.natAbs = g at *
  generalize Nat.gcd bn.natAbs ad.natAbs = k at *
  obtain ⟨x, hx⟩ := ga
  obtain ⟨y, hy⟩ := ga'
  obtain ⟨z, hz⟩ := gb
  obtain ⟨u, hu⟩ := gb'
  rw [hx, Nat.mul_div_cancel_left _ g0, hy, Nat.mul_div_cancel_left _ g0] at c1
  rw [hz, Nat.mul_div_cancel_left _ h0, hu, Nat.mul_div_cancel_left _ h0] at c2
  rw [hx, hy, hz, hu, Nat.mul_div_cancel_left _ g0, Nat.mul_div_cancel_left _ g0, Nat.mul_div_cancel_left _ h0, Nat.mul_div_cancel_left _ h0] at h ⊢
  have c3 : Nat.Coprime x u := by
    rw [hx, hu] at a3
    exact Nat.Coprime.coprime_dvd_left ⟨g, Nat.mul_comm _ _⟩ (Nat.Coprime.coprime_dvd_right ⟨k, Nat.mul_comm _ _⟩ a3)
  have c4 : Nat.Coprime z y := by
    rw [hz, hy] at b3
    exact Nat.Coprime.coprime_dvd_left ⟨k, Nat.mul_comm _ _⟩ (Nat.Coprime.coprime_dvd_right ⟨g, Nat.mul_comm _ _⟩ b3)
  have hyp : 0 < y := Nat.pos_of_ne_zero (by rintro rfl; omega)
  have hup : 0 < u := Nat.pos_of_ne_zero (by rintro rfl; omega)
  have hco : Nat.gcd (x * z) (u * y) = 1 :=
    Nat.Coprime.mul_left (Nat.Coprime.mul_right c3 c1) (Nat.Coprime.mul_right c2 c4)
  obtain ⟨e1, e2, e3⟩ := putS_ok (Nat.mul_pos hup hyp) hco h
  refine ⟨e2, e3, ?_⟩
  rw [e1]
  simp only [val]
  have hpos : (0 : Int) < ((u * y : Nat) : Int) := by have := Nat.mul_pos hup hyp; omega
  rw [show (an : Rat) / (ad : Rat) * ((bn : Rat) / (bd : Rat)) = ((an * bn : Int) : Rat) / ((ad * bd : Int) : Rat) by
    have := ratne a1; have := ratne b1; push_cast; grind]
  rw [quo_iff hpos (Int.mul_pos a1 b1)]
  have ea : ad = (k : Int) * u := by omega
  have eb : bd = (g : Int) * y := by omega
  have sa : an = (if an < 0 then -1 else 1) * ((g : Int) * x) := by split <;> omega
  have sb : bn = (if bn < 0 then -1 else 1) * ((k : Int) * z) := by split <;> omega
  rw [ea, eb]
  by_cases n1 : an < 0 <;> by_cases n2 : bn < 0 <;> simp only [n1, n2, if_true, if_false, decide_true, decide_false] at sa sb ⊢ <;> rw [sa, sb]
  · simp; grind
  · by_cases hz0 : x * z = 0
    · simp [hz0]
      have : (x : Int) * z = 0 := by exact_mod_cast hz0
      grind
    · have : ((true != false) && (x * z != 0)) = true := by simpa using hz0
      rw [this]; simp; grind
  · by_cases hz0 : x * z = 0
    · simp [hz0]
      have : (x : Int) * z = 0 := by exact_mod_cast hz0
      grind
    · have : ((false != true) && (x * z != 0)) = true := by simpa using hz0
      rw [this]; simp; grind
  · simp; grind
theorem sumS_val {an bn : Int} {u v : Nat} : (sumS (decide (an < 0)) (decide (bn < 0)) ((an.natAbs : Int) * u) ((bn.natAbs : Int) * v)).1.natAbs = (an * u + bn * v).natAbs ∧ 0 ≤ (sumS (decide (an < 0)) (decide (bn < 0)) ((an.natAbs : Int) * u) ((bn.natAbs : Int) * v)).1 ∧
    (an * u + bn * v ≠ 0 → (if (sumS (decide (an < 0)) (decide (bn < 0)) ((an.natAbs : Int) * u) ((bn.natAbs : Int) * v)).2 then -(((an * u + bn * v).natAbs : Nat) : Int) else ((an * u + bn * v).natAbs : Nat)) = an * u + bn * v) := by
  obtain ⟨x, hx⟩ : ∃ x : Int, (an.natAbs : Int) * u = x := ⟨_, rfl⟩
  obtain ⟨y, hy⟩ : ∃ y : Int, (bn.natAbs : Int) * v = y := ⟨_, rfl⟩
  have hx0 : 0 ≤ x := by rw [← hx]; exact Int.mul_nonneg (by omega) (by omega)
  have hy0 : 0 ≤ y := by rw [← hy]; exact Int.mul_nonneg (by omega) (by omega)
  have ex : an * u = if an < 0 then -x else x := by
    split
    · rw [← hx, show an = -(an.natAbs : Int) by omega]; simp [Int.neg_mul]
    · rw [← hx, show (an.natAbs : Int) = an by omega]
  have ey : bn * v = if bn < 0 then -y else y := by
    split
    · rw [← hy, show bn = -(bn.natAbs : Int) by omega]; simp [Int.neg_mul]
    · rw [← hy, show (bn.natAbs : Int) = bn by omega]
  rw [hx, hy, ex, ey]
  clear hx hy ex ey
  by_cases n1 : an < 0 <;> by_cases n2 : bn < 0 <;> simp only [n1, n2, if_true, if_false, decide_true, decide_false, sumS]
  all_goals
    by_cases lt : x < y
    all_goals simp [lt]; try omega
/-- Sums are exact, or they run over. -/
theorem addS_ok {a b : Q} (ha : rightB a = true) (hb : rightB b = true) (h : (addS a b).2 = 0) : rightB (addS a b).1 = true ∧ (addS a b).1.wf ∧ val (addS a b).1 = val a + val b := by
  obtain ⟨a1, _, a3⟩ := rt.1 ha
  obtain ⟨b1, _, b3⟩ := rt.1 hb
  obtain ⟨an, ad⟩ := a
  obtain ⟨bn, bd⟩ := b
  unfold addS at *
  dsimp only at *
  have ga := Nat.gcd_dvd_left ad.natAbs bd.natAbs
  have ga' := Nat.gcd_dvd_right ad.natAbs bd.natAbs
  have g0 : 0 < Nat.gcd ad.natAbs bd.natAbs := Nat.gcd_pos_of_pos_right _ (by omega)
  have c1 := Nat.coprime_div_gcd_div_gcd g0
  generalize Nat.gcd ad.natAbs bd.natAbs = g at *
  obtain ⟨x, hx⟩ := ga
  obtain ⟨y, hy⟩ := ga'
  rw [hx, hy, Nat.mul_div_cancel_left _ g0, Nat.mul_div_cancel_left _ g0] at c1 h ⊢
  have hyp : 0 < y := Nat.pos_of_ne_zero (by rintro rfl; omega)
  have hxp : 0 < x := Nat.pos_of_ne_zero (by rintro rfl; omega)
  obtain ⟨s1, s2, s3⟩ := @sumS_val an bn y x
  generalize sumS (decide (an < 0)) (decide (bn < 0)) ((an.natAbs : Int) * y) ((bn.natAbs : Int) * x) = s at *
  obtain ⟨s, m⟩ := s
  dsimp only at *
  have ea : ad = (g : Int) * x := by omega
  have eb : bd = (g : Int) * y := by omega
  have gz : ((g : Int) : Rat) ≠ 0 := ratne (by omega)
  have xz : ((x : Int) : Rat) ≠ 0 := ratne (by omega)
  have yz : ((y : Int) : Rat) ≠ 0 := ratne (by omega)
  have eval : (an : Rat) / (ad : Rat) + (bn : Rat) / (bd : Rat) = ((an * y + bn * x : Int) : Rat) / ((g * x * y : Int) : Rat) := by
    rw [ea, eb]; simp only [Rat.intCast_add, Rat.intCast_mul]; grind
  by_cases hs : s = 0
  · rw [if_pos hs] at h ⊢
    refine ⟨right_zero, by simp [Q.wf, I64], ?_⟩
    rw [val_zero]
    simp only [val]
    rw [eval, show an * (y : Int) + bn * x = 0 by omega]
    simp only [Rat.intCast_mul]; grind
  · rw [if_neg hs] at h ⊢
    have hsp : 0 < s.natAbs := by omega
    rw [show Nat.gcd g (s.natAbs % g) = Nat.gcd g s.natAbs by rw [Nat.gcd_comm, ← Nat.gcd_rec]] at h ⊢
    split at h
    · simp at h
    · rename_i hov
      rw [if_neg hov]
      have pa := Nat.gcd_dvd_left g s.natAbs
      have pb := Nat.gcd_dvd_right g s.natAbs
      have p0 : 0 < Nat.gcd g s.natAbs := Nat.gcd_pos_of_pos_right _ hsp
      have c2 := Nat.coprime_div_gcd_div_gcd p0
      generalize Nat.gcd g s.natAbs = p at *
      obtain ⟨u, hu⟩ := pa
      obtain ⟨v, hv⟩ := pb
      rw [hu, hv, Nat.mul_div_cancel_left _ p0, Nat.mul_div_cancel_left _ p0] at c2
      rw [show g * y / p = u * y by rw [hu, Nat.mul_assoc, Nat.mul_div_cancel_left _ p0], hv, Nat.mul_div_cancel_left _ p0] at h ⊢
      -- s is coprime to x and to y
      have cs : ∀ {an bn : Int} {x y : Nat}, Nat.Coprime an.natAbs x → Nat.Coprime y x → Nat.Coprime (an * y + bn * x).natAbs x := by
        intro an bn x y h1 h2
        have h3 : Nat.Coprime (an.natAbs * y) x := Nat.Coprime.mul_left h1 h2
        have h4 : Int.gcd (an * y + bn * x) x = Int.gcd (an * y) x := by
          rw [Int.gcd_add_mul_right_left]
        unfold Nat.Coprime at *
        have : Int.gcd (an * y + bn * x) x = Nat.gcd (an * y + bn * x).natAbs x := rfl
        rw [← this, h4]
        show Nat.gcd (an * y).natAbs x = 1
        rw [Int.natAbs_mul]; exact h3
      have ax : Nat.Coprime an.natAbs x := by rw [hx] at a3; exact Nat.Coprime.coprime_dvd_right ⟨g, Nat.mul_comm _ _⟩ a3
      have bx : Nat.Coprime bn.natAbs y := by rw [hy] at b3; exact Nat.Coprime.coprime_dvd_right ⟨g, Nat.mul_comm _ _⟩ b3
      have sx : Nat.Coprime s.natAbs x := by rw [s1]; exact cs ax (Nat.coprime_comm.1 c1)
      have sy : Nat.Coprime s.natAbs y := by rw [s1, Int.add_comm]; exact cs bx c1
      rw [hv] at sx sy
      have hup : 0 < u := Nat.pos_of_ne_zero (by rintro rfl; omega)
      have hco : Nat.gcd v (x * (u * y)) = 1 := by
        refine Nat.Coprime.mul_right (Nat.Coprime.coprime_dvd_left ⟨p, Nat.mul_comm _ _⟩ sx) (Nat.Coprime.mul_right (Nat.coprime_comm.1 c2) (Nat.Coprime.coprime_dvd_left ⟨p, Nat.mul_comm _ _⟩ sy))
      have hpos := Nat.mul_pos hxp (Nat.mul_pos hup hyp)
      obtain ⟨e1, e2, e3⟩ := putS_ok hpos hco h
      refine ⟨e2, e3, ?_⟩
      rw [e1]
      simp only [val]
      rw [eval]
      rw [quo_iff (by omega) (Int.mul_pos (Int.mul_pos (by omega) (by omega)) (by omega))]
      have hne : an * (y : Int) + bn * x ≠ 0 := by omega
      rw [← s3 hne, ← s1, hv, hu]
      cases m
      · simp; grind
      · simp; grind
end Go.Proofs.Ytffpdaejemmgpaa.W
