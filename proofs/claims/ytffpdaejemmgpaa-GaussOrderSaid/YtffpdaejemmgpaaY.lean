/- This file holds the walk of the library's stable sort of few rows. -/
import Derived.Test.YtffpdaejemmgpaaX
import Derived.Test.YtffpdaejemmgpaaV
namespace Go.Proofs.Ytffpdaejemmgpaa.W
open Go.RowKit Go.Proofs.YtffpdaejemmgpaaW.PrintWords Go.Proofs.YtffpdaejemmgpaaW.PrintMore
set_option linter.unusedVariables false
set_option linter.unusedSimpArgs false
set_option maxHeartbeats 1000000 in
theorem insertion_none (A : Option Addr) (cap : Nat) (w : World) :
    Calls Try.prog 99 #[.slice A 0 cap, .int .i64 0, .int .i64 0, .func (.func 39) #[] #[]] w fun e w' => e = .returned (.tuple #[]) ∧ w' = w := by
  go_enter Try.func99, Try.ntmps99
  go_wp2_with fail
  go_loop [8] (fun i => i = .int .i64 1) (fun _ => 0)
  case atStart => rfl
  case round =>
    subst hrel
    go_wp2_with fail
    exact ⟨rfl, _, results_none rfl _ _ _, rfl, rfl⟩
set_option maxRecDepth 8000 in
set_option maxHeartbeats 1000000 in
theorem stable_of {Post : World → Prop} (A : Option Addr) (n cap : Nat) (hn : n < 20) (w : World)
    (h : Calls Try.prog 99 #[.slice A n cap, .int .i64 0, .int .i64 n, .func (.func 39) #[] #[]] w fun e w' => e = .returned (.tuple #[]) ∧ Post w') :
    Calls Try.prog 66 #[.slice A n cap, .int .i64 n, .func (.func 39) #[] #[]] w fun e w' => e = .returned (.tuple #[]) ∧ Post w' := by
  have H := Lib.hid h
  clear h
  have h1 : (n : Int) < 20 := by omega
  have h2 : ¬ (20 : Int) ≤ n := by omega
  have h3 : ¬ (20 : Int) < n := by omega
  go_enter Try.func66, Try.ntmps66
  go_wp2_with fail
  go_loop [7, 8] (fun a b => a = .int .i64 0 ∧ b = .int .i64 20) (fun _ _ => 0)
  case atStart => exact ⟨rfl, rfl⟩
  case round =>
    obtain ⟨rfl, rfl⟩ := hrel
    go_wp2_with fail
    refine (H.out).mono ?_
    rintro e w1 ⟨rfl, hP⟩
    have HP := Lib.hid hP
    clear hP
    go_wp2_with fail
    go_loop [6] (fun a => a = .int .i64 20) (fun _ => 0)
    case atStart => rfl
    case round =>
      subst hrel
      go_wp2_with fail
      exact ⟨rfl, _, results_none rfl _ _ _, rfl, HP.out⟩
set_option maxHeartbeats 1000000 in
theorem sort_of {Post : World → Prop} (A : Option Addr) (n cap : Nat) (hn : n < 20) (w : World)
    (h : Calls Try.prog 99 #[.slice A n cap, .int .i64 0, .int .i64 n, .func (.func 39) #[] #[]] w fun e w' => e = .returned (.tuple #[]) ∧ Post w') :
    Calls Try.prog 38 #[.slice A n cap, .func (.func 39) #[] #[]] w fun e w' => e = .returned (.tuple #[]) ∧ Post w' := by
  have H := Lib.hid (stable_of A n cap hn w h)
  clear h
  go_enter Try.func38, Try.ntmps38
  go_wp2_with fail
  refine (H.out).mono ?_
  rintro e w1 ⟨rfl, hP⟩
  have HP := Lib.hid hP
  clear hP
  go_wp2_with fail
  exact ⟨rfl, _, results_none rfl _ _ _, rfl, HP.out⟩
/-- The rows in order: a state's array is sorted. -/
theorem RowsAt.cells {W : World} {g r N : Nat} {rows : List GR} (h : RowsAt W g r N rows) : ∃ P : List GV, P.map GV.x = rows ∧ CellsAt W r P ∧ ∀ p ∈ P, p.x.t.c.length = p.m ∧ p.m ≤ p.c ∧ Kd.F kQ W (fun k => k ≠ g ∧ k ≠ r ∧ k < N) p.B p.m p.x.t.c := by
  obtain ⟨CS, hb, hh⟩ := h
  have hex : ∀ k, k < rows.length → ∃ p : GV, rows[k]? = some p.x ∧ Four CS (k * 4) (.slice p.B p.m p.c) (.int .i64 p.x.t.k.n) (.int .i64 p.x.t.k.d) (.int .i64 p.x.b) ∧ p.x.t.c.length = p.m ∧ p.m ≤ p.c ∧ Kd.F kQ W (fun k => k ≠ g ∧ k ≠ r ∧ k < N) p.B p.m p.x.t.c := by
    intro k hk
    obtain ⟨B, m, c, h1, h2, h3, h4⟩ := hh k rows[k] (List.getElem?_eq_getElem hk)
    exact ⟨⟨rows[k], B, m, c⟩, List.getElem?_eq_getElem hk, h1, h2, h3, h4⟩
  haveI : Inhabited GV := ⟨⟨⟨⟨[], ⟨0, 0⟩⟩, 0⟩, none, 0, 0⟩⟩
  obtain ⟨f, hf⟩ := Go.Deep.choose_lt hex
  have hget : ∀ (k : Nat) (p : GV), ((List.range rows.length).map f)[k]? = some p → k < rows.length ∧ p = f k := by
    intro k p hp
    obtain ⟨hk, e⟩ := List.getElem?_eq_some_iff.1 hp
    simp only [List.length_map, List.length_range] at hk
    simp only [List.getElem_map, List.getElem_range] at e
    exact ⟨hk, e.symm⟩
  refine ⟨(List.range rows.length).map f, ?_, ⟨CS, hb, fun k p hp => ?_⟩, fun p hp => ?_⟩
  · apply List.ext_getElem?
    intro k
    rw [List.map_map]
    by_cases hk : k < rows.length
    · rw [(hf k hk).1]; simp [hk]
    · rw [List.getElem?_eq_none (by simp; omega), List.getElem?_eq_none (by omega)]
  · obtain ⟨hk, rfl⟩ := hget k p hp
    exact (hf k hk).2.1
  · obtain ⟨k, hk, rfl⟩ := List.mem_map.1 hp
    exact (hf k (List.mem_range.1 hk)).2.2
/-- Each row's fractions stay. -/
theorem CellsAt.rows {W : World} {g r N : Nat} {P : List GV} (h : CellsAt W r P) (hP : ∀ p ∈ P, p.x.t.c.length = p.m ∧ p.m ≤ p.c ∧ Kd.F kQ W (fun k => k ≠ g ∧ k ≠ r ∧ k < N) p.B p.m p.x.t.c) : RowsAt W g r N (P.map GV.x) := by
  obtain ⟨CS, hb, hh⟩ := h
  refine ⟨CS, hb, fun k x hx => ?_⟩
  rw [List.getElem?_map] at hx
  cases hp : P[k]? with
  | none => rw [hp] at hx; cases hx
  | some p =>
    rw [hp] at hx
    simp only [Option.map_some, Option.some.injEq] at hx
    subst hx
    obtain ⟨a, b, c⟩ := hP p (List.mem_of_getElem? hp)
    exact ⟨p.B, p.m, p.c, hh k p hp, a, b, c⟩
theorem kg_of_r {g r : Nat} {A : Option Addr} {w W W1 : World} (hA : A = some ⟨r, 0, none⟩) (hgr : g < r) (h : KG g (fun k => k = g ∨ ∃ a, A = some a ∧ k = a.block) w W) (h2 : KG r (fun k => k = r) W W1) : KG g (fun k => k = g ∨ ∃ a, A = some a ∧ k = a.block) w W1 :=
  h.then_ ⟨⟨h2.b.os, h2.b.tape, h2.b.output, h2.b.size, fun i hi => h2.b.block i (by omega)⟩, h2.k.mono fun k hk => .inr ⟨_, hA, hk⟩⟩
theorem sort_calls (g n cap : Nat) (A : Option Addr) (s : List GR × Bool) (hb : ∀ y ∈ s.1, -1 ≤ y.b ∧ y.b ≤ 1000) (hmx : n < 20) (w W : World) (hV : SV g A n cap w W s) :
    Calls Try.prog 38 #[.slice A n cap, .func (.func 39) #[] #[]] W fun e w' => e = .returned (.tuple #[]) ∧ ∃ R : List GR, R.Perm s.1 ∧ R.Pairwise (fun x y => x.b ≤ y.b) ∧ SV g A n cap w w' (R, s.2) := by
  by_cases h0 : n = 0
  · subst h0
    have hl : s.1 = [] := List.eq_nil_of_length_eq_zero hV.rows.1
    refine (sort_of (Post := fun w' => w' = W) A 0 cap hmx W (insertion_none A cap W)).mono ?_
    rintro e w' ⟨rfl, rfl⟩
    exact ⟨rfl, s.1, List.Perm.refl _, by rw [hl]; exact List.Pairwise.nil, hV⟩
  · obtain ⟨h1, h2, h3⟩ := hV.rows
    obtain ⟨r, CS, rfl, hgr, _⟩ := h3 (by omega)
    have hat := (hV.rows.at_ (by omega)).2
    obtain ⟨P, hP, hc, hF⟩ := hat.cells
    have hbl : ∀ p ∈ P, -1 ≤ p.x.b ∧ p.x.b ≤ 1000 := fun p hp => hb p.x (by rw [← hP]; exact List.mem_map.2 ⟨p, hp, rfl⟩)
    refine (sort_of _ n cap hmx W (insertion_calls r n cap P (by rw [← h1, ← hP, List.length_map]) (by omega) (by omega) hbl W hc)).mono ?_
    rintro e w' ⟨rfl, P', hp, hs, hc', hk⟩
    have hperm : (P'.map GV.x).Perm s.1 := by rw [← hP]; exact hp.map _
    refine ⟨rfl, P'.map GV.x, hperm, List.pairwise_map.2 hs, blk_kept hV.flag hk.k (by omega), ⟨by rw [hperm.length_eq]; exact h1, h2, fun _ => ?_⟩, kg_of_r rfl hgr hV.kg hk⟩
    have hr := hc'.rows (g := g) (N := W.heap.size) (fun p hp' => by
      obtain ⟨a, b, c⟩ := hF p (hp.mem_iff.1 hp')
      exact ⟨a, b, Kd.F_kept c hk.k (fun k hk e => hk.2.1 e)⟩)
    obtain ⟨CS', hb', hx'⟩ := hr
    exact ⟨r, CS', rfl, hgr, hb', fun k x hh => (hx' k x hh).mono hk.b.size⟩
end Go.Proofs.Ytffpdaejemmgpaa.W
