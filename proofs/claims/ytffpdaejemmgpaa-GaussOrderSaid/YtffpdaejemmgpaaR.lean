/- This file holds the walks of gauss.keep and gauss.times. -/
import Derived.Test.YtffpdaejemmgpaaQ
namespace Go.Proofs.Ytffpdaejemmgpaa.W
open Go.RowKit Go.Proofs.YtffpdaejemmgpaaW.PrintWords Go.Proofs.YtffpdaejemmgpaaW.PrintMore
set_option linter.unusedVariables false
set_option linter.unusedSimpArgs false
/-- Only blocks of S and new ones are written; below g none. -/
structure KG (g : Nat) (S : Nat → Prop) (w W : World) : Prop where mk ::
  b : Below g w W
  k : Kept w W S
theorem KG.refl (g : Nat) (S : Nat → Prop) (w : World) : KG g S w w := ⟨Below.refl _ _, Kept.refl _ _⟩
theorem KG.then_ {g : Nat} {S : Nat → Prop} {w W W2 : World} (h : KG g S w W) (h2 : KG g S W W2) : KG g S w W2 := ⟨h.b.trans h2.b, h.k.then_ h2.k fun _ hk => .inl hk⟩
theorem KG.mono {g : Nat} {S S' : Nat → Prop} {w W : World} (h : KG g S w W) (hs : ∀ k, S k → S' k) : KG g S' w W := ⟨h.b, h.k.mono hs⟩
theorem KG.below {g : Nat} {S : Nat → Prop} {w W W2 : World} (h : KG g S w W) (hg : g < W.heap.size) (h2 : Below W.heap.size W W2) : KG g S w W2 :=
  ⟨h.b.trans ⟨h2.os, h2.tape, h2.output, h2.size, fun i hi => h2.block i (Nat.lt_trans hi hg)⟩, h.k.below h2⟩
theorem KG.alloc {g : Nat} {S : Nat → Prop} {w W : World} (h : KG g S w W) (hg : g < w.heap.size) (o : Obj) : KG g S w (W.alloc o) := h.below (Nat.lt_of_lt_of_le hg h.b.size) (below_alloc (Below.refl _ _) o)
theorem KG.set {g : Nat} {S : Nat → Prop} {w W : World} (h : KG g S w W) (hg : g < w.heap.size) {p : Addr} (hp : (S p.block ∧ g ≤ p.block) ∨ w.heap.size ≤ p.block) (u : Value) : KG g S w (W.setCell p u) :=
  ⟨h.b.setCell (by rcases hp with h | h <;> omega) u, h.k.setCell (by rcases hp with h | h; exact .inl h.1; exact .inr h) u⟩
theorem KG.drewN {g : Nat} {S : Nat → Prop} {w W : World} (h : KG g S w W) (n : Nat) : KG g S w (W.drewN n) := ⟨bw_drewN h.b n, h.k.drewN n⟩
theorem KG.drew {g : Nat} {S : Nat → Prop} {w W : World} (h : KG g S w W) : KG g S w W.drew := ⟨bw_drew h.b, h.k.drew⟩
set_option maxHeartbeats 1000000 in
theorem keep_calls (g : Nat) (S : Value) (hS : S.oneCell' = true) (o : Bool) (A : Option Addr) (m c : Nat) (kn kd e : Int) (w : World) (hg : w.heap[g]? = some (.cells #[S, .bool o] 82 (0, 0))) :
    Calls Try.prog 97 #[.pointer (some ⟨g, 0, none⟩), .agg #[.slice A m c, .int .i64 kn, .int .i64 kd], .int .i64 e] w fun E w' => E = .returned (.agg #[.slice A m c, .int .i64 kn, .int .i64 kd]) ∧ w'.heap[g]? = some (.cells #[S, .bool (o || e != 0)] 82 (0, 0)) ∧ KG g (fun k => k = g) w w' := by
  have hgl : g < w.heap.size := blk_lt hg
  have hg_c0 : w.cell? ⟨g, 0, none⟩ = some (S) := blk_cell hg 0; have hg_f0 : w.frozen? ⟨g, 0, none⟩ = false := blk_frozen hg 0; have hg_c1 : w.cell? ⟨g, 1, none⟩ = some (.bool o) := blk_cell hg 1; have hg_f1 : w.frozen? ⟨g, 1, none⟩ = false := blk_frozen hg 1
  cases o
  · go_enter Try.func97, Try.ntmps97
    go_wp2_with fail
    refine bodyPost_ret (results_cell_row rfl _ _ (w.heap.size + 1) 39 #[.slice A m c, .int .i64 kn, .int .i64 kd] (0, 0) _ rfl (blk_new' (by simp)) Try.underlying39 rfl (by kernel_rfl)) rfl ?_
    exact ⟨rfl, blk_alloc (blk_alloc (blk_set hg 1 _) _) _, (by repeat (first | exact KG.refl _ _ _ | assumption | exact Hid.out (by assumption) | (with_reducible first | refine KG.drewN ?_ _ | refine KG.drew ?_ | refine KG.alloc ?_ (by omega) _) | refine KG.set ?_ (by omega) (by first | exact .inl ⟨rfl, Nat.le_refl _⟩ | exact .inl ⟨.inl rfl, Nat.le_refl _⟩ | exact .inl ⟨.inr rfl, by omega⟩ | exact .inl ⟨by assumption, by (first | omega | assumption)⟩ | exact .inr (by first | exact Nat.le_refl _ | (simp; done) | (simp; omega) | omega)) _))⟩
  · go_enter Try.func97, Try.ntmps97
    go_wp2_with fail
    refine bodyPost_ret (results_cell_row rfl _ _ (w.heap.size + 1) 39 #[.slice A m c, .int .i64 kn, .int .i64 kd] (0, 0) _ rfl (blk_new' (by simp)) Try.underlying39 rfl (by kernel_rfl)) rfl ?_
    exact ⟨rfl, blk_alloc (blk_alloc (blk_set hg 1 _) _) _, (by repeat (first | exact KG.refl _ _ _ | assumption | exact Hid.out (by assumption) | (with_reducible first | refine KG.drewN ?_ _ | refine KG.drew ?_ | refine KG.alloc ?_ (by omega) _) | refine KG.set ?_ (by omega) (by first | exact .inl ⟨rfl, Nat.le_refl _⟩ | exact .inl ⟨.inl rfl, Nat.le_refl _⟩ | exact .inl ⟨.inr rfl, by omega⟩ | exact .inl ⟨by assumption, by (first | omega | assumption)⟩ | exact .inr (by first | exact Nat.le_refl _ | (simp; done) | (simp; omega) | omega)) _))⟩

/-- The state's flag and a term in new memory. -/
def RetK (g : Nat) (S : Value) (o : Bool) (w w' : World) (E : Ending) (r : T × Int) : Prop := ∃ (A : Option Addr) (c m : Nat), E = .returned (.agg #[.slice A m c, .int .i64 r.1.k.n, .int .i64 r.1.k.d]) ∧ r.1.c.length = m ∧ m ≤ c ∧ Kd.F kQ w' (fun k => w.heap.size ≤ k) A m r.1.c ∧
  w'.heap[g]? = some (.cells #[S, .bool (o || r.2 != 0)] 82 (0, 0)) ∧ KG g (fun k => k = g) w w'
set_option maxHeartbeats 4000000 in
theorem times_calls (g : Nat) (S : Value) (hS : S.oneCell' = true) (o : Bool) (t : T) (q : Q) (A : Option Addr) (cap n : Nat) (hn : t.c.length = n) (hw : t.wf) (hq : q.wf) (w : World) (hr : Kd.C kQ w A n t.c) (hg : w.heap[g]? = some (.cells #[S, .bool o] 82 (0, 0))) :
    Calls Try.prog 96 #[.pointer (some ⟨g, 0, none⟩), .agg #[.slice A n cap, .int .i64 t.k.n, .int .i64 t.k.d], .agg #[.int .i64 q.n, .int .i64 q.d]] w fun E w' => RetK g S o w w' E (scaleS t q) := by
  have hgl : g < w.heap.size := blk_lt hg
  have HS := Lib.hid fun W hb => Scale_calls t q A cap n hn hw hq W (Kd.C_below (w1 := W) hr hb)
  obtain ⟨R, hR⟩ : ∃ R, scaleS t q = R := ⟨_, rfl⟩
  rw [hR] at HS ⊢
  obtain ⟨l, kn, kd⟩ := t
  obtain ⟨qn, qd⟩ := q
  obtain ⟨⟨rl, rn, rd⟩, re⟩ := R
  dsimp only at *
  have HG := Lib.hid hg
  clear hr hw hR hn hq hg
  go_enter Try.func96, Try.ntmps96
  go_wp2_with fail
  refine (HS.out _ (by repeat (first | exact Below.refl _ _ | assumption | exact Hid.out (by assumption) | (with_reducible first | refine bw_drewN ?_ _ | refine bw_alloc ?_ _ | refine bw_drew ?_) | (refine bw_set ?_ (by first | exact Nat.le_refl _ | (simp; done) | (simp; omega) | omega) _)))).mono ?_
  rintro e w1 ⟨⟨A1, c1, m1, rfl, hm1, hc1, hF⟩, hw1⟩
  have B1 : Below w.heap.size w w1 := bw_then (by repeat (first | exact Below.refl _ _ | assumption | exact Hid.out (by assumption) | (with_reducible first | refine bw_drewN ?_ _ | refine bw_alloc ?_ _ | refine bw_drew ?_) | (refine bw_set ?_ (by first | exact Nat.le_refl _ | (simp; done) | (simp; omega) | omega) _))) hw1
  have R1 : w1.heap[w.heap.size + 2]? = some (.cells #[.slice none 0 0, .int .i64 0, .int .i64 0] 39 (0, 0)) := blk_below (blk_new' (by simp)) hw1
  have hz1 : w.heap.size + 2 < w1.heap.size := by have := hw1.size; simp at this; omega
  dsimp only at *
  have HM := Lib.hid hm1
  have HF := Lib.hid hF
  clear hm1 hF
  go_wp2_with fail
  refine (keep_calls g S hS o A1 m1 c1 rn rd re w1 (blk_below HG.out B1)).mono ?_
  rintro e w2 ⟨rfl, hg2, hw2⟩
  have R2 := blk_kept R1 hw2.k (by omega)
  have R2_c0 : w2.cell? ⟨w.heap.size + 2, 0, none⟩ = some (.slice none 0 0) := blk_cell R2 0; have R2_f0 : w2.frozen? ⟨w.heap.size + 2, 0, none⟩ = false := blk_frozen R2 0; have R2_c1 : w2.cell? ⟨w.heap.size + 2, 1, none⟩ = some (.int .i64 0) := blk_cell R2 1; have R2_f1 : w2.frozen? ⟨w.heap.size + 2, 1, none⟩ = false := blk_frozen R2 1; have R2_c2 : w2.cell? ⟨w.heap.size + 2, 2, none⟩ = some (.int .i64 0) := blk_cell R2 2; have R2_f2 : w2.frozen? ⟨w.heap.size + 2, 2, none⟩ = false := blk_frozen R2 2
  have hz2 : w.heap.size + 2 < w2.heap.size := Nat.lt_of_lt_of_le hz1 hw2.k.1
  have HG2 := Lib.hid hg2
  clear hg2
  go_wp2_with fail
  refine bodyPost_ret (results_cell_row rfl _ _ (w.heap.size + 2) 39 #[.slice A1 m1 c1, .int .i64 rn, .int .i64 rd] (0, 0) _ rfl (blk3 R2) Try.underlying39 rfl (by kernel_rfl)) rfl ?_
  have B2 : KG g (fun k => k = g) w w2 := ((KG.refl _ _ _).below hgl B1).then_ hw2
  have hb1 := B1.size
  exact ⟨A1, c1, m1, rfl, HM.out, hc1, F_put (Kd.F_kept HF.out hw2.k (fun k hk e => by simp at hk; omega)) (by simp; omega) (by simp), blk_far (blk_far (blk_far HG2.out (by simp; omega) _) (by simp; omega) _) (by simp; omega) _, (by repeat (first | exact KG.refl _ _ _ | assumption | exact Hid.out (by assumption) | (with_reducible first | refine KG.drewN ?_ _ | refine KG.drew ?_ | refine KG.alloc ?_ (by omega) _) | refine KG.set ?_ (by omega) (by first | exact .inl ⟨rfl, Nat.le_refl _⟩ | exact .inl ⟨.inl rfl, Nat.le_refl _⟩ | exact .inl ⟨.inr rfl, by omega⟩ | exact .inl ⟨by assumption, by (first | omega | assumption)⟩ | exact .inr (by first | exact Nat.le_refl _ | (simp; done) | (simp; omega) | omega)) _))⟩
end Go.Proofs.Ytffpdaejemmgpaa.W
