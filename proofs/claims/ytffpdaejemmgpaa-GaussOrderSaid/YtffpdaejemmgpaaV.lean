/- This file holds the opening of arguments that are terms and slices of terms. -/
import Derived.Test.YtffpdaejemmgpaaK
import Derived.Deep.Slices
import Derived.Deep.Fields
import Derived.ChangeSame
import Derived.ProofKit
import Derived.OpenShut
import Derived.ChangeOld
namespace Go.Proofs.Ytffpdaejemmgpaa.W
open Go.RowKit Go.ChangeShapes Go.WideShapes Go.Deep Go.Proofs.YtffpdaejemmgpaaW.PrintWords
set_option linter.unusedVariables false
set_option linter.unusedSimpArgs false
/-- What is read of a type is of a kind. -/
def Opens {α : Type} (P : Program) (d : Kd α) (e : TypeId) (ok : α → Prop) : Prop :=
  ∀ {H : Type} {enc : TypeId × Value → H} {w : World} {base : Nat} {spare : Nat → Bool} {held : Bool} {fuel : Nat} {cs : List Value} {x : DataW H × List MemPlace},
    DataW.trod enc P w base spare held fuel e cs = some x → ∃ a, d.K w a cs ∧ ok a
theorem opens_int {P : Program} {e : TypeId} {k : IntKind} (he : P.underlying e = some (.int k)) : Opens P (Kd.int k) e (fun n => (Lit.int k n).wf = true) := by
  intro H enc w base spare held fuel cs x h
  obtain ⟨n, rfl, _, hw⟩ := DataW.trod_int he h
  exact ⟨n, rfl, hw⟩
theorem opens_bool {P : Program} {e : TypeId} (he : P.underlying e = some .bool) : Opens P Kd.bool e (fun _ => True) := by
  intro H enc w base spare held fuel cs x h
  obtain ⟨n, rfl, _⟩ := DataW.trod_bool he h
  exact ⟨n, rfl, trivial⟩
theorem opens_iso {α β : Type} {P : Program} {d : Kd α} {e : TypeId} {ok : α → Prop} {ok' : β → Prop} (h : Opens P d e ok) (f : β → α) (g : α → β) (hg : ∀ a, f (g a) = a) (ho : ∀ a, ok a → ok' (g a)) : Opens P (Kd.iso d f) e ok' := by
  intro H enc w base spare held fuel cs x hx
  obtain ⟨a, h1, h2⟩ := h hx
  exact ⟨g a, by show d.K w (f (g a)) cs; rw [hg]; exact h1, ho a h2⟩
theorem opens_two {α β : Type} {P : Program} {a : Kd α} {b : Kd β} {e : TypeId} {f0 f1 : Field} {oa : α → Prop} {ob : β → Prop} (he : P.underlying e = some (.struct #[f0, f1])) (o0 : f0.offset = 0) (o1 : f1.offset = P.cellsOf f0.type) (hc : P.cellsOf e = P.cellsOf f0.type + P.cellsOf f1.type)
    (ha : Opens P a f0.type oa) (hb : Opens P b f1.type ob) : Opens P (Kd.pair a b) e (fun x => oa x.1 ∧ ob x.2) := by
  intro H enc w base spare held fuel cs x h
  obtain ⟨ys, n, _, _, hlen, hyl, hf⟩ := DataW.trod_struct he h
  have h0 := hf 0 f0 rfl
  have h1 := hf 1 f1 rfl
  rw [List.getElem?_eq_getElem (by rw [hyl]; simp)] at h0
  rw [List.getElem?_eq_getElem (by rw [hyl]; simp)] at h1
  obtain ⟨u, u1, u2⟩ := ha h0
  obtain ⟨v, v1, v2⟩ := hb h1
  refine ⟨(u, v), ⟨_, _, ?_, u1, v1⟩, u2, v2⟩
  rw [o0, o1, List.drop_zero]
  have : (cs.drop (P.cellsOf f0.type)).take (P.cellsOf f1.type) = cs.drop (P.cellsOf f0.type) := by
    rw [List.take_of_length_le]
    rw [List.length_drop]; omega
  rw [this, List.take_append_drop]
theorem opens_three {α β γ : Type} {P : Program} {a : Kd α} {b : Kd β} {c : Kd γ} {e : TypeId} {f0 f1 f2 : Field} {oa : α → Prop} {ob : β → Prop} {oc : γ → Prop} (he : P.underlying e = some (.struct #[f0, f1, f2])) (o0 : f0.offset = 0) (o1 : f1.offset = P.cellsOf f0.type) (o2 : f2.offset = P.cellsOf f0.type + P.cellsOf f1.type) (hc : P.cellsOf e = P.cellsOf f0.type + P.cellsOf f1.type + P.cellsOf f2.type)
    (ha : Opens P a f0.type oa) (hb : Opens P b f1.type ob) (hcc : Opens P c f2.type oc) : Opens P (Kd.pair a (Kd.pair b c)) e (fun x => oa x.1 ∧ ob x.2.1 ∧ oc x.2.2) := by
  intro H enc w base spare held fuel cs x h
  obtain ⟨ys, n, _, _, hlen, hyl, hf⟩ := DataW.trod_struct he h
  have h0 := hf 0 f0 rfl
  have h1 := hf 1 f1 rfl
  have h2 := hf 2 f2 rfl
  rw [List.getElem?_eq_getElem (by rw [hyl]; simp)] at h0
  rw [List.getElem?_eq_getElem (by rw [hyl]; simp)] at h1
  rw [List.getElem?_eq_getElem (by rw [hyl]; simp)] at h2
  obtain ⟨u, u1, u2⟩ := ha h0
  obtain ⟨v, v1, v2⟩ := hb h1
  obtain ⟨z, z1, z2⟩ := hcc h2
  refine ⟨(u, v, z), ⟨_, _, ?_, u1, _, _, rfl, v1, z1⟩, u2, v2, z2⟩
  rw [o0, o1, o2, List.drop_zero]
  have : (cs.drop (P.cellsOf f0.type + P.cellsOf f1.type)).take (P.cellsOf f2.type) = (cs.drop (P.cellsOf f0.type)).drop (P.cellsOf f1.type) := by
    rw [List.take_of_length_le, List.drop_drop]
    rw [List.length_drop]; omega
  rw [this, List.take_append_drop, List.take_append_drop]
theorem opens_slice {α : Type} {P : Program} {d : Kd α} {t e : TypeId} {q : Nat} {ok : α → Prop} (ht : P.underlying t = some (.slice e)) (hs : P.cellsOf e = d.sz) (h : Opens P d e ok) : Opens P (Kd.slice q d) t (fun xs => ∀ x ∈ xs, ok x) := by
  intro H enc w base spare held fuel cs x hx
  rcases open_slice ht hx with ⟨rfl, _⟩ | ⟨a, len, cap, m, n, D, Pl, rfl, _, hl, hm, hmm, _, hi⟩
  · exact ⟨[], ⟨none, 0, rfl, Nat.le_refl _, rfl, by simp, fun hp => absurd hp (Nat.lt_irrefl 0)⟩, by simp⟩
  · have hlm : len ≤ m := by rw [hmm]; split <;> omega
    have hex : ∀ i, i < len → ∃ y : α, ok y ∧ ∃ c, c.length = d.sz ∧ d.K w y c ∧ ∀ j u, c[j]? = some u → w.cell? (a.add (i * d.sz + j)) = some u := by
      intro i hi'
      obtain ⟨cs', hc, ht'⟩ := hi i (by omega)
      obtain ⟨_, hcl, hat⟩ := World.cells?_some hc
      obtain ⟨y, y1, y2⟩ := h ht'
      refine ⟨y, y2, cs', by rw [hcl, hs], y1, fun j u hj => ?_⟩
      have hjl : j < P.cellsOf e := by rw [← hcl]; exact (List.getElem?_eq_some_iff.1 hj).1
      rw [← hs, ← Go.Deep.add_add, hat j hjl, hj]
    clear hi hx
    by_cases h0 : len = 0
    · subst h0
      exact ⟨[], ⟨some a, cap, rfl, by simp, rfl, by simp, fun hp => absurd hp (Nat.lt_irrefl 0)⟩, by simp⟩
    · obtain ⟨y0, _⟩ := hex 0 (by omega)
      haveI : Inhabited α := ⟨y0⟩
      obtain ⟨f, hf⟩ := choose_lt hex
      refine ⟨(List.range len).map f, ⟨some a, cap, by simp, by simpa using hl, rfl, ?_, fun hp => ⟨a, rfl, fun j p hj => ?_⟩⟩, fun y hy => ?_⟩
      · simp only [List.length_map, List.length_range]; unfold maxLen at hm; omega
      · rw [List.getElem?_map] at hj
        cases hr : (List.range len)[j]? with
        | none => rw [hr] at hj; cases hj
        | some k =>
          rw [hr] at hj
          obtain ⟨hk1, hk2⟩ := List.getElem?_eq_some_iff.1 hr
          simp only [List.length_range] at hk1
          simp only [List.getElem_range] at hk2
          subst hk2
          simp only [Option.map_some, Option.some.injEq] at hj
          subst hj
          exact (hf j hk1).2
      · obtain ⟨k, hk, rfl⟩ := List.mem_map.1 hy
        exact (hf k (List.mem_range.1 hk)).1
/-- A term's three cells. -/
def kT : Kd T := Kd.iso (Kd.pair (Kd.slice 36 kQ) kQ) (fun x : T => (x.c, x.k))
theorem i64_wf {n : Int} (h : (Lit.int .i64 n).wf = true) : I64 n := by
  unfold I64
  simp [Lit.wf, IntKind.min, IntKind.max, IntKind.signed, IntKind.bits] at h
  omega
theorem opens_Q : Opens Try.prog kQ 36 Q.wf :=
  opens_iso (opens_two Try.underlying36 (by kernel_rfl) (by kernel_rfl) (by kernel_rfl) (opens_int Try.underlying2) (opens_int Try.underlying2)) (fun x : Q => (x.n, x.d)) (fun x => ⟨x.1, x.2⟩) (fun _ => rfl) (fun _ h => ⟨i64_wf h.1, i64_wf h.2⟩)
theorem opens_T : Opens Try.prog kT 39 T.wf :=
  opens_iso (opens_two Try.underlying39 (by kernel_rfl) (by kernel_rfl) (by kernel_rfl) (opens_slice (q := 36) Try.underlying23 (by kernel_rfl) opens_Q) opens_Q) (fun x : T => (x.c, x.k)) (fun x => ⟨x.1, x.2⟩) (fun _ => rfl) (fun _ h => ⟨h.1, h.2⟩)
theorem opens_Ts : Opens Try.prog (Kd.slice 39 kT) 22 (fun l => ∀ t ∈ l, t.wf) :=
  opens_slice Try.underlying22 (by kernel_rfl) opens_T
end Go.Proofs.Ytffpdaejemmgpaa.W
