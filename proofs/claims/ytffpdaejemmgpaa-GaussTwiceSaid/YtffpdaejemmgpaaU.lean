/- This file holds the walk of gauss.take. -/
import Derived.Test.YtffpdaejemmgpaaT
import Derived.Deep.RegionHeld3
namespace Go.Proofs.Ytffpdaejemmgpaa.W
open Go.RowKit Go.Proofs.YtffpdaejemmgpaaW.PrintWords Go.Proofs.YtffpdaejemmgpaaW.PrintMore
set_option linter.unusedVariables false
set_option linter.unusedSimpArgs false
/-- A state after a call: the flag, the rows (their fractions below N), what else is unchanged. -/
structure St (g r N : Nat) (v : Value) (w W : World) (s : List GR × Bool) : Prop where mk ::
  flag : W.heap[g]? = some (.cells #[v, .bool s.2] 82 (0, 0))
  rows : RowsAt W g r N s.1
  kg : KG g (fun k => k = g ∨ k = r) w W
theorem kcell {g : Nat} {W w1 : World} (hk : KG g (fun k => k = g) W w1) : (∀ b o, b < W.heap.size → ¬ b = g → w1.cell? ⟨b, o, none⟩ = W.cell? ⟨b, o, none⟩) ∧ (∀ b o, b < W.heap.size → ¬ b = g → w1.frozen? ⟨b, o, none⟩ = W.frozen? ⟨b, o, none⟩) :=
  ⟨fun b o h hn => by simp [World.cell?, hk.k.2 b h hn], fun b o h hn => by simp [World.frozen?, hk.k.2 b h hn]⟩
theorem St.then_ {g r N : Nat} {v : Value} {w W W2 : World} {rows : List GR} {o o2 : Bool} (h : St g r N v w W (rows, o)) (hne : g < r) (hf : W2.heap[g]? = some (.cells #[v, .bool o2] 82 (0, 0))) (hk : KG g (fun k => k = g) W W2) : St g r N v w W2 (rows, o2) :=
  ⟨hf, h.rows.move hk.k hne, h.kg.then_ (hk.mono fun _ h => .inl h)⟩
theorem St.alloc {g r N : Nat} {v : Value} {w W : World} {s : List GR × Bool} (h : St g r N v w W s) (hne : g < r) (hgl : g < w.heap.size) (o : Obj) : St g r N v w (W.alloc o) s :=
  ⟨blk_alloc h.flag _, h.rows.below (below_alloc (Below.refl _ _) o) hne, h.kg.alloc hgl o⟩
theorem St.below {g r N : Nat} {v : Value} {w W W2 : World} {s : List GR × Bool} (h : St g r N v w W s) (hne : g < r) (hgl : g < w.heap.size) (hb : Below W.heap.size W W2) : St g r N v w W2 s :=
  ⟨blk_below h.flag hb, h.rows.below hb hne, h.kg.below (Nat.lt_of_lt_of_le hgl h.kg.b.size) hb⟩
theorem St.drewN {g r N : Nat} {v : Value} {w W : World} {s : List GR × Bool} (h : St g r N v w W s) (n : Nat) : St g r N v w (W.drewN n) s := ⟨h.flag, h.rows, h.kg.drewN n⟩
theorem St.drew {g r N : Nat} {v : Value} {w W : World} {s : List GR × Bool} (h : St g r N v w W s) : St g r N v w W.drew s := h.drewN 1
theorem St.far {g r N p i : Nat} {v : Value} {w W : World} {s : List GR × Bool} (h : St g r N v w W s) (hgl : g < w.heap.size) (hrl : r < w.heap.size) (hp : w.heap.size ≤ p) (hN : N ≤ p) (u : Value) : St g r N v w (W.setCell ⟨p, i, none⟩ u) s :=
  ⟨blk_far h.flag (by dsimp only; omega) _, h.rows.far hN (by omega) _, h.kg.set hgl (.inr hp) _⟩
theorem St.up {g r N N' : Nat} {v : Value} {w W : World} {s : List GR × Bool} (h : St g r N v w W s) (hN : N ≤ N') : St g r N' v w W s := ⟨h.flag, h.rows.mono hN, h.kg⟩
/-- A call at W made a term in new memory. -/
structure StN (g r N : Nat) (v : Value) (w W W' : World) (rows : List GR) (o : Bool) (l : List Q) (B : Option Addr) (m c : Nat) : Prop where mk ::
  st : St g r N v w W' (rows, o)
  len : l.length = m
  cap : m ≤ c
  f : Kd.F kQ W' (fun k => W.heap.size ≤ k) B m l
  kg : KG g (fun k => k = g) W W'
theorem times_in {g r N : Nat} {v : Value} {w W : World} {rows : List GR} {o : Bool} {t : T} {B : Option Addr} {m c : Nat} (h : St g r N v w W (rows, o)) (hm : t.c.length = m) (hr : Kd.C kQ W B m t.c) (hv : v.oneCell' = true) (hgr : g < r) (hw : t.wf) {q : Q} (hq : q.wf) {R : List Q} {rn rd re : Int} (hR : scaleS t q = (⟨R, ⟨rn, rd⟩⟩, re)) :
    Calls Try.prog 96 #[.pointer (some ⟨g, 0, none⟩), .agg #[.slice B m c, .int .i64 t.k.n, .int .i64 t.k.d], .agg #[.int .i64 q.n, .int .i64 q.d]] W fun E w' => ∃ (B' : Option Addr) (m' c' : Nat), E = .returned (.agg #[.slice B' m' c', .int .i64 rn, .int .i64 rd]) ∧ StN g r N v w W w' rows (o || re != 0) R B' m' c' := by
  refine (times_calls g v hv o t q B c m hm hw hq W hr h.flag).mono ?_
  rw [hR]
  rintro e w' ⟨A', c', m', rfl, h1, h2, h3, h4, h5⟩
  exact ⟨A', m', c', rfl, ⟨h.then_ hgr h4 h5, h1, h2, h3, h5⟩⟩
/-- The pivot lies at p. -/
structure Pv (g r N : Nat) (v : Value) (w W : World) (rows : List GR) (o : Bool) (pl : List Q) (pn pd : Int) (p : Nat) (B : Option Addr) (m c : Nat) : Prop where mk ::
  st : St g r N v w W (rows, o)
  blk : W.heap[p]? = some (.cells #[.slice B m c, .int .i64 pn, .int .i64 pd] 39 (0, 0))
  lo : w.heap.size ≤ p
  len : pl.length = m
  cap : m ≤ c
  f : Kd.F kQ W (fun k => k ≠ g ∧ k ≠ r ∧ k < N) B m pl
  top : N ≤ W.heap.size
theorem StN.pv1 {g r N : Nat} {v : Value} {w W W' : World} {rows : List GR} {o : Bool} {l : List Q} {B : Option Addr} {m c : Nat} (h : StN g r N v w W W' rows o l B m c) (hgr : g < r) (hrl : r < w.heap.size) (hW : w.heap.size ≤ W.heap.size) (hN : N ≤ W.heap.size) (pn pd : Int) :
    Pv g r W'.heap.size v w (W'.alloc (.cells #[.slice B m c, .int .i64 pn, .int .i64 pd] 39)) rows o l pn pd W'.heap.size B m c := by
  have hz := h.kg.b.size
  exact ⟨(h.st.up (Nat.le_trans hN hz)).alloc hgr (by omega) _, blk_new _ _, by omega, h.len, h.cap, Kd.F_mono (Kd.F_below (Kd.F_bound h.f) (below_alloc (Below.refl _ _) _)) (fun k hk => ⟨by omega, by omega, hk.2⟩), by simp⟩
theorem StN.pv2 {g r N p : Nat} {v : Value} {w W W' : World} {rows : List GR} {o : Bool} {l : List Q} {B : Option Addr} {m c : Nat} (h : StN g r N v w W W' rows o l B m c) (hgr : g < r) (hrl : r < w.heap.size) (hW : w.heap.size ≤ p) (hp : p < W.heap.size) (hN : N ≤ p) {x y z : Value} (hb : W.heap[p]? = some (.cells #[x, y, z] 39 (0, 0))) (pn pd : Int) :
    Pv g r W'.heap.size v w (((W'.setCell ⟨p, 0, none⟩ (.slice B m c)).setCell ⟨p, 1, none⟩ (.int .i64 pn)).setCell ⟨p, 2, none⟩ (.int .i64 pd)) rows o l pn pd p B m c := by
  have hz := h.kg.b.size
  refine ⟨(((h.st.far (by omega) hrl hW hN _).far (by omega) hrl hW hN _).far (by omega) hrl hW hN _).up (by omega), blk3 (blk_kept hb h.kg.k (by omega)), hW, h.len, h.cap, ?_, by simp [World.setCell]⟩
  have hf := Kd.F_bound h.f
  have hf2 := Kd.F_far (Kd.F_far (Kd.F_far hf (p := ⟨p, 0, none⟩) (fun k hk => by dsimp only; omega) (.slice B m c)) (p := ⟨p, 1, none⟩) (fun k hk => by dsimp only; omega) (.int .i64 pn)) (p := ⟨p, 2, none⟩) (fun k hk => by dsimp only; omega) (.int .i64 pd)
  exact Kd.F_mono hf2 fun k hk => ⟨by omega, by omega, hk.2⟩
theorem Pv.set4 {g r N p k : Nat} {v : Value} {w W : World} {rows : List GR} {o : Bool} {pl : List Q} {pn pd : Int} {B : Option Addr} {m c : Nat} (h : Pv g r N v w W rows o pl pn pd p B m c) {x : GR} (hx : rows[k]? = some x) (hgr : g < r) (hrl : r < w.heap.size) (vv : Int) :
    Pv g r N v w ((((W.setCell ⟨r, k * 4, none⟩ (.slice B m c)).setCell ⟨r, k * 4 + 1, none⟩ (.int .i64 pn)).setCell ⟨r, k * 4 + 2, none⟩ (.int .i64 pd)).setCell ⟨r, k * 4 + 3, none⟩ (.int .i64 vv)) (rows.set k ⟨⟨pl, ⟨pn, pd⟩⟩, vv⟩) o pl pn pd p B m c := by
  have hp := h.lo
  have hgl : g < w.heap.size := by omega
  refine ⟨⟨?_, ?_, ?_⟩, ?_, hp, h.len, h.cap, ?_, ?_⟩
  · exact blk_far (blk_far (blk_far (blk_far h.st.flag (by dsimp only; omega) _) (by dsimp only; omega) _) (by dsimp only; omega) _) (by dsimp only; omega) _
  · exact h.st.rows.set4 hx (t := ⟨pl, ⟨pn, pd⟩⟩) h.len h.cap h.f
  · exact KG.set (KG.set (KG.set (KG.set h.st.kg hgl (.inl ⟨.inr rfl, by dsimp only; omega⟩) _) hgl (.inl ⟨.inr rfl, by dsimp only; omega⟩) _) hgl (.inl ⟨.inr rfl, by dsimp only; omega⟩) _) hgl (.inl ⟨.inr rfl, by dsimp only; omega⟩) _
  · exact blk_far (blk_far (blk_far (blk_far h.blk (by dsimp only; omega) _) (by dsimp only; omega) _) (by dsimp only; omega) _) (by dsimp only; omega) _
  · exact Kd.F_far (Kd.F_far (Kd.F_far (Kd.F_far h.f (fun k hk => hk.2.1) _) (fun k hk => hk.2.1) _) (fun k hk => hk.2.1) _) (fun k hk => hk.2.1) _
  · have := h.top; simpa [World.setCell] using this
/-- Another row becomes a term in new memory. -/
theorem Pv.set3 {g r N N1 p k : Nat} {v : Value} {w W : World} {rows : List GR} {o : Bool} {pl : List Q} {pn pd : Int} {B : Option Addr} {m c : Nat} (h : Pv g r N v w W rows o pl pn pd p B m c) {x : GR} (hx : rows[k]? = some x) (hgr : g < r) (hrl : r < w.heap.size) {t : T} {B' : Option Addr} {m' c' : Nat} (hm : t.c.length = m') (hc : m' ≤ c') (hF : Kd.F kQ W (fun k => N1 ≤ k) B' m' t.c) (hN1 : w.heap.size ≤ N1) :
    Pv g r W.heap.size v w (((W.setCell ⟨r, k * 4, none⟩ (.slice B' m' c')).setCell ⟨r, k * 4 + 1, none⟩ (.int .i64 t.k.n)).setCell ⟨r, k * 4 + 2, none⟩ (.int .i64 t.k.d)) (rows.set k ⟨t, x.b⟩) o pl pn pd p B m c := by
  have hp := h.lo
  have hgl : g < w.heap.size := by omega
  refine ⟨⟨?_, ?_, ?_⟩, ?_, hp, h.len, h.cap, ?_, ?_⟩
  · exact blk_far (blk_far (blk_far h.st.flag (by dsimp only; omega) _) (by dsimp only; omega) _) (by dsimp only; omega) _
  · exact (h.st.rows.mono h.top).set3 hx hm hc (Kd.F_mono (Kd.F_bound hF) fun k hk => ⟨by omega, by omega, hk.2⟩)
  · exact KG.set (KG.set (KG.set h.st.kg hgl (.inl ⟨.inr rfl, by dsimp only; omega⟩) _) hgl (.inl ⟨.inr rfl, by dsimp only; omega⟩) _) hgl (.inl ⟨.inr rfl, by dsimp only; omega⟩) _
  · exact blk_far (blk_far (blk_far h.blk (by dsimp only; omega) _) (by dsimp only; omega) _) (by dsimp only; omega) _
  · exact Kd.F_mono (Kd.F_far (Kd.F_far (Kd.F_far h.f (fun k hk => hk.2.1) _) (fun k hk => hk.2.1) _) (fun k hk => hk.2.1) _) fun k hk => ⟨hk.1, hk.2.1, Nat.lt_of_lt_of_le hk.2.2 h.top⟩
  · simp [World.setCell]
theorem Pv.drewN {g r N p : Nat} {v : Value} {w W : World} {rows : List GR} {o : Bool} {pl : List Q} {pn pd : Int} {B : Option Addr} {m c : Nat} (h : Pv g r N v w W rows o pl pn pd p B m c) (n : Nat) : Pv g r N v w (W.drewN n) rows o pl pn pd p B m c :=
  ⟨h.st.drewN n, h.blk, h.lo, h.len, h.cap, Kd.F_below h.f (bw_drewN (Below.refl _ _) n), h.top⟩
theorem Pv.below {g r N p : Nat} {v : Value} {w W W2 : World} {rows : List GR} {o : Bool} {pl : List Q} {pn pd : Int} {B : Option Addr} {m c : Nat} (h : Pv g r N v w W rows o pl pn pd p B m c) (hgr : g < r) (hgl : g < w.heap.size) (hb : Below W.heap.size W W2) : Pv g r N v w W2 rows o pl pn pd p B m c :=
  ⟨h.st.below hgr hgl hb, blk_below h.blk hb, h.lo, h.len, h.cap, Kd.F_below h.f hb, Nat.le_trans h.top hb.size⟩
theorem Pv.then_ {g r N p : Nat} {v : Value} {w W W2 : World} {rows : List GR} {o o2 : Bool} {pl : List Q} {pn pd : Int} {B : Option Addr} {m c : Nat} (h : Pv g r N v w W rows o pl pn pd p B m c) (hgr : g < r) (hgl : g < w.heap.size) (hf : W2.heap[g]? = some (.cells #[v, .bool o2] 82 (0, 0))) (hk : KG g (fun k => k = g) W W2) : Pv g r N v w W2 rows o2 pl pn pd p B m c :=
  ⟨h.st.then_ hgr hf hk, blk_kept h.blk hk.k (by have := h.lo; omega), h.lo, h.len, h.cap, Kd.F_kept h.f hk.k (fun k hk e => hk.1 e), Nat.le_trans h.top hk.b.size⟩
theorem cells7 {W : World} {g a b : Nat} {v0 v1 a0 a1 a2 a3 b0 b1 b2 : Value} {t t' t'' : TypeId} (hg : W.heap[g]? = some (.cells #[v0, v1] t (0, 0))) (ha : W.heap[a]? = some (.cells #[a0, a1, a2, a3] t' (0, 0))) (hb : W.heap[b]? = some (.cells #[b0, b1, b2] t'' (0, 0))) :
    W.cell? ⟨g, 0, none⟩ = some v0 ∧ W.cell? ⟨a, 0, none⟩ = some a0 ∧ W.cell? ⟨a, 1, none⟩ = some a1 ∧ W.cell? ⟨a, 2, none⟩ = some a2 ∧ W.cell? ⟨b, 0, none⟩ = some b0 ∧ W.cell? ⟨b, 1, none⟩ = some b1 ∧ W.cell? ⟨b, 2, none⟩ = some b2 :=
  ⟨blk_cell hg 0, blk_cell ha 0, blk_cell ha 1, blk_cell ha 2, blk_cell hb 0, blk_cell hb 1, blk_cell hb 2⟩
theorem far_cell {W : World} {r o b i : Nat} (h : ¬ r = b) (u : Value) : (W.setCell ⟨r, o, none⟩ u).cell? ⟨b, i, none⟩ = W.cell? ⟨b, i, none⟩ := World.cell?_setCell_far _ _ _ _ h
theorem cells7_set {W : World} {g a b r i j k : Nat} {u v z v0 a0 a1 a2 b0 b1 b2 : Value} (h : W.cell? ⟨g, 0, none⟩ = some v0 ∧ W.cell? ⟨a, 0, none⟩ = some a0 ∧ W.cell? ⟨a, 1, none⟩ = some a1 ∧ W.cell? ⟨a, 2, none⟩ = some a2 ∧ W.cell? ⟨b, 0, none⟩ = some b0 ∧ W.cell? ⟨b, 1, none⟩ = some b1 ∧ W.cell? ⟨b, 2, none⟩ = some b2)
    (hg : ¬ r = g) (ha : ¬ r = a) (hb : ¬ r = b) :
    (((W.setCell ⟨r, i, none⟩ u).setCell ⟨r, j, none⟩ v).setCell ⟨r, k, none⟩ z).cell? ⟨g, 0, none⟩ = some v0 ∧ (((W.setCell ⟨r, i, none⟩ u).setCell ⟨r, j, none⟩ v).setCell ⟨r, k, none⟩ z).cell? ⟨a, 0, none⟩ = some a0 ∧ (((W.setCell ⟨r, i, none⟩ u).setCell ⟨r, j, none⟩ v).setCell ⟨r, k, none⟩ z).cell? ⟨a, 1, none⟩ = some a1 ∧ (((W.setCell ⟨r, i, none⟩ u).setCell ⟨r, j, none⟩ v).setCell ⟨r, k, none⟩ z).cell? ⟨a, 2, none⟩ = some a2 ∧ (((W.setCell ⟨r, i, none⟩ u).setCell ⟨r, j, none⟩ v).setCell ⟨r, k, none⟩ z).cell? ⟨b, 0, none⟩ = some b0 ∧ (((W.setCell ⟨r, i, none⟩ u).setCell ⟨r, j, none⟩ v).setCell ⟨r, k, none⟩ z).cell? ⟨b, 1, none⟩ = some b1 ∧ (((W.setCell ⟨r, i, none⟩ u).setCell ⟨r, j, none⟩ v).setCell ⟨r, k, none⟩ z).cell? ⟨b, 2, none⟩ = some b2 := by
  simp only [far_cell hg, far_cell ha, far_cell hb]; exact h
theorem qe_calls' {P : Program} {f : FuncId} {args : Array Value} {w : World} {r : Q × Int} {R : World → Prop} (h : Calls P f args w fun e w' => e = qe r ∧ R w') :
    Calls P f args w fun e w' => e = .returned (.tuple #[.agg #[.int .i64 r.1.n, .int .i64 r.1.d], .int .i64 r.2]) ∧ R w' := h
set_option maxRecDepth 8000 in
set_option maxHeartbeats 8000000 in
theorem take_calls (g r n cap : Nat) (rows : List GR) (k : Nat) (v : Int) (x : GR) (hx : rows[k]? = some x) (hwf : ∀ y ∈ rows, y.t.wf) (hq : rightB (atT x.t v) = true) (hq0 : (atT x.t v).n ≠ 0) (hn : rows.length = n) (hmx : n ≤ 1000) (hcap : n ≤ cap) (hgr : g < r) (w : World)
    (hg : w.heap[g]? = some (.cells #[.slice (some ⟨r, 0, none⟩) n cap, .bool false] 82 (0, 0))) (hr : RowsAt w g r w.heap.size rows) :
    Calls Try.prog 65 #[.pointer (some ⟨g, 0, none⟩), .int .i64 k, .int .i64 v] w fun e w' => e = .returned (.tuple #[]) ∧ (∃ N, St g r N (.slice (some ⟨r, 0, none⟩) n cap) w w' (takeS k v x rows)) := by
  have hxm : x ∈ rows := List.mem_of_getElem? hx
  have hkn : k < n := by rw [← hn]; exact (List.getElem?_eq_some_iff.1 hx).1
  have hgl : g < w.heap.size := blk_lt hg
  have hrl : r < w.heap.size := hr.lt
  have E := Lib.hid (show takeS k v x rows = loopS k v (scaleS x.t (mulS ⟨1, 1⟩ (flip (atT x.t v))).1).1
    (rows.set k ⟨(scaleS x.t (mulS ⟨1, 1⟩ (flip (atT x.t v))).1).1, v⟩, (mulS ⟨1, 1⟩ (flip (atT x.t v))).2 != 0 || (scaleS x.t (mulS ⟨1, 1⟩ (flip (atT x.t v))).1).2 != 0) rows.length from rfl)
  have HD := Lib.hid fun W => Div_calls (atT x.t v) (atT_wf (hwf x hxm) v) hq hq0 W
  have hqw := mulS_wf ⟨1, 1⟩ (flip (atT x.t v))
  obtain ⟨S, hS⟩ : ∃ S, takeS k v x rows = S := ⟨_, rfl⟩
  rw [hS] at E ⊢
  clear hS hq hq0
  obtain ⟨B, m, c, c0, c1, c2, c3, hm, hc, hF⟩ := hr.row hx
  have HA := Lib.hid fun W hb => At_calls' x.t B c m hm v W (Kd.C_below (w1 := W) (Kd.F_now hF) hb)
  generalize hq1 : atT x.t v = q at *
  have fr := hr.froz
  have hf0 := fr (k * 4)
  have hf1 := fr (k * 4 + 1)
  have hf2 := fr (k * 4 + 2)
  have hf3 := fr (k * 4 + 3)
  have HR := Lib.hid hr
  have HX := Lib.hid hx
  have HF := Lib.hid hF
  have HM := Lib.hid hm
  have HW := Lib.hid hwf
  have HXW := Lib.hid (hwf x hxm)
  have HN := Lib.hid hn
  have HG := Lib.hid hg
  have hg_c0 : w.cell? ⟨g, 0, none⟩ = some (.slice (some ⟨r, 0, none⟩) n cap) := blk_cell hg 0; have hg_f0 : w.frozen? ⟨g, 0, none⟩ = false := blk_frozen hg 0; have hg_c1 : w.cell? ⟨g, 1, none⟩ = some (.bool false) := blk_cell hg 1; have hg_f1 : w.frozen? ⟨g, 1, none⟩ = false := blk_frozen hg 1
  have hgne : r ≠ g := by omega
  clear hr hx hF hm hwf hn hxm fr hq1 hg
  obtain ⟨⟨l, kn, kd⟩, xb⟩ := x
  generalize hM : mulS ⟨1, 1⟩ (flip q) = M at *
  obtain ⟨⟨bn, bd⟩, be⟩ := M
  obtain ⟨qn, qd⟩ := q
  dsimp only at *
  have HD2 := Lib.hid fun W => qe_calls' (HD.out W)
  have HBW := Lib.hid hqw
  clear HD hM hqw
  obtain ⟨P, hP⟩ : ∃ P, scaleS ⟨l, ⟨kn, kd⟩⟩ ⟨bn, bd⟩ = P := ⟨_, rfl⟩
  rw [hP] at E
  obtain ⟨⟨pl, pn, pd⟩, pe⟩ := P
  have HT := Lib.hid fun W (h : St g r w.heap.size (.slice (some ⟨r, 0, none⟩) n cap) w W (rows, be != 0)) => times_in (c := c) h HM.out (Kd.F_now (Kd.F_kept HF.out h.kg.k (fun k hk e => by omega))) rfl hgr HXW.out HBW.out hP
  have HPW : Hid (T.wf ⟨pl, ⟨pn, pd⟩⟩) := Lib.hid (by have := scaleS_wf ⟨l, ⟨kn, kd⟩⟩ ⟨bn, bd⟩; rw [hP] at this; exact this)
  clear hP
  dsimp only at *
  go_enter Try.func65, Try.ntmps65
  go_wp2_with fail
  refine (HA.out _ (by repeat (first | exact Below.refl _ _ | assumption | exact Hid.out (by assumption) | (with_reducible first | refine bw_drewN ?_ _ | refine bw_alloc ?_ _ | refine bw_drew ?_) | (refine bw_set ?_ (by first | exact Nat.le_refl _ | (simp; done) | (simp; omega) | omega) _)))).mono ?_
  rintro e w1 ⟨rfl, hw1⟩
  have B1 : Below w.heap.size w w1 := bw_then (by repeat (first | exact Below.refl _ _ | assumption | exact Hid.out (by assumption) | (with_reducible first | refine bw_drewN ?_ _ | refine bw_alloc ?_ _ | refine bw_drew ?_) | (refine bw_set ?_ (by first | exact Nat.le_refl _ | (simp; done) | (simp; omega) | omega) _))) hw1
  have hz1 : w.heap.size ≤ w1.heap.size := B1.size
  go_wp2_with fail
  refine (HD2.out _).mono ?_
  rintro e w2 ⟨rfl, hw2⟩
  have B2 : Below w.heap.size w w2 := bw_then B1 hw2
  have hz2 : w.heap.size ≤ w2.heap.size := B2.size
  dsimp only
  have G2 := blk_below HG.out B2
  have HG2 := Lib.hid G2
  have G2_c0 : w2.cell? ⟨g, 0, none⟩ = some (.slice (some ⟨r, 0, none⟩) n cap) := blk_cell G2 0; have G2_f0 : w2.frozen? ⟨g, 0, none⟩ = false := blk_frozen G2 0; have G2_c1 : w2.cell? ⟨g, 1, none⟩ = some (.bool false) := blk_cell G2 1; have G2_f1 : w2.frozen? ⟨g, 1, none⟩ = false := blk_frozen G2 1
  have hrl2 : r < w2.heap.size := by omega
  have hgl2 : g < w2.heap.size := by omega
  obtain ⟨k2, k2f⟩ := bcell B2
  have d0 := (k2 r (k * 4) hrl).trans c0
  have d1 := (k2 r (k * 4 + 1) hrl).trans c1
  have d2 := (k2 r (k * 4 + 2) hrl).trans c2
  have d3 := (k2 r (k * 4 + 3) hrl).trans c3
  have e0 := (k2f r (k * 4) hrl).trans hf0
  have e1 := (k2f r (k * 4 + 1) hrl).trans hf1
  have e2 := (k2f r (k * 4 + 2) hrl).trans hf2
  have e3 := (k2f r (k * 4 + 3) hrl).trans hf3
  clear hw1 hw2 k2 k2f c0 c1 c2 c3 hf0 hf1 hf2 hf3
  have K2 : St g r w.heap.size (.slice (some ⟨r, 0, none⟩) n cap) w w2 (rows, false) := ⟨G2, HR.out.below B2 hgr, (KG.refl _ _ _).below hgl B2⟩
  have HK3 : Hid (St g r w.heap.size (.slice (some ⟨r, 0, none⟩) n cap) w (w2.setCell ⟨g, 1, none⟩ (.bool (be != 0))) (rows, be != 0)) := Lib.hid (K2.then_ hgr (blk_set G2 1 _) ((KG.refl g (fun k => k = g) w2).set hgl2 (.inl ⟨rfl, Nat.le_refl _⟩) _))
  clear K2 G2 HG2
  go_upto_region 2 with fail
  go_cut [8] from 39 to 49 (fun t8 wx => ∃ (p : Nat) (B4 : Option Addr) (m4 c4 : Nat), t8 = .pointer (some ⟨p, 0, none⟩) ∧ Hid (∃ N, Pv g r N (.slice (some ⟨r, 0, none⟩) n cap) w wx rows (be != 0 || pe != 0) pl pn pd p B4 m4 c4))
  case first =>
    have hne1 : ¬ (w2.heap.size + 1 = g) := by omega
    go_region_with (go_at_call 96; refine (HT.out _ (by repeat (first | assumption | exact Hid.out (by assumption) | refine St.drewN ?_ _ | refine St.drew ?_ | refine St.alloc ?_ (by omega) (by omega) _))).mono ?_; rintro e w4 ⟨B4, m4, c4, rfl, hT4⟩; have HT4 := Lib.hid hT4; obtain ⟨hcl, hfr⟩ := kcell hT4.kg; have hz4 := hT4.kg.b.size; (try simp at hz4); (first | (have hz5 : w2.heap.size + 1 < w4.heap.size := by omega) | (have hz5 : w2.heap.size < w4.heap.size := by omega)); clear hT4 hz4)
    all_goals
      go_wp2_with fail
      go_meet
      case rel =>
        have q1 : w.heap.size + 2 ≤ w2.heap.size + 2 := by omega
        exact ⟨_, _, _, _, rfl, Lib.hid ⟨_, by
          first
            | exact HT4.out.pv1 hgr hrl (by simp; omega) (by simp; omega) pn pd
            | exact HT4.out.pv2 hgr hrl (by omega) (by simp) (by omega) (by first | exact blk_drewN (blk_new' (by simp)) _ | exact blk_drew (blk_new' (by simp)) | exact (blk_new' (by simp)) | exact blk_drewN (blk_drewN (blk_new' (by simp)) _) _) pn pd⟩⟩
  case rest =>
    obtain ⟨p, B4, m4, c4, rfl, hcut⟩ := hcut
    clear HT HA HD2 HK3 d0 d1 d2 d3 e0 e1 e2 e3 hg_c0 hg_c1 hg_f0 hg_f1
    obtain ⟨N, hN⟩ := hcut.out
    have zP := hN.lo
    have zN := hN.top
    have zW := hN.st.kg.b.size
    have zG := hN.st.flag
    have zT := hN.blk
    generalize hOO : (be != 0 || pe != 0) = OO at *
    have HOO := Lib.hid hOO
    clear hOO
    have zL := blk_lt zT
    have zF := fun o => hN.st.rows.froz o
    have y0 := zF (k * 4)
    have y1 := zF (k * 4 + 1)
    have y2 := zF (k * 4 + 2)
    have y3 := zF (k * 4 + 3)
    obtain ⟨Bx, mx1, cx, v0, v1, v2, v3, -, -, -⟩ := hN.st.rows.row HX.out
    have hrp : ¬ r = p := by omega
    have hgp : ¬ g = p := by omega
    have HZ := Lib.hid hN
    have zG_c0 : wc.cell? ⟨g, 0, none⟩ = some (.slice (some ⟨r, 0, none⟩) n cap) := blk_cell zG 0; have zG_f0 : wc.frozen? ⟨g, 0, none⟩ = false := blk_frozen zG 0; have zG_c1 : wc.cell? ⟨g, 1, none⟩ = some (.bool OO) := blk_cell zG 1; have zG_f1 : wc.frozen? ⟨g, 1, none⟩ = false := blk_frozen zG 1
    have zT_c0 : wc.cell? ⟨p, 0, none⟩ = some (.slice B4 m4 c4) := blk_cell zT 0; have zT_f0 : wc.frozen? ⟨p, 0, none⟩ = false := blk_frozen zT 0; have zT_c1 : wc.cell? ⟨p, 1, none⟩ = some (.int .i64 pn) := blk_cell zT 1; have zT_f1 : wc.frozen? ⟨p, 1, none⟩ = false := blk_frozen zT 1; have zT_c2 : wc.cell? ⟨p, 2, none⟩ = some (.int .i64 pd) := blk_cell zT 2; have zT_f2 : wc.frozen? ⟨p, 2, none⟩ = false := blk_frozen zT 2
    clear hcut hN zF zG zT zP
    go_wp2_with fail
    go_region
    go_wp2_with fail
    obtain ⟨L, hL⟩ : ∃ L, L = loopS k v ⟨pl, ⟨pn, pd⟩⟩ (rows.set k ⟨⟨pl, ⟨pn, pd⟩⟩, v⟩, OO) := ⟨_, rfl⟩
    have HL := Lib.hid hL
    have HE : Hid (S = L n) := Lib.hid (by rw [E.out, hL, HN.out])
    have PW : T.wf ⟨pl, ⟨pn, pd⟩⟩ := HPW.out
    have HPW2 := Lib.hid PW
    have HLW : Hid (∀ j, (∀ y ∈ (L j).1, y.t.wf) ∧ (L j).1.length = n) := Lib.hid fun j => by
      have := loopS_wf (at_ := k) (v := v) (pv := ⟨pl, ⟨pn, pd⟩⟩) (s := (rows.set k ⟨⟨pl, ⟨pn, pd⟩⟩, v⟩, OO)) (allWf_set HW.out k PW) j
      rw [← hL] at this
      exact ⟨this.1, by rw [this.2, List.length_set, HN.out]⟩
    have HLS : Hid (∀ j, L (j + 1) = stepS k v ⟨pl, ⟨pn, pd⟩⟩ j (L j)) := Lib.hid fun j => by rw [hL]; rfl
    have HL0 : Hid (L 0 = (rows.set k ⟨⟨pl, ⟨pn, pd⟩⟩, v⟩, OO)) := Lib.hid (by rw [hL]; rfl)
    clear hL PW
    go_loopw [64] (fun i wr => ∃ j : Nat, j ≤ n ∧ i = .int .i64 j ∧ Hid (∃ N, Pv g r N (.slice (some ⟨r, 0, none⟩) n cap) w wr (L j).1 (L j).2 pl pn pd p B4 m4 c4)) (fun i _ => n - (intOf i).toNat)
    case atStart => exact ⟨0, by omega, rfl, Lib.hid ⟨_, by rw [HL0.out]; exact (HZ.out.set4 HX.out hgr hrl v).drewN _⟩⟩
    case round =>
      obtain ⟨j, hj, rfl, hP⟩ := hrel
      by_cases hlt : j < n
      · obtain ⟨N2, hP2⟩ := hP.out
        obtain ⟨y, hy⟩ : ∃ y, (L j).1[j]? = some y := ⟨_, List.getElem?_eq_getElem (by rw [(HLW.out j).2]; exact hlt)⟩
        have hyw := (HLW.out j).1 y (List.mem_of_getElem? hy)
        obtain ⟨By, my, cy, u0, u1, u2, u3, hmy, hcy, hFy⟩ := hP2.st.rows.row hy
        have hx0 := hP2.st.flag
        have hx1 := hP2.blk
        have hfz := fun o => hP2.st.rows.froz o
        have hxr := hP2.st.rows.lt
        have hxg := blk_lt hx0
        have hxp := blk_lt hx1
        have hxl := hP2.lo
        have HA := Lib.hid fun W2 hb => At_calls' y.t By cy my hmy v W2 (Kd.C_below (w1 := W2) (Kd.F_now hFy) hb)
        have HFY := Lib.hid hFy
        have HY := Lib.hid hy
        have HMY := Lib.hid hmy
        have HYW := Lib.hid hyw
        have HP2 := Lib.hid hP2
        have qw := atT_wf hyw v
        have S0 : Hid (∀ b : Bool, (decide (j = k) || (atT y.t v).n == 0 || (L j).2) = true → L (j + 1) = L j) := Lib.hid fun _ h => by
          rw [HLS.out j, stepS, hy]; dsimp only; rw [if_pos h]
        have S1 : Hid ((decide (j = k) || (atT y.t v).n == 0 || (L j).2) = false → (scaleS ⟨pl, ⟨pn, pd⟩⟩ (lessQ (atT y.t v))).2 ≠ 0 → L (j + 1) = ((L j).1, true)) := Lib.hid fun h h2 => by
          rw [HLS.out j, stepS, hy]; dsimp only; rw [if_neg (by simp [h]), if_pos (by simpa using h2)]
        have S2 : Hid ((decide (j = k) || (atT y.t v).n == 0 || (L j).2) = false → (scaleS ⟨pl, ⟨pn, pd⟩⟩ (lessQ (atT y.t v))).2 = 0 → L (j + 1) = ((L j).1.set j ⟨(addTS y.t (scaleS ⟨pl, ⟨pn, pd⟩⟩ (lessQ (atT y.t v))).1).1, y.b⟩, (addTS y.t (scaleS ⟨pl, ⟨pn, pd⟩⟩ (lessQ (atT y.t v))).1).2 != 0)) := Lib.hid fun h h2 => by
          rw [HLS.out j, stepS, hy]; dsimp only; rw [if_neg (by simp [h]), if_neg (by simp [h2])]
        obtain ⟨q2, hq⟩ : ∃ q2, atT y.t v = q2 := ⟨_, rfl⟩
        rw [hq] at HA qw S0 S1 S2
        obtain ⟨oj, hoj⟩ : ∃ oj, (L j).2 = oj := ⟨_, rfl⟩
        rw [hoj] at S0 S1 S2 hx0 HP2
        have HOJ := Lib.hid hoj
        clear hoj
        clear hq hP2 hFy hmy hy hyw hP
        obtain ⟨q2n, q2d⟩ := q2
        obtain ⟨⟨yl, ykn, ykd⟩, yb⟩ := y
        dsimp only at *
        have HQW := Lib.hid qw
        clear qw
        have hpr : ¬ p = g := by omega
        have hpr2 : ¬ p = r := by omega
        have hx0_c0 : wr.cell? ⟨g, 0, none⟩ = some (.slice (some ⟨r, 0, none⟩) n cap) := blk_cell hx0 0; have hx0_f0 : wr.frozen? ⟨g, 0, none⟩ = false := blk_frozen hx0 0; have hx0_c1 : wr.cell? ⟨g, 1, none⟩ = some (.bool oj) := blk_cell hx0 1; have hx0_f1 : wr.frozen? ⟨g, 1, none⟩ = false := blk_frozen hx0 1
        have hx1_c0 : wr.cell? ⟨p, 0, none⟩ = some (.slice B4 m4 c4) := blk_cell hx1 0; have hx1_f0 : wr.frozen? ⟨p, 0, none⟩ = false := blk_frozen hx1 0; have hx1_c1 : wr.cell? ⟨p, 1, none⟩ = some (.int .i64 pn) := blk_cell hx1 1; have hx1_f1 : wr.frozen? ⟨p, 1, none⟩ = false := blk_frozen hx1 1; have hx1_c2 : wr.cell? ⟨p, 2, none⟩ = some (.int .i64 pd) := blk_cell hx1 2; have hx1_f2 : wr.frozen? ⟨p, 2, none⟩ = false := blk_frozen hx1 2
        by_cases e1 : j = k
        · have EJ := Lib.hid e1
          have hb1 : ((j : Int) == (k : Int)) = true := by simp [e1]
          clear e1
          go_wp2_with fail
          refine (HA.out _ (by repeat (first | exact Below.refl _ _ | assumption | exact Hid.out (by assumption) | (with_reducible first | refine bw_drewN ?_ _ | refine bw_alloc ?_ _ | refine bw_drew ?_) | (refine bw_set ?_ (by first | exact Nat.le_refl _ | (simp; done) | (simp; omega) | omega) _)))).mono ?_
          rintro e w5 ⟨rfl, hw5⟩
          have B5 : Below wr.heap.size wr w5 := bw_then (by repeat (first | exact Below.refl _ _ | assumption | exact Hid.out (by assumption) | (with_reducible first | refine bw_drewN ?_ _ | refine bw_alloc ?_ _ | refine bw_drew ?_) | (refine bw_set ?_ (by first | exact Nat.le_refl _ | (simp; done) | (simp; omega) | omega) _))) hw5
          have R5 : w5.heap[wr.heap.size]? = some (.cells #[.slice By my cy, .int .i64 ykn, .int .i64 ykd, .int .i64 yb] 85 (0, 0)) := blk_below (blk_new' (by simp)) hw5
          have G5 := blk_below hx0 B5
          have P5 := blk_below hx1 B5
          have hz5 : wr.heap.size < w5.heap.size := by have := hw5.size; simp at this; omega
          have hg5 : g < w5.heap.size := by omega
          have hp5 : p < w5.heap.size := by omega
          have hr5 : r < w5.heap.size := by omega
          have R5_c0 : w5.cell? ⟨wr.heap.size, 0, none⟩ = some (.slice By my cy) := blk_cell R5 0; have R5_f0 : w5.frozen? ⟨wr.heap.size, 0, none⟩ = false := blk_frozen R5 0; have R5_c1 : w5.cell? ⟨wr.heap.size, 1, none⟩ = some (.int .i64 ykn) := blk_cell R5 1; have R5_f1 : w5.frozen? ⟨wr.heap.size, 1, none⟩ = false := blk_frozen R5 1; have R5_c2 : w5.cell? ⟨wr.heap.size, 2, none⟩ = some (.int .i64 ykd) := blk_cell R5 2; have R5_f2 : w5.frozen? ⟨wr.heap.size, 2, none⟩ = false := blk_frozen R5 2; have R5_c3 : w5.cell? ⟨wr.heap.size, 3, none⟩ = some (.int .i64 yb) := blk_cell R5 3; have R5_f3 : w5.frozen? ⟨wr.heap.size, 3, none⟩ = false := blk_frozen R5 3
          have G5_c0 : w5.cell? ⟨g, 0, none⟩ = some (.slice (some ⟨r, 0, none⟩) n cap) := blk_cell G5 0; have G5_f0 : w5.frozen? ⟨g, 0, none⟩ = false := blk_frozen G5 0; have G5_c1 : w5.cell? ⟨g, 1, none⟩ = some (.bool oj) := blk_cell G5 1; have G5_f1 : w5.frozen? ⟨g, 1, none⟩ = false := blk_frozen G5 1
          have P5_c0 : w5.cell? ⟨p, 0, none⟩ = some (.slice B4 m4 c4) := blk_cell P5 0; have P5_f0 : w5.frozen? ⟨p, 0, none⟩ = false := blk_frozen P5 0; have P5_c1 : w5.cell? ⟨p, 1, none⟩ = some (.int .i64 pn) := blk_cell P5 1; have P5_f1 : w5.frozen? ⟨p, 1, none⟩ = false := blk_frozen P5 1; have P5_c2 : w5.cell? ⟨p, 2, none⟩ = some (.int .i64 pd) := blk_cell P5 2; have P5_f2 : w5.frozen? ⟨p, 2, none⟩ = false := blk_frozen P5 2
          clear hw5 R5 G5 P5
          go_wp2_with fail
          go_roundw
          case rel =>
            refine ⟨j + 1, by omega, by go_num, Lib.hid ⟨N2, ?_⟩⟩
            rw [S0.out true (by simp [EJ.out]), HOJ.out]
            first
              | exact HP2.out.below hgr hgl (by repeat (first | exact Below.refl _ _ | assumption | exact Hid.out (by assumption) | (with_reducible first | refine bw_drewN ?_ _ | refine bw_alloc ?_ _ | refine bw_drew ?_) | (refine bw_set ?_ (by first | exact Nat.le_refl _ | (simp; done) | (simp; omega) | omega) _)))
              | exact HP2.out.below hgr hgl (bw_alloc (bw_alloc B5 _) _)
          case measure => simp [intOf] <;> omega
        · have hb1 : ((j : Int) == (k : Int)) = false := by simp; omega
          by_cases e2 : q2n = 0
          · have EJ := Lib.hid e2
            have hb2 : (q2n == 0) = true := by simp [e2]
            clear e2 e1
            go_wp2_with fail
            refine (HA.out _ (by repeat (first | exact Below.refl _ _ | assumption | exact Hid.out (by assumption) | (with_reducible first | refine bw_drewN ?_ _ | refine bw_alloc ?_ _ | refine bw_drew ?_) | (refine bw_set ?_ (by first | exact Nat.le_refl _ | (simp; done) | (simp; omega) | omega) _)))).mono ?_
            rintro e w5 ⟨rfl, hw5⟩
            have B5 : Below wr.heap.size wr w5 := bw_then (by repeat (first | exact Below.refl _ _ | assumption | exact Hid.out (by assumption) | (with_reducible first | refine bw_drewN ?_ _ | refine bw_alloc ?_ _ | refine bw_drew ?_) | (refine bw_set ?_ (by first | exact Nat.le_refl _ | (simp; done) | (simp; omega) | omega) _))) hw5
            have R5 : w5.heap[wr.heap.size]? = some (.cells #[.slice By my cy, .int .i64 ykn, .int .i64 ykd, .int .i64 yb] 85 (0, 0)) := blk_below (blk_new' (by simp)) hw5
            have G5 := blk_below hx0 B5
            have P5 := blk_below hx1 B5
            have hz5 : wr.heap.size < w5.heap.size := by have := hw5.size; simp at this; omega
            have hg5 : g < w5.heap.size := by omega
            have hp5 : p < w5.heap.size := by omega
            have hr5 : r < w5.heap.size := by omega
            have R5_c0 : w5.cell? ⟨wr.heap.size, 0, none⟩ = some (.slice By my cy) := blk_cell R5 0; have R5_f0 : w5.frozen? ⟨wr.heap.size, 0, none⟩ = false := blk_frozen R5 0; have R5_c1 : w5.cell? ⟨wr.heap.size, 1, none⟩ = some (.int .i64 ykn) := blk_cell R5 1; have R5_f1 : w5.frozen? ⟨wr.heap.size, 1, none⟩ = false := blk_frozen R5 1; have R5_c2 : w5.cell? ⟨wr.heap.size, 2, none⟩ = some (.int .i64 ykd) := blk_cell R5 2; have R5_f2 : w5.frozen? ⟨wr.heap.size, 2, none⟩ = false := blk_frozen R5 2; have R5_c3 : w5.cell? ⟨wr.heap.size, 3, none⟩ = some (.int .i64 yb) := blk_cell R5 3; have R5_f3 : w5.frozen? ⟨wr.heap.size, 3, none⟩ = false := blk_frozen R5 3
            have G5_c0 : w5.cell? ⟨g, 0, none⟩ = some (.slice (some ⟨r, 0, none⟩) n cap) := blk_cell G5 0; have G5_f0 : w5.frozen? ⟨g, 0, none⟩ = false := blk_frozen G5 0; have G5_c1 : w5.cell? ⟨g, 1, none⟩ = some (.bool oj) := blk_cell G5 1; have G5_f1 : w5.frozen? ⟨g, 1, none⟩ = false := blk_frozen G5 1
            have P5_c0 : w5.cell? ⟨p, 0, none⟩ = some (.slice B4 m4 c4) := blk_cell P5 0; have P5_f0 : w5.frozen? ⟨p, 0, none⟩ = false := blk_frozen P5 0; have P5_c1 : w5.cell? ⟨p, 1, none⟩ = some (.int .i64 pn) := blk_cell P5 1; have P5_f1 : w5.frozen? ⟨p, 1, none⟩ = false := blk_frozen P5 1; have P5_c2 : w5.cell? ⟨p, 2, none⟩ = some (.int .i64 pd) := blk_cell P5 2; have P5_f2 : w5.frozen? ⟨p, 2, none⟩ = false := blk_frozen P5 2
            clear hw5 R5 G5 P5
            go_wp2_with fail
            go_roundw
            case rel =>
              refine ⟨j + 1, by omega, by go_num, Lib.hid ⟨N2, ?_⟩⟩
              rw [S0.out true (by simp [EJ.out]), HOJ.out]
              first
                | exact HP2.out.below hgr hgl (by repeat (first | exact Below.refl _ _ | assumption | exact Hid.out (by assumption) | (with_reducible first | refine bw_drewN ?_ _ | refine bw_alloc ?_ _ | refine bw_drew ?_) | (refine bw_set ?_ (by first | exact Nat.le_refl _ | (simp; done) | (simp; omega) | omega) _)))
                | exact HP2.out.below hgr hgl (bw_alloc (bw_alloc B5 _) _)
            case measure => simp [intOf] <;> omega
          · have hb2 : (q2n == 0) = false := by simp [e2]
            cases oj
            · obtain ⟨P2, hP2'⟩ : ∃ P2, scaleS ⟨pl, ⟨pn, pd⟩⟩ (lessQ ⟨q2n, q2d⟩) = P2 := ⟨_, rfl⟩
              rw [hP2'] at S1 S2
              obtain ⟨⟨ll, ln, ld⟩, le⟩ := P2
              have HLL : Hid (T.wf ⟨ll, ⟨ln, ld⟩⟩) := Lib.hid (by have := scaleS_wf ⟨pl, ⟨pn, pd⟩⟩ (lessQ ⟨q2n, q2d⟩); rw [hP2'] at this; exact this)
              have HTL := Lib.hid fun W (h : Pv g r N2 (.slice (some ⟨r, 0, none⟩) n cap) w W (L j).1 false pl pn pd p B4 m4 c4) => times_in (c := c4) h.st h.len (Kd.F_now h.f) rfl hgr HPW2.out (lessQ_wf HQW.out) hP2'
              clear hP2'
              dsimp only at HTL S1 S2
              dsimp only [lessQ] at HTL
              rw [show IntKind.i64.wrap (-q2n) = wrap64 (-q2n) from by rw [IntKind.wrap_i64, wrap64]] at HTL
              have C0 : Hid ((decide (j = k) || q2n == 0 || false) = false) := Lib.hid (by simp [e1, e2])
              clear e1 e2
              go_wp2_with fail
              refine (HA.out _ (by repeat (first | exact Below.refl _ _ | assumption | exact Hid.out (by assumption) | (with_reducible first | refine bw_drewN ?_ _ | refine bw_alloc ?_ _ | refine bw_drew ?_) | (refine bw_set ?_ (by first | exact Nat.le_refl _ | (simp; done) | (simp; omega) | omega) _)))).mono ?_
              rintro e w5 ⟨rfl, hw5⟩
              have B5 : Below wr.heap.size wr w5 := bw_then (by repeat (first | exact Below.refl _ _ | assumption | exact Hid.out (by assumption) | (with_reducible first | refine bw_drewN ?_ _ | refine bw_alloc ?_ _ | refine bw_drew ?_) | (refine bw_set ?_ (by first | exact Nat.le_refl _ | (simp; done) | (simp; omega) | omega) _))) hw5
              have R5 : w5.heap[wr.heap.size]? = some (.cells #[.slice By my cy, .int .i64 ykn, .int .i64 ykd, .int .i64 yb] 85 (0, 0)) := blk_below (blk_new' (by simp)) hw5
              have G5 := blk_below hx0 B5
              have P5 := blk_below hx1 B5
              have hz5 : wr.heap.size < w5.heap.size := by have := hw5.size; simp at this; omega
              have hg5 : g < w5.heap.size := by omega
              have hp5 : p < w5.heap.size := by omega
              have hr5 : r < w5.heap.size := by omega
              have R5_c0 : w5.cell? ⟨wr.heap.size, 0, none⟩ = some (.slice By my cy) := blk_cell R5 0; have R5_f0 : w5.frozen? ⟨wr.heap.size, 0, none⟩ = false := blk_frozen R5 0; have R5_c1 : w5.cell? ⟨wr.heap.size, 1, none⟩ = some (.int .i64 ykn) := blk_cell R5 1; have R5_f1 : w5.frozen? ⟨wr.heap.size, 1, none⟩ = false := blk_frozen R5 1; have R5_c2 : w5.cell? ⟨wr.heap.size, 2, none⟩ = some (.int .i64 ykd) := blk_cell R5 2; have R5_f2 : w5.frozen? ⟨wr.heap.size, 2, none⟩ = false := blk_frozen R5 2; have R5_c3 : w5.cell? ⟨wr.heap.size, 3, none⟩ = some (.int .i64 yb) := blk_cell R5 3; have R5_f3 : w5.frozen? ⟨wr.heap.size, 3, none⟩ = false := blk_frozen R5 3
              have G5_c0 : w5.cell? ⟨g, 0, none⟩ = some (.slice (some ⟨r, 0, none⟩) n cap) := blk_cell G5 0; have G5_f0 : w5.frozen? ⟨g, 0, none⟩ = false := blk_frozen G5 0; have G5_c1 : w5.cell? ⟨g, 1, none⟩ = some (.bool false) := blk_cell G5 1; have G5_f1 : w5.frozen? ⟨g, 1, none⟩ = false := blk_frozen G5 1
              have P5_c0 : w5.cell? ⟨p, 0, none⟩ = some (.slice B4 m4 c4) := blk_cell P5 0; have P5_f0 : w5.frozen? ⟨p, 0, none⟩ = false := blk_frozen P5 0; have P5_c1 : w5.cell? ⟨p, 1, none⟩ = some (.int .i64 pn) := blk_cell P5 1; have P5_f1 : w5.frozen? ⟨p, 1, none⟩ = false := blk_frozen P5 1; have P5_c2 : w5.cell? ⟨p, 2, none⟩ = some (.int .i64 pd) := blk_cell P5 2; have P5_f2 : w5.frozen? ⟨p, 2, none⟩ = false := blk_frozen P5 2
              clear hw5 G5 P5
              go_wp2_with fail
              have PV5 := HP2.out.below hgr hgl (bw_alloc B5 (.cells #[.int .i64 q2n, .int .i64 q2d] 36))
              refine (HTL.out _ PV5).mono ?_
              rintro e w6 ⟨B6, m6, c6, rfl, hT6⟩
              have PV6 := PV5.then_ hgr hgl hT6.st.flag hT6.kg
              have R6 := blk_kept (blk_alloc R5 _) hT6.kg.k (by omega)
              have hz6 : wr.heap.size < w6.heap.size := by have := hT6.kg.b.size; simp at this; omega
              have hg6 : g < w6.heap.size := by omega
              have hp6 : p < w6.heap.size := by omega
              have hr6 : r < w6.heap.size := by omega
              have G6 := hT6.st.flag
              have HT6 := Lib.hid hT6
              have HPV6 := Lib.hid PV6
              have HR6 := Lib.hid R6
              have R6_c0 : w6.cell? ⟨wr.heap.size, 0, none⟩ = some (.slice By my cy) := blk_cell R6 0; have R6_f0 : w6.frozen? ⟨wr.heap.size, 0, none⟩ = false := blk_frozen R6 0; have R6_c1 : w6.cell? ⟨wr.heap.size, 1, none⟩ = some (.int .i64 ykn) := blk_cell R6 1; have R6_f1 : w6.frozen? ⟨wr.heap.size, 1, none⟩ = false := blk_frozen R6 1; have R6_c2 : w6.cell? ⟨wr.heap.size, 2, none⟩ = some (.int .i64 ykd) := blk_cell R6 2; have R6_f2 : w6.frozen? ⟨wr.heap.size, 2, none⟩ = false := blk_frozen R6 2; have R6_c3 : w6.cell? ⟨wr.heap.size, 3, none⟩ = some (.int .i64 yb) := blk_cell R6 3; have R6_f3 : w6.frozen? ⟨wr.heap.size, 3, none⟩ = false := blk_frozen R6 3
              clear hT6 PV6 PV5 R5
              by_cases e4 : le = 0
              · have hb4 : (false || le != 0) = false := by simp [e4]
                rw [hb4] at G6 HPV6
                have HB4 := Lib.hid e4
                obtain ⟨P7, hP7⟩ : ∃ P7, addTS ⟨yl, ⟨ykn, ykd⟩⟩ ⟨ll, ⟨ln, ld⟩⟩ = P7 := ⟨_, rfl⟩
                rw [hP7] at S2
                have HFY6 := Kd.F_kept (Kd.F_below HFY.out (bw_alloc B5 (.cells #[.int .i64 q2n, .int .i64 q2d] 36))) HT6.out.kg.k (fun k hk e => hk.1 e)
                have HAD := Lib.hid fun W (hb : Below w6.heap.size w6 W) => TAdd_calls ⟨yl, ⟨ykn, ykd⟩⟩ ⟨ll, ⟨ln, ld⟩⟩ By B6 cy c6 my m6 HMY.out HT6.out.len HYW.out HLL.out W (Kd.C_below (Kd.F_now HFY6) hb) (Kd.C_below (Kd.F_now HT6.out.f) hb)
                rw [hP7] at HAD
                obtain ⟨⟨al, an, ad⟩, ae⟩ := P7
                dsimp only at HAD S2
                obtain ⟨Bz, mz, cz, v6_0, v6_1, v6_2, -, -, -, -⟩ := HPV6.out.st.rows.row HY.out
                have f6_0 := HPV6.out.st.rows.froz (j * 4)
                have f6_1 := HPV6.out.st.rows.froz (j * 4 + 1)
                have f6_2 := HPV6.out.st.rows.froz (j * 4 + 2)
                have hgne' : ¬ r = g := hgne
                have HG6 := Lib.hid G6
                have G6_c0 : w6.cell? ⟨g, 0, none⟩ = some (.slice (some ⟨r, 0, none⟩) n cap) := blk_cell G6 0; have G6_f0 : w6.frozen? ⟨g, 0, none⟩ = false := blk_frozen G6 0; have G6_c1 : w6.cell? ⟨g, 1, none⟩ = some (.bool false) := blk_cell G6 1; have G6_f1 : w6.frozen? ⟨g, 1, none⟩ = false := blk_frozen G6 1
                clear hb4 e4 G6 R6 hP7 HFY6
                go_wp2_with fail
                clear R5_c0 R5_c1 R5_c2 R5_c3 R5_f0 R5_f1 R5_f2 R5_f3 G5_c0 G5_c1 G5_f0 G5_f1 P5_c0 P5_c1 P5_c2 P5_f0 P5_f1 P5_f2
                have L6 : (w6.alloc (.cells #[.slice B6 m6 c6, .int .i64 ln, .int .i64 ld] 39)).heap[w6.heap.size]? = some (.cells #[.slice B6 m6 c6, .int .i64 ln, .int .i64 ld] 39 (0, 0)) := blk_new _ _
                have HL6 := Lib.hid L6
                have HE0 := Lib.hid (cells7 (W := (w6.alloc (.cells #[.slice B6 m6 c6, .int .i64 ln, .int .i64 ld] 39)).drew) (blk_drew (blk_alloc HG6.out (.cells #[.slice B6 m6 c6, .int .i64 ln, .int .i64 ld] 39))) (blk_drew (blk_alloc HR6.out (.cells #[.slice B6 m6 c6, .int .i64 ln, .int .i64 ld] 39))) (blk_drew L6))
                clear L6
                have hn1 : ¬ r = wr.heap.size := by omega
                have hn2 : ¬ r = w6.heap.size := by omega
                go_region_held3 (fun w' : World => w'.cell? ⟨g, 0, none⟩ = some (.slice (some ⟨r, 0, none⟩) n cap) ∧ w'.cell? ⟨wr.heap.size, 0, none⟩ = some (.slice By my cy) ∧ w'.cell? ⟨wr.heap.size, 1, none⟩ = some (.int .i64 ykn) ∧ w'.cell? ⟨wr.heap.size, 2, none⟩ = some (.int .i64 ykd) ∧ w'.cell? ⟨w6.heap.size, 0, none⟩ = some (.slice B6 m6 c6) ∧ w'.cell? ⟨w6.heap.size, 1, none⟩ = some (.int .i64 ln) ∧ w'.cell? ⟨w6.heap.size, 2, none⟩ = some (.int .i64 ld))
                  (first | exact HE0.out | exact HE7.out | exact HE8.out | exact cells7_set HE8.out hgne hn1 hn2)
                  (first
                    | (go_at_call 98; refine (HAD.out _ (by repeat (first | exact Below.refl _ _ | assumption | exact Hid.out (by assumption) | (with_reducible first | refine bw_drewN ?_ _ | refine bw_alloc ?_ _ | refine bw_drew ?_) | (refine bw_set ?_ (by first | exact Nat.le_refl _ | (simp; done) | (simp; omega) | omega) _)))).mono ?_; rintro e w7 ⟨⟨B7, c7, m7, rfl, hm7, hc7, hF7⟩, hw7⟩; have HM7 := Lib.hid hm7; have HF7 := Lib.hid hF7; have B67 : Below w6.heap.size w6 w7 := bw_then (by repeat (first | exact Below.refl _ _ | assumption | exact Hid.out (by assumption) | (with_reducible first | refine bw_drewN ?_ _ | refine bw_alloc ?_ _ | refine bw_drew ?_) | (refine bw_set ?_ (by first | exact Nat.le_refl _ | (simp; done) | (simp; omega) | omega) _))) hw7; have hz7 : w6.heap.size ≤ w7.heap.size := B67.size; have hr7 : r < w7.heap.size := Nat.lt_of_lt_of_le hr6 hz7; have HG7 := Lib.hid (blk_below HG6.out B67); have HR7 := Lib.hid (blk_below HR6.out B67); have HL7 := Lib.hid (blk_below (blk_drew HL6.out) hw7); have HE7 := Lib.hid (cells7 HG7.out HR7.out HL7.out); have x7_0 := ((bcell B67).1 r (j * 4) hr6).trans v6_0; have y7_0 := ((bcell B67).2 r (j * 4) hr6).trans f6_0; have x7_1 := ((bcell B67).1 r (j * 4 + 1) hr6).trans v6_1; have y7_1 := ((bcell B67).2 r (j * 4 + 1) hr6).trans f6_1; have x7_2 := ((bcell B67).1 r (j * 4 + 2) hr6).trans v6_2; have y7_2 := ((bcell B67).2 r (j * 4 + 2) hr6).trans f6_2; clear hm7 hF7 hw7)
                    | (go_at_call 97; refine (keep_calls g (.slice (some ⟨r, 0, none⟩) n cap) rfl false B7 m7 c7 an ad ae w7 HG7.out).mono ?_; rintro e w8 ⟨rfl, hg8, hk8⟩; have HG8 := Lib.hid hg8; have HK8 := Lib.hid hk8; have hz8 : w7.heap.size ≤ w8.heap.size := hk8.b.size; have HE8 := Lib.hid (cells7 hg8 (blk_kept HR7.out hk8.k (by omega)) (blk_kept HL7.out hk8.k (by omega))); have x8_0 := ((kcell hk8).1 r (j * 4) hr7 hgne).trans x7_0; have y8_0 := ((kcell hk8).2 r (j * 4) hr7 hgne).trans y7_0; have x8_1 := ((kcell hk8).1 r (j * 4 + 1) hr7 hgne).trans x7_1; have y8_1 := ((kcell hk8).2 r (j * 4 + 1) hr7 hgne).trans y7_1; have x8_2 := ((kcell hk8).1 r (j * 4 + 2) hr7 hgne).trans x7_2; have y8_2 := ((kcell hk8).2 r (j * 4 + 2) hr7 hgne).trans y7_2; clear hg8 hk8))
                all_goals
                  go_wp2_with fail
                  go_roundw
                  case rel =>
                    refine ⟨j + 1, by omega, by go_num, Lib.hid ⟨w8.heap.size, ?_⟩⟩
                    rw [S2.out C0.out HB4.out]
                    exact ((HPV6.out.below hgr hgl B67).then_ hgr hgl HG8.out HK8.out).set3 HY.out hgr hrl (t := ⟨al, ⟨an, ad⟩⟩) HM7.out hc7 (Kd.F_kept HF7.out HK8.out.k (fun k hk e => by simp at hk; omega)) (by simp; omega)
                  case measure => simp [intOf] <;> omega
              · have hb4 : (false || le != 0) = true := by simp [e4]
                rw [hb4] at G6 HPV6
                have HB4 := Lib.hid e4
                have G6_c0 : w6.cell? ⟨g, 0, none⟩ = some (.slice (some ⟨r, 0, none⟩) n cap) := blk_cell G6 0; have G6_f0 : w6.frozen? ⟨g, 0, none⟩ = false := blk_frozen G6 0; have G6_c1 : w6.cell? ⟨g, 1, none⟩ = some (.bool true) := blk_cell G6 1; have G6_f1 : w6.frozen? ⟨g, 1, none⟩ = false := blk_frozen G6 1
                clear hb4 e4 G6 R6
                go_wp2_with fail
                go_roundw
                case rel =>
                  refine ⟨j + 1, by omega, by go_num, Lib.hid ⟨N2, ?_⟩⟩
                  rw [S1.out C0.out HB4.out]
                  first
                    | exact HPV6.out
                    | exact HPV6.out.below hgr hgl (by repeat (first | exact Below.refl _ _ | assumption | exact Hid.out (by assumption) | (with_reducible first | refine bw_drewN ?_ _ | refine bw_alloc ?_ _ | refine bw_drew ?_) | (refine bw_set ?_ (by first | exact Nat.le_refl _ | (simp; done) | (simp; omega) | omega) _)))
                    | exact HPV6.out.below hgr hgl (bw_alloc (Below.refl _ _) _)
                case measure => simp [intOf] <;> omega
            · have EJ : Hid True := Lib.hid trivial
              clear e2 e1
              go_wp2_with fail
              refine (HA.out _ (by repeat (first | exact Below.refl _ _ | assumption | exact Hid.out (by assumption) | (with_reducible first | refine bw_drewN ?_ _ | refine bw_alloc ?_ _ | refine bw_drew ?_) | (refine bw_set ?_ (by first | exact Nat.le_refl _ | (simp; done) | (simp; omega) | omega) _)))).mono ?_
              rintro e w5 ⟨rfl, hw5⟩
              have B5 : Below wr.heap.size wr w5 := bw_then (by repeat (first | exact Below.refl _ _ | assumption | exact Hid.out (by assumption) | (with_reducible first | refine bw_drewN ?_ _ | refine bw_alloc ?_ _ | refine bw_drew ?_) | (refine bw_set ?_ (by first | exact Nat.le_refl _ | (simp; done) | (simp; omega) | omega) _))) hw5
              have R5 : w5.heap[wr.heap.size]? = some (.cells #[.slice By my cy, .int .i64 ykn, .int .i64 ykd, .int .i64 yb] 85 (0, 0)) := blk_below (blk_new' (by simp)) hw5
              have G5 := blk_below hx0 B5
              have P5 := blk_below hx1 B5
              have hz5 : wr.heap.size < w5.heap.size := by have := hw5.size; simp at this; omega
              have hg5 : g < w5.heap.size := by omega
              have hp5 : p < w5.heap.size := by omega
              have hr5 : r < w5.heap.size := by omega
              have R5_c0 : w5.cell? ⟨wr.heap.size, 0, none⟩ = some (.slice By my cy) := blk_cell R5 0; have R5_f0 : w5.frozen? ⟨wr.heap.size, 0, none⟩ = false := blk_frozen R5 0; have R5_c1 : w5.cell? ⟨wr.heap.size, 1, none⟩ = some (.int .i64 ykn) := blk_cell R5 1; have R5_f1 : w5.frozen? ⟨wr.heap.size, 1, none⟩ = false := blk_frozen R5 1; have R5_c2 : w5.cell? ⟨wr.heap.size, 2, none⟩ = some (.int .i64 ykd) := blk_cell R5 2; have R5_f2 : w5.frozen? ⟨wr.heap.size, 2, none⟩ = false := blk_frozen R5 2; have R5_c3 : w5.cell? ⟨wr.heap.size, 3, none⟩ = some (.int .i64 yb) := blk_cell R5 3; have R5_f3 : w5.frozen? ⟨wr.heap.size, 3, none⟩ = false := blk_frozen R5 3
              have G5_c0 : w5.cell? ⟨g, 0, none⟩ = some (.slice (some ⟨r, 0, none⟩) n cap) := blk_cell G5 0; have G5_f0 : w5.frozen? ⟨g, 0, none⟩ = false := blk_frozen G5 0; have G5_c1 : w5.cell? ⟨g, 1, none⟩ = some (.bool true) := blk_cell G5 1; have G5_f1 : w5.frozen? ⟨g, 1, none⟩ = false := blk_frozen G5 1
              have P5_c0 : w5.cell? ⟨p, 0, none⟩ = some (.slice B4 m4 c4) := blk_cell P5 0; have P5_f0 : w5.frozen? ⟨p, 0, none⟩ = false := blk_frozen P5 0; have P5_c1 : w5.cell? ⟨p, 1, none⟩ = some (.int .i64 pn) := blk_cell P5 1; have P5_f1 : w5.frozen? ⟨p, 1, none⟩ = false := blk_frozen P5 1; have P5_c2 : w5.cell? ⟨p, 2, none⟩ = some (.int .i64 pd) := blk_cell P5 2; have P5_f2 : w5.frozen? ⟨p, 2, none⟩ = false := blk_frozen P5 2
              clear hw5 R5 G5 P5
              go_wp2_with fail
              go_roundw
              case rel =>
                refine ⟨j + 1, by omega, by go_num, Lib.hid ⟨N2, ?_⟩⟩
                rw [S0.out true (by simp [EJ.out]), HOJ.out]
                first
                  | exact HP2.out.below hgr hgl (by repeat (first | exact Below.refl _ _ | assumption | exact Hid.out (by assumption) | (with_reducible first | refine bw_drewN ?_ _ | refine bw_alloc ?_ _ | refine bw_drew ?_) | (refine bw_set ?_ (by first | exact Nat.le_refl _ | (simp; done) | (simp; omega) | omega) _)))
                  | exact HP2.out.below hgr hgl (bw_alloc (bw_alloc B5 _) _)
              case measure => simp [intOf] <;> omega
      · obtain rfl : j = n := by omega
        go_wp2_with fail
        refine ⟨rfl, _, results_none rfl _ _ _, rfl, ?_⟩
        obtain ⟨N2, hP2⟩ := hP.out
        rw [HE.out]
        exact ⟨N2, hP2.st⟩
end Go.Proofs.Ytffpdaejemmgpaa.W
