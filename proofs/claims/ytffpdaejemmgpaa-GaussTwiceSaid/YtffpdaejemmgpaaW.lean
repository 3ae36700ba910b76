/- This file holds the walk of gauss.solve. -/
import Derived.Test.YtffpdaejemmgpaaU
import Derived.Test.Ytffpdaejemmgpaap5
namespace Go.Proofs.Ytffpdaejemmgpaa.W
open Go.RowKit Go.Proofs.YtffpdaejemmgpaaW.PrintWords Go.Proofs.YtffpdaejemmgpaaW.PrintMore
set_option linter.unusedVariables false
set_option linter.unusedSimpArgs false
/-- A system's state: the flag, the rows, what else is unchanged. -/
structure SV (g : Nat) (A : Option Addr) (n cap : Nat) (w W : World) (s : List GR × Bool) : Prop where mk ::
  flag : W.heap[g]? = some (.cells #[.slice A n cap, .bool s.2] 82 (0, 0))
  rows : RowsOf W g A n cap s.1
  kg : KG g (fun k => k = g ∨ ∃ a, A = some a ∧ k = a.block) w W
theorem SV.below {g n cap : Nat} {A : Option Addr} {w W W1 : World} {s : List GR × Bool} (h : SV g A n cap w W s) (hb : Below W.heap.size W W1) : SV g A n cap w W1 s :=
  ⟨blk_below h.flag hb, h.rows.below hb, h.kg.below (blk_lt h.flag) hb⟩
theorem RowsOf.at_ {W : World} {g r n cap : Nat} {rows : List GR} (h : RowsOf W g (some ⟨r, 0, none⟩) n cap rows) (hn : 0 < n) : g < r ∧ RowsAt W g r W.heap.size rows := by
  obtain ⟨h1, h2, h3⟩ := h
  obtain ⟨r', CS, e, hg, hb, hx⟩ := h3 hn
  injection e with e
  injection e with e
  subst e
  exact ⟨hg, CS, hb, hx⟩
theorem St.sv {g r n cap N : Nat} {w W W1 : World} {s s1 : List GR × Bool} (hne : g < r) (hn : s1.1.length = n) (hc : n ≤ cap) (h0 : SV g (some ⟨r, 0, none⟩) n cap w W s) (h : St g r N (.slice (some ⟨r, 0, none⟩) n cap) W W1 s1) : SV g (some ⟨r, 0, none⟩) n cap w W1 s1 := by
  refine ⟨h.flag, ⟨hn, hc, fun _ => ?_⟩, h0.kg.then_ (h.kg.mono fun k hk => ?_)⟩
  · obtain ⟨CS, hb, hx⟩ := h.rows
    refine ⟨r, CS, rfl, hne, hb, fun k x hh => ?_⟩
    obtain ⟨B, m, c, h1, h2, h3, h4⟩ := hx k x hh
    exact ⟨B, m, c, h1, h2, h3, Kd.F_mono (Kd.F_bound h4) fun k hk => ⟨hk.1.1, hk.1.2.1, hk.2⟩⟩
  · rcases hk with hk | hk
    · exact .inl hk
    · exact .inr ⟨_, rfl, hk⟩
theorem takeS_len {at_ : Nat} {v : Int} {x : GR} {rows : List GR} : (takeS at_ v x rows).1.length = rows.length := by
  have h : ∀ (pv : T) (s : List GR × Bool) (m : Nat), (loopS at_ v pv s m).1.length = s.1.length := by
    intro pv s m
    induction m with
    | zero => rfl
    | succ m ih => rw [loopS, stepS_len, ih]
  unfold takeS
  rw [h]; simp
theorem start_inv {rows : List GR} (h : ∀ y ∈ rows, Good y.t ∧ y.b = -1) : Inv (fun x => ∀ y ∈ rows, ev y.t x = 0) 0 rows :=
  ⟨fun y hy => (h y hy).1, fun y hy => .inl (h y hy).2, fun j y u hj hu => by have := (h y (List.mem_of_getElem? hj)).2; omega, fun y hy _ u hu => by omega, fun y hy p u hb => by have := (h y hy).2; omega, fun x => Iff.rfl⟩
set_option maxRecDepth 8000 in
set_option maxHeartbeats 4000000 in
theorem gsolve_calls (g n cap : Nat) (A : Option Addr) (rows : List GR) (hgood : ∀ y ∈ rows, Good y.t ∧ y.b = -1) (hmx : n ≤ 1000) (w : World)
    (hg : w.heap[g]? = some (.cells #[.slice A n cap, .bool false] 82 (0, 0))) (hr : RowsOf w g A n cap rows) :
    Calls Try.prog 37 #[.pointer (some ⟨g, 0, none⟩)] w fun e w' => e = .returned (.tuple #[]) ∧ SV g A n cap w w' (solveN (rows, false) 8) := by
  have HI := Lib.hid fun v => solveN_inv (start_inv hgood) (o := false) v
  have HG := Lib.hid hgood
  obtain ⟨L, hL⟩ : ∃ L, L = solveN (rows, false) := ⟨_, rfl⟩
  rw [← hL] at HI ⊢
  have HS : Hid (∀ v, L (v + 1) = roundS v (L v)) := Lib.hid fun v => by rw [hL]; rfl
  have H0 : Hid (SV g A n cap w w (L 0)) := Lib.hid (by rw [hL]; exact ⟨hg, hr, KG.refl _ _ _⟩)
  clear hL hg hr hgood
  go_enter Try.func37, Try.ntmps37
  go_wp2_with fail
  go_loopw [4] (fun i wr => ∃ v : Nat, v ≤ 8 ∧ i = .int .i64 v ∧ Hid (SV g A n cap w wr (L v))) (fun i _ => 8 - (intOf i).toNat)
  case atStart => exact ⟨0, by omega, rfl, H0⟩
  case round =>
    obtain ⟨v, hv, rfl, hV⟩ := hrel
    by_cases hlt : v < 8
    · have hf := hV.out.flag
      have hgl := blk_lt hf
      have hlen := hV.out.rows.1
      have hcp := hV.out.rows.2.1
      have HIX := Lib.hid fun W hb b hbl => IndexRow_calls v b g A n cap (L v).1 (by omega) W (hV.out.rows.below hb) hbl
      have S0 : Hid ((L v).1.findIdx? (selB v) = none → L (v + 1) = L v) := Lib.hid fun h => by rw [HS.out v, roundS, h]
      have S1 : Hid (∀ k x, (L v).1.findIdx? (selB v) = some k → (L v).1[k]? = some x → L (v + 1) = if (L v).2 = true then L v else takeS k v x (L v).1) := Lib.hid fun k x h h2 => by rw [HS.out v, roundS, h]; dsimp only; rw [h2]
      have HF := Lib.hid hf
      obtain ⟨o, ho⟩ : ∃ o, (L v).2 = o := ⟨_, rfl⟩
      rw [ho] at hf
      have HO := Lib.hid ho
      have HL := Lib.hid hlen
      clear ho hlen
      have hf_c0 : wr.cell? ⟨g, 0, none⟩ = some (.slice A n cap) := blk_cell hf 0; have hf_f0 : wr.frozen? ⟨g, 0, none⟩ = false := blk_frozen hf 0; have hf_c1 : wr.cell? ⟨g, 1, none⟩ = some (.bool o) := blk_cell hf 1; have hf_f1 : wr.frozen? ⟨g, 1, none⟩ = false := blk_frozen hf 1
      have HF2 := Lib.hid hf
      clear hf
      cases hx : (L v).1.findIdx? (selB v) with
      | none =>
        have hi : idxOf (selB v) (L v).1 = -1 := by unfold idxOf; rw [hx]
        rw [hi] at HIX
        have SS := Lib.hid (S0.out hx)
        clear hi hx
        go_wp2_with fail
        refine (HIX.out _ (by repeat (first | exact Below.refl _ _ | assumption | exact Hid.out (by assumption) | (with_reducible first | refine bw_drewN ?_ _ | refine bw_alloc ?_ _ | refine bw_drew ?_) | (refine bw_set ?_ (by first | exact Nat.le_refl _ | (simp; done) | (simp; omega) | omega) _))) wr.heap.size (blk_new' (by simp))).mono ?_
        rintro e w1 ⟨rfl, hw1⟩
        have B1 : Below wr.heap.size wr w1 := bw_then (by repeat (first | exact Below.refl _ _ | assumption | exact Hid.out (by assumption) | (with_reducible first | refine bw_drewN ?_ _ | refine bw_alloc ?_ _ | refine bw_drew ?_) | (refine bw_set ?_ (by first | exact Nat.le_refl _ | (simp; done) | (simp; omega) | omega) _))) hw1
        go_wp2_with fail
        go_roundw
        case rel => exact ⟨v + 1, by omega, by go_num, Lib.hid (by rw [SS.out]; exact hV.out.below B1)⟩
        case measure => simp [intOf]; omega
      | some k =>
        have hi : idxOf (selB v) (L v).1 = k := by unfold idxOf; rw [hx]
        rw [hi] at HIX
        rw [List.findIdx?_eq_some_iff_getElem] at hx
        have hx' := hx
        obtain ⟨hk, hsel, _⟩ := hx'
        rw [← List.findIdx?_eq_some_iff_getElem] at hx
        have hxk : (L v).1[k]? = some (L v).1[k] := List.getElem?_eq_getElem hk
        have hs := S1.out k _ hx hxk
        have hkn : k < n := by rw [← HL.out]; exact hk
        rw [HO.out] at hs
        have SS := Lib.hid hs
        have HXK := Lib.hid hxk
        have HSEL := Lib.hid hsel
        clear hi hx hs hxk hsel
        cases o with
        | true =>
          go_wp2_with fail
          refine (HIX.out _ (by repeat (first | exact Below.refl _ _ | assumption | exact Hid.out (by assumption) | (with_reducible first | refine bw_drewN ?_ _ | refine bw_alloc ?_ _ | refine bw_drew ?_) | (refine bw_set ?_ (by first | exact Nat.le_refl _ | (simp; done) | (simp; omega) | omega) _))) wr.heap.size (blk_new' (by simp))).mono ?_
          rintro e w1 ⟨rfl, hw1⟩
          have B1 : Below wr.heap.size wr w1 := bw_then (by repeat (first | exact Below.refl _ _ | assumption | exact Hid.out (by assumption) | (with_reducible first | refine bw_drewN ?_ _ | refine bw_alloc ?_ _ | refine bw_drew ?_) | (refine bw_set ?_ (by first | exact Nat.le_refl _ | (simp; done) | (simp; omega) | omega) _))) hw1
          have G1 := blk_below HF2.out B1
          have G1_c0 : w1.cell? ⟨g, 0, none⟩ = some (.slice A n cap) := blk_cell G1 0; have G1_f0 : w1.frozen? ⟨g, 0, none⟩ = false := blk_frozen G1 0; have G1_c1 : w1.cell? ⟨g, 1, none⟩ = some (.bool true) := blk_cell G1 1; have G1_f1 : w1.frozen? ⟨g, 1, none⟩ = false := blk_frozen G1 1
          clear G1
          go_wp2_with fail
          go_roundw
          case rel => exact ⟨v + 1, by omega, by go_num, Lib.hid (by rw [SS.out, if_pos trivial]; exact hV.out.below B1)⟩
          case measure => simp [intOf]; omega
        | false =>
          obtain ⟨r, CS, rfl, hgr, hrb, _⟩ := hV.out.rows.2.2 (by omega)
          have hgood := (HI.out v HO.out).good
          have HTK := Lib.hid fun W (hb : Below wr.heap.size wr W) => take_calls g r n cap (L v).1 k v (L v).1[k] HXK.out (fun y hy => (hgood y hy).w) (atT_rt (hgood _ (List.getElem_mem hk)).r v) (by have := HSEL.out; simp only [selB, Bool.and_eq_true, bne_iff_ne] at this; exact this.2) HL.out (by omega) hcp hgr W (blk_below HF2.out hb) ((hV.out.rows.below hb).at_ (by omega)).2
          clear hrb hgood
          go_wp2_with fail
          refine (HIX.out _ (by repeat (first | exact Below.refl _ _ | assumption | exact Hid.out (by assumption) | (with_reducible first | refine bw_drewN ?_ _ | refine bw_alloc ?_ _ | refine bw_drew ?_) | (refine bw_set ?_ (by first | exact Nat.le_refl _ | (simp; done) | (simp; omega) | omega) _))) wr.heap.size (blk_new' (by simp))).mono ?_
          rintro e w1 ⟨rfl, hw1⟩
          have B1 : Below wr.heap.size wr w1 := bw_then (by repeat (first | exact Below.refl _ _ | assumption | exact Hid.out (by assumption) | (with_reducible first | refine bw_drewN ?_ _ | refine bw_alloc ?_ _ | refine bw_drew ?_) | (refine bw_set ?_ (by first | exact Nat.le_refl _ | (simp; done) | (simp; omega) | omega) _))) hw1
          have G1 := blk_below HF2.out B1
          have G1_c0 : w1.cell? ⟨g, 0, none⟩ = some (.slice (some ⟨r, 0, none⟩) n cap) := blk_cell G1 0; have G1_f0 : w1.frozen? ⟨g, 0, none⟩ = false := blk_frozen G1 0; have G1_c1 : w1.cell? ⟨g, 1, none⟩ = some (.bool false) := blk_cell G1 1; have G1_f1 : w1.frozen? ⟨g, 1, none⟩ = false := blk_frozen G1 1
          have V1 : w1.heap[wr.heap.size]? = some (.cells #[.int .i64 v] 3 (0, 0)) := blk_below (blk_new' (by simp)) hw1
          have V1_c0 : w1.cell? ⟨wr.heap.size, 0, none⟩ = some (.int .i64 v) := blk_cell V1 0; have V1_f0 : w1.frozen? ⟨wr.heap.size, 0, none⟩ = false := blk_frozen V1 0
          clear G1 V1
          go_wp2_with fail
          refine (HTK.out _ B1).mono ?_
          rintro e w2 ⟨rfl, N, hT⟩
          have HT := Lib.hid hT
          clear hT
          go_wp2_with fail
          go_roundw
          case rel => exact ⟨v + 1, by omega, by go_num, Lib.hid (by rw [SS.out, if_neg (by simp)]; exact HT.out.sv hgr (by rw [takeS_len]; exact HL.out) hcp (hV.out.below B1))⟩
          case measure => simp [intOf]; omega
    · obtain rfl : v = 8 := by omega
      go_wp2_with fail
      exact ⟨rfl, _, results_none rfl _ _ _, rfl, hV.out⟩
end Go.Proofs.Ytffpdaejemmgpaa.W
