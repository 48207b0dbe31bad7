/- cordwoodlaw22.KeepAge answers true for every input. Conditions: none. -/
import Derived.Test.YtnbggdpbgibpoaaDoorKeepBoth
namespace Go.Proofs.YtnbggdpbgibpoaaDoor.Kp
open Go.RowKit

theorem info3 : (Tryd.prog.info? 3).map (fun i => (i.zero, i.size, i.bytes)) = some (some (.int .i64 0), 1, 8) := by kernel_rfl

theorem age_plain (m : Nat) (a now : Int) (zs : List Int) (hm : 1 ≤ m) (h0 : 0 ≤ a) :
    ∃ st : Nat, startP (-1) a now 0 (rowTo m 10 zs m) = 10 * (st : Int) ∧ st ≤ m - 1 ∧ (∀ j : Nat, j < st → (10 * (j : Int) + a < now)) ∧ (st < m - 1 → ¬ (10 * (st : Int) + a < now)) := by
  have hP : ∀ k, k < m → (goes (-1) a now (rowTo m 10 zs m) k = true ↔ 10 * (k : Int) + a < now) := by
    intro k hk
    have : muchB (-1) ((rowTo m 10 zs m).drop k) = false := rfl
    simp only [goes, this, Bool.false_or, rowTo_get _ _ _ _ _ hk]
    rw [oldB_iff]
    simp only [rowSeg]
    omega
  obtain ⟨h1, h2, h3, h4⟩ := stop_spec (goes (-1) a now (rowTo m 10 zs m)) (m - 1) 0
  refine ⟨stopAt (goes (-1) a now (rowTo m 10 zs m)) (m - 1) 0, by rw [rowTo_start m 10 (-1) a now 0 zs hm (by omega)]; omega, by omega, fun j hj => (hP j (by omega)).1 (h3 j (by omega) hj), fun hlt h => ?_⟩
  have := h4 (by omega)
  rw [(hP _ (by omega)).2 h] at this; cases this

set_option maxHeartbeats 1000000 in
theorem age_all (n0 a0 o0 : Int) (w : World) :
    Calls Tryd.prog 4 #[.int .i64 n0, .int .i64 a0, .int .i64 o0] w fun e w' => e = .returned (.bool true) ∧ Below w.heap.size w w' := by
  have t0 := Int.emod_nonneg n0 (b := 30) (by omega)
  have t1 := Int.emod_lt_of_pos n0 (b := 30) (by omega)
  have g0 := Int.emod_nonneg a0 (b := 200) (by omega)
  have g1 := Int.emod_lt_of_pos a0 (b := 200) (by omega)
  have q0 := Int.emod_nonneg o0 (b := 800) (by omega)
  have q1 := Int.emod_lt_of_pos o0 (b := 800) (by omega)
  obtain ⟨i0, hi, hz0, hz1, hz2⟩ := info_parts info3
  go_enter Tryd.func4, Tryd.ntmps4
  go_wp2_with fail
  refine (first_yes _).mono ?_
  rintro e w1 ⟨rfl, hb1⟩
  have hw1 := hb1.size
  go_wp2_with (first
    | (go_at_call 10; refine (long_any _ _ _ (by omega) (by omega)).mono ?_; rintro e w' ⟨rfl, rfl⟩)
    | (go_at_call 13; refine (number_any _ _ _ (by omega) (by omega)).mono ?_; rintro e w' ⟨rfl, rfl⟩))
  obtain ⟨m, hm⟩ : ∃ m : Nat, n0 % 30 + 1 = m := ⟨(n0 % 30 + 1).toNat, by omega⟩
  have hm1 : 1 ≤ m := by omega
  have hm2 : m ≤ 30 := by omega
  rw [hm]
  generalize a0 % 200 = a at *
  generalize o0 % 800 = o at *
  clear t0 t1 hm
  obtain ⟨w2, hrun, hown, hgrow⟩ := run_make_full (P := Tryd.prog) w1 w1.heap.size 22 3 i0 (.int .i64 0) 1 Tryd.underlying22 hi hz0 hz1 .i64 .i64 m (by rw [hz2]; omega) (by unfold maxLen; omega) (Nat.le_refl _)
  rw [hrun]
  have hb2 : Below w1.heap.size w1 w2 := (Below.refl _ _).grown hgrow (Nat.le_refl _) (fun k hk => by cases hk)
  have hw2 : w1.heap.size < w2.heap.size := (World.ownsRow.lt hown w1.heap.size rfl).2
  have hc : ∀ i, i < m → w2.cell? ⟨w1.heap.size, 0 + i, none⟩ = some (.int .i64 (([] : List Int).getD i 0)) := by
    intro i hi
    have := hown.cells (g := w1.heap.size) rfl i (.int .i64 0) (by simp [madeCells, hi, Value.cells, Nat.mod_one])
    by_cases e : i = 0
    · subst e; simpa [Addr.add] using this
    · simpa [Addr.add, e] using this
  clear hown hgrow
  go_wp2_with fail
  refine (row_any w1.heap.size 0 m m [] 10 _ (by omega) hw2 (by omega) (by omega) hc).mono ?_
  rintro e w3 ⟨⟨v, rfl, hown⟩, hb3⟩
  obtain ⟨p, c, rfl, hpc, _, hp1, hp2, hat, _⟩ := owned_slice hown hm1 (rowTo_len _ _ _ _)
  have hlen := rowTo_len m 10 [] m
  have hf := rowTo_fair m 10 [] (by omega) (by omega) (by omega)
  obtain ⟨st, hst, hst1, hst2, hst3⟩ := age_plain m a o [] hm1 g0
  have HF := Lib.hid hf
  have HST := Lib.hid hst
  have H2 := Lib.hid hst2
  have H3 := Lib.hid hst3
  clear hown hc hf hst hst2 hst3
  generalize rowTo m 10 [] m = L at *
  subst hlen
  have hw3 := hb3.size
  go_wp2_with fail
  refine (start_yes (-1) (-1) a o 0 p 0 c L _ (by omega) hpc (by omega) hat HF.out (by omega) (by omega) (by omega) (by omega) (by omega) (by omega) (by omega) (by omega) (by omega) (by omega)).mono ?_
  rw [HST.out]
  rintro e w4 ⟨rfl, hb4⟩
  have HB := Lib.hid (((hb1.trans (hb2.mono hw1)).trans (hb3.mono (by omega))).trans (hb4.mono (by omega)))
  clear hb1 hb2 hb3 hb4
  go_wp2_with fail
  go_loopg [11] st (fun r i wr => ∃ k : Nat, k + r = st ∧ i = .int .i64 k ∧ wr = w4)
  case atStart => exact ⟨0, by omega, rfl, rfl⟩
  case round =>
    obtain ⟨k, hk, rfl, rfl⟩ := hrel
    by_cases hlt : k < st
    · have e1 : decide ((k : Int) < (L.length : Int) - 1) = true := by simp; omega
      have e2 : decide (10 * (k : Int) + a < o) = true := by simpa using H2.out k hlt
      obtain ⟨gk, rfl⟩ : ∃ x, gk = x + 1 := ⟨gk - 1, by omega⟩
      go_wp2_with fail
      go_roundg gk
      case measure => omega
      case rel => exact ⟨k + 1, by omega, by go_num, rfl⟩
    · obtain rfl : k = st := by omega
      have e4 : (10 * (k : Int) == 10 * (k : Int)) = true := by simp
      by_cases hl : k = L.length - 1
      · have e1 : decide ((k : Int) < (L.length : Int) - 1) = false := by simp; omega
        go_wp2_with (go_at_call 14; refine (right_yes _ _ (by omega) (by omega)).mono ?_; rintro e w' ⟨rfl, rfl⟩)
        go_ret
        exact ⟨by first | rfl | simp, HB.out⟩
      · have e1 : decide ((k : Int) < (L.length : Int) - 1) = true := by simp; omega
        have e2 : decide (10 * (k : Int) + a < o) = false := by simpa using H3.out (by omega)
        go_wp2_with (go_at_call 14; refine (right_yes _ _ (by omega) (by omega)).mono ?_; rintro e w' ⟨rfl, rfl⟩)
        go_ret
        exact ⟨by first | rfl | simp, HB.out⟩

end Go.Proofs.YtnbggdpbgibpoaaDoor.Kp
