/- cordwoodlaw22.KeepTotal answers true for every input. Conditions: none. -/
import Derived.Test.YtnbggdpbgibpoaaDoorKeepBoth
namespace Go.Proofs.YtnbggdpbgibpoaaDoor.Kp
open Go.RowKit

theorem goes_eq (tot age now : Int) (L : List Sg) (k : Nat) : goes tot age now L k = (muchB tot (L.drop k) || oldAt age now L k) := rfl
theorem oldAt_no (now : Int) (L : List Sg) (k : Nat) : oldAt (-1) now L k = false := by unfold oldAt; split <;> rfl

theorem total_plain (n : Nat) (t : Int) (zs : List Int) (hn : 1 ≤ n) (h0 : 0 ≤ t) :
    ∃ st : Nat, (∀ s, 0 ≤ s → startP t (-1) 0 s (rowTo n 1 zs n) = max s (10 * (st : Int))) ∧ st ≤ n - 1 ∧ (0 < st → t < sumZ ((rowTo n 1 zs n).drop (st - 1))) ∧ (st < n - 1 → sumZ ((rowTo n 1 zs n).drop st) ≤ t) := by
  have hP : ∀ k, (goes t (-1) 0 (rowTo n 1 zs n) k = true ↔ t < sumZ ((rowTo n 1 zs n).drop k)) := by
    intro k
    rw [goes_eq, oldAt_no, Bool.or_false]
    simp only [muchB, Bool.and_eq_true, bne_iff_ne, ne_eq, decide_eq_true_eq]
    omega
  obtain ⟨h1, h2, h3, h4⟩ := stop_spec (goes t (-1) 0 (rowTo n 1 zs n)) (n - 1) 0
  refine ⟨stopAt (goes t (-1) 0 (rowTo n 1 zs n)) (n - 1) 0, fun s hs => rowTo_start n 1 t (-1) 0 s zs hn hs, by omega, fun h => (hP _).1 (h3 _ (by omega) (by omega)), fun hlt => ?_⟩
  have := h4 (by omega)
  rcases Int.lt_or_le t (sumZ ((rowTo n 1 zs n).drop (stopAt (goes t (-1) 0 (rowTo n 1 zs n)) (n - 1) 0))) with h | h
  · rw [(hP _).2 h] at this; cases this
  · exact h

theorem none_plain (n : Nat) (zs : List Int) (now s : Int) (hn : 1 ≤ n) (hs : 0 ≤ s) : startP (-1) (-1) now s (rowTo n 1 zs n) = s := by
  rw [rowTo_start n 1 (-1) (-1) now s zs hn hs]
  have : goes (-1) (-1) now (rowTo n 1 zs n) = fun _ => false := by
    funext k
    rw [goes_eq, oldAt_no]; rfl
  rw [this]
  have : stopAt (fun _ => false) (n - 1) 0 = 0 := by
    cases n - 1 with
    | zero => rfl
    | succ d => simp [stopAt]
  rw [this]; omega

set_option maxHeartbeats 400000 in
theorem total_out (a : Option Addr) (n cap : Nat) (t0 s0 : Int) (w : World) (hn : n = 0 ∨ 30 < n) (hm : n ≤ 9223372036854775807) :
    Calls Tryd.prog 3 #[.slice a n cap, .int .i64 t0, .int .i64 s0] w fun e w' => e = .returned (.bool true) ∧ Below w.heap.size w w' := by
  rcases hn with rfl | hn
  · go_enter Tryd.func3, Tryd.ntmps3
    go_wp2_with fail
    refine (first_yes _).mono ?_
    rintro e w1 ⟨rfl, hb1⟩
    go_wp2_with fail
    go_ret
    exact ⟨rfl, hb1⟩
  · have e1 : decide ((30 : Int) < (n : Int)) = true := by simp; omega
    go_enter Tryd.func3, Tryd.ntmps3
    go_wp2_with fail
    refine (first_yes _).mono ?_
    rintro e w1 ⟨rfl, hb1⟩
    go_wp2_with fail
    go_ret
    exact ⟨rfl, hb1⟩

set_option maxHeartbeats 2000000 in
theorem total_in (b off n cap : Nat) (zs : List Int) (t0 s0 : Int) (w : World) (hn : 1 ≤ n) (hn2 : n ≤ 30) (hb : b < w.heap.size) (hz : ∀ i, i < n → w.cell? ⟨b, off + i, none⟩ = some (.int .i64 (zs.getD i 0))) :
    Calls Tryd.prog 3 #[.slice (some ⟨b, off, none⟩) n cap, .int .i64 t0, .int .i64 s0] w fun e w' => e = .returned (.bool true) ∧ Below w.heap.size w w' := by
  have e1 : decide ((30 : Int) < (n : Int)) = false := by simp; omega
  have e2 : ((n : Int) == 0) = false := by simp; omega
  have q0 := Int.emod_nonneg t0 (b := 2000) (by omega)
  have q1 := Int.emod_lt_of_pos t0 (b := 2000) (by omega)
  have q2 := Int.emod_nonneg s0 (b := 500) (by omega)
  have q3 := Int.emod_lt_of_pos s0 (b := 500) (by omega)
  go_enter Tryd.func3, Tryd.ntmps3
  go_wp2_with fail
  refine (first_yes _).mono ?_
  rintro e w1 ⟨rfl, hb1⟩
  have hw1 := hb1.size
  go_wp2_with (go_at_call 10; refine (long_any _ _ _ (by omega) (by omega)).mono ?_; rintro e w' ⟨rfl, rfl⟩)
  refine (row_any b off n cap zs 1 _ (by omega) (by omega) (by omega) (by omega) (fun i hi => (hb1.cell hb).trans (hz i hi))).mono ?_
  rintro e w2 ⟨⟨v, rfl, hown⟩, hb2⟩
  obtain ⟨p, c, rfl, hpc, _, hp1, hp2, hat, _⟩ := owned_slice hown hn (rowTo_len _ _ _ _)
  have hlen := rowTo_len n 1 zs n
  have hf := rowTo_fair n 1 zs (by omega) (by omega) (by omega)
  obtain ⟨st, hst, hst1, hst2, hst3⟩ := total_plain n (t0 % 2000) zs hn q0
  have hno : ∀ now s, 0 ≤ s → startP (-1) (-1) now s (rowTo n 1 zs n) = s := fun now s hs => none_plain n zs now s hn hs
  have HF := Lib.hid hf
  have HST := Lib.hid hst
  have H2 := Lib.hid hst2
  have H3 := Lib.hid hst3
  have HN := Lib.hid hno
  clear hown hz hf hst hst2 hst3 hno e1 e2
  generalize rowTo n 1 zs n = L at *
  generalize t0 % 2000 = t at *
  subst hlen
  have hw2 := hb2.size
  go_wp2_with fail
  refine (start_yes (-1) t (-1) 0 0 p 0 c L _ (by omega) hpc hp2 hat HF.out (by omega) (by omega) (by omega) (by omega) (by omega) (by omega) (by omega) (by omega) (by omega) (by omega)).mono ?_
  rw [HST.out 0 (by omega), Int.max_eq_right (by omega)]
  rintro e w3 ⟨rfl, hb3⟩
  have hw3 := hb3.size
  have hat3 := hat.below hb3 hp2
  have HB := Lib.hid ((hb1.trans (hb2.mono hw1)).trans (hb3.mono (by omega)))
  have HAT := Lib.hid hat3
  have hp3 : p < w3.heap.size := by omega
  have hww : w.heap.size ≤ w3.heap.size := by omega
  clear hb1 hb2 hb3 hat hat3
  go_wp2_with fail
  go_loopg [11, 12] (L.length - st) (fun r s i wr => ∃ k : Nat, st + r = k ∧ k ≤ L.length ∧ i = .int .i64 ((k : Int) - 1) ∧ s = .int .i64 (sumZ (L.drop k)) ∧ wr = w3)
  case atStart => exact ⟨L.length, by omega, by omega, by go_num, by simp [sumZ], rfl⟩
  case round =>
    obtain ⟨k, hk, hk2, rfl, rfl, rfl⟩ := hrel
    have hzs := HF.out.zs
    by_cases hlt : st < k
    · obtain ⟨k, rfl⟩ : ∃ j, k = j + 1 := ⟨k - 1, by omega⟩
      rw [show (((k + 1 : Nat) : Int) - 1) = (k : Int) from by omega]
      obtain ⟨x, hx⟩ : ∃ x, L[k]? = some x := ⟨_, List.getElem?_eq_getElem (by omega)⟩
      have c2 := (HAT.out k x hx).2.2.1
      simp only [Nat.zero_add] at c2
      have hdr : L.drop k = x :: L.drop (k + 1) := by rw [List.drop_eq_getElem_cons (by omega)]; congr 1; exact Option.some.inj ((List.getElem?_eq_getElem (by omega)).symm.trans hx)
      have hs : sumZ (L.drop k) = sumZ (L.drop (k + 1)) + x.z := by rw [hdr, sumZ]; omega
      obtain ⟨z0, z1⟩ := hzs x (List.mem_of_getElem? hx)
      obtain ⟨y0, y1⟩ := sumZ_bd (L.drop (k + 1)) 1000 (by simp; omega) (fun y hy => hzs y (List.mem_of_mem_drop hy))
      have HS := Lib.hid hs
      clear hs hdr hx hzs
      have e5 : decide ((st : Int) ≤ (k : Int)) = true := by simp; omega
      have e6 : decide (st ≤ k) = true := by simp; omega
      obtain ⟨gk, rfl⟩ : ∃ m, gk = m + 1 := ⟨gk - 1, by omega⟩
      go_wp2_with fail
      go_roundg gk
      case measure => omega
      case rel => exact ⟨k, by omega, by omega, by go_num, by rw [HS.out], rfl⟩
    · obtain rfl : k = st := by omega
      obtain ⟨y0, y1⟩ := sumZ_bd (L.drop k) 1000 (by simp; omega) (fun y hy => hzs y (List.mem_of_mem_drop hy))
      have e5 : decide ((k : Int) ≤ (k : Int) - 1) = false := by simp; omega
      have hA : t < sumZ (L.drop k) → k = L.length - 1 := fun h => by
        by_cases e : k < L.length - 1
        · have := H3.out e; omega
        · omega
      have hZ : 0 < k → ∃ x, (∃ y, L[k - 1]? = some y ∧ y.z = x) ∧ 0 ≤ x ∧ x ≤ 1099511627776 ∧ t < sumZ (L.drop k) + x := by
        intro h
        obtain ⟨x, hx⟩ : ∃ x, L[k - 1]? = some x := ⟨_, List.getElem?_eq_getElem (by omega)⟩
        have hdr : L.drop (k - 1) = x :: L.drop k := by
          rw [List.drop_eq_getElem_cons (by omega), show k - 1 + 1 = k from by omega]; congr 1; exact Option.some.inj ((List.getElem?_eq_getElem (by omega)).symm.trans hx)
        have := H2.out h
        rw [hdr, sumZ] at this
        obtain ⟨z0, z1⟩ := hzs x (List.mem_of_getElem? hx)
        exact ⟨x.z, ⟨x, hx, rfl⟩, z0, z1, by omega⟩
      have HA := Lib.hid hA
      have HZ := Lib.hid hZ
      clear hA hZ hzs
      generalize sumZ (L.drop k) = S at *
      by_cases c2 : 0 < k
      · obtain ⟨x, ⟨y, hy, rfl⟩, z0, z1, hzt⟩ := HZ.out c2
        have cy := (HAT.out (k - 1) y hy).2.2.1
        simp only [Nat.zero_add] at cy
        have e7 : decide (S + y.z ≤ t) = false := by simp; omega
        have e8 : decide ((0 : Int) < 10 * (k : Int)) = true := by simp; omega
        clear hy
        by_cases c1 : t < S
        · have e9 : ((k : Int) != (L.length : Int) - 1) = false := by have := HA.out c1; rw [bne_eq_false_iff_eq]; omega
          go_wp2_with (go_at_call 10; refine (long_any _ _ _ (by omega) (by omega)).mono ?_; rintro e w' ⟨rfl, rfl⟩)
          refine (start_yes (-1) t (-1) 0 (s0 % 500) p 0 c L _ (by omega) hpc (by omega) HAT.out HF.out (by omega) (by omega) (by omega) (by omega) (by omega) (by omega) (by omega) (by omega) (by omega) (by omega)).mono ?_
          rw [HST.out (s0 % 500) q2]
          rintro e w4 ⟨rfl, hb4⟩
          have hw4 := hb4.size
          go_wp2_with fail
          refine (start_yes (-1) (-1) (-1) 1099511627776 (s0 % 500) p 0 c L _ (by omega) hpc (by omega) (HAT.out.below hb4 hp3) HF.out (by omega) (by omega) (by omega) (by omega) (by omega) (by omega) (by omega) (by omega) (by omega) (by omega)).mono ?_
          rw [HN.out 1099511627776 (s0 % 500) q2]
          rintro e w5 ⟨rfl, hb5⟩
          have HB2 := Lib.hid (HB.out.trans ((hb4.mono hww).trans (hb5.mono (by omega))))
          clear hb4 hb5
          generalize s0 % 500 = s at *
          rcases Int.le_total s (10 * (k : Int)) with hsk | hsk
          · rw [Int.max_eq_right hsk]
            go_wp2_with fail
            all_goals
              go_ret
              exact ⟨by first | rfl | (simp; done) | (simp; omega), HB2.out⟩
          · rw [Int.max_eq_left hsk]
            go_wp2_with fail
            all_goals
              go_ret
              exact ⟨by first | rfl | (simp; done) | (simp; omega), HB2.out⟩
        · go_wp2_with (go_at_call 10; refine (long_any _ _ _ (by omega) (by omega)).mono ?_; rintro e w' ⟨rfl, rfl⟩)
          refine (start_yes (-1) t (-1) 0 (s0 % 500) p 0 c L _ (by omega) hpc (by omega) HAT.out HF.out (by omega) (by omega) (by omega) (by omega) (by omega) (by omega) (by omega) (by omega) (by omega) (by omega)).mono ?_
          rw [HST.out (s0 % 500) q2]
          rintro e w4 ⟨rfl, hb4⟩
          have hw4 := hb4.size
          go_wp2_with fail
          refine (start_yes (-1) (-1) (-1) 1099511627776 (s0 % 500) p 0 c L _ (by omega) hpc (by omega) (HAT.out.below hb4 hp3) HF.out (by omega) (by omega) (by omega) (by omega) (by omega) (by omega) (by omega) (by omega) (by omega) (by omega)).mono ?_
          rw [HN.out 1099511627776 (s0 % 500) q2]
          rintro e w5 ⟨rfl, hb5⟩
          have HB2 := Lib.hid (HB.out.trans ((hb4.mono hww).trans (hb5.mono (by omega))))
          clear hb4 hb5
          generalize s0 % 500 = s at *
          rcases Int.le_total s (10 * (k : Int)) with hsk | hsk
          · rw [Int.max_eq_right hsk]
            go_wp2_with fail
            all_goals
              go_ret
              exact ⟨by first | rfl | (simp; done) | (simp; omega), HB2.out⟩
          · rw [Int.max_eq_left hsk]
            go_wp2_with fail
            all_goals
              go_ret
              exact ⟨by first | rfl | (simp; done) | (simp; omega), HB2.out⟩
      · obtain rfl : k = 0 := by omega
        by_cases c1 : t < S
        · have e9 : ((0 : Int) != (L.length : Int) - 1) = false := by have := HA.out c1; rw [bne_eq_false_iff_eq]; omega
          go_wp2_with (go_at_call 10; refine (long_any _ _ _ (by omega) (by omega)).mono ?_; rintro e w' ⟨rfl, rfl⟩)
          refine (start_yes (-1) t (-1) 0 (s0 % 500) p 0 c L _ (by omega) hpc (by omega) HAT.out HF.out (by omega) (by omega) (by omega) (by omega) (by omega) (by omega) (by omega) (by omega) (by omega) (by omega)).mono ?_
          rw [HST.out (s0 % 500) q2]
          rintro e w4 ⟨rfl, hb4⟩
          have hw4 := hb4.size
          go_wp2_with fail
          refine (start_yes (-1) (-1) (-1) 1099511627776 (s0 % 500) p 0 c L _ (by omega) hpc (by omega) (HAT.out.below hb4 hp3) HF.out (by omega) (by omega) (by omega) (by omega) (by omega) (by omega) (by omega) (by omega) (by omega) (by omega)).mono ?_
          rw [HN.out 1099511627776 (s0 % 500) q2]
          rintro e w5 ⟨rfl, hb5⟩
          have HB2 := Lib.hid (HB.out.trans ((hb4.mono hww).trans (hb5.mono (by omega))))
          clear hb4 hb5
          generalize s0 % 500 = s at *
          rw [show max s 0 = s from by omega]
          go_wp2_with fail
          all_goals
            go_ret
            exact ⟨by first | rfl | (simp; done) | (simp; omega), HB2.out⟩
        · go_wp2_with (go_at_call 10; refine (long_any _ _ _ (by omega) (by omega)).mono ?_; rintro e w' ⟨rfl, rfl⟩)
          refine (start_yes (-1) t (-1) 0 (s0 % 500) p 0 c L _ (by omega) hpc (by omega) HAT.out HF.out (by omega) (by omega) (by omega) (by omega) (by omega) (by omega) (by omega) (by omega) (by omega) (by omega)).mono ?_
          rw [HST.out (s0 % 500) q2]
          rintro e w4 ⟨rfl, hb4⟩
          have hw4 := hb4.size
          go_wp2_with fail
          refine (start_yes (-1) (-1) (-1) 1099511627776 (s0 % 500) p 0 c L _ (by omega) hpc (by omega) (HAT.out.below hb4 hp3) HF.out (by omega) (by omega) (by omega) (by omega) (by omega) (by omega) (by omega) (by omega) (by omega) (by omega)).mono ?_
          rw [HN.out 1099511627776 (s0 % 500) q2]
          rintro e w5 ⟨rfl, hb5⟩
          have HB2 := Lib.hid (HB.out.trans ((hb4.mono hww).trans (hb5.mono (by omega))))
          clear hb4 hb5
          generalize s0 % 500 = s at *
          rw [show max s 0 = s from by omega]
          go_wp2_with fail
          all_goals
            go_ret
            exact ⟨by first | rfl | (simp; done) | (simp; omega), HB2.out⟩

theorem total_all (a : Option Addr) (n cap : Nat) (zs : List Int) (t0 s0 : Int) (w : World) (h : IsRow w a n cap zs) :
    Calls Tryd.prog 3 #[.slice a n cap, .int .i64 t0, .int .i64 s0] w fun e w' => e = .returned (.bool true) ∧ Below w.heap.size w w' := by
  rcases h with ⟨rfl, rfl, rfl, rfl⟩ | ⟨x, rfl, hl, hm, hz, hcell, hwz⟩
  · exact total_out _ _ _ _ _ _ (.inl rfl) (by omega)
  · by_cases hn : n = 0 ∨ 30 < n
    · exact total_out _ _ _ _ _ _ hn (by unfold maxLen at hm; omega)
    · obtain ⟨b, off, hx, hb, hc⟩ := row_open hcell (by omega)
      rw [hx]
      exact total_in b off n cap zs t0 s0 w (by omega) (by omega) hb (fun i hi => hc i (by omega))

end Go.Proofs.YtnbggdpbgibpoaaDoor.Kp
