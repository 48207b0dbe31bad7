/- cordwoodlaw22.KeepLocal answers true for every input. Conditions: none. -/
import Derived.Test.YtnbggdpbgibpoaaDoorKeepLocP
namespace Go.Proofs.YtnbggdpbgibpoaaDoor.Kp
open Go.RowKit

set_option maxHeartbeats 400000 in
theorem local_out (a : Option Addr) (n cap : Nat) (l0 h0 b0 : Int) (w : World) (hn : n = 0 ∨ 30 < n) (hm : n ≤ 9223372036854775807) :
    Calls Tryd.prog 6 #[.slice a n cap, .int .i64 l0, .int .i64 h0, .int .i64 b0] w fun e w' => e = .returned (.bool true) ∧ Below w.heap.size w w' := by
  rcases hn with rfl | hn
  · go_enter Tryd.func6, Tryd.ntmps6
    go_wp2_with fail
    refine (first_yes _).mono ?_
    rintro e w1 ⟨rfl, hb1⟩
    go_wp2_with fail
    go_ret
    exact ⟨rfl, hb1⟩
  · have e1 : decide ((30 : Int) < (n : Int)) = true := by simp; omega
    go_enter Tryd.func6, Tryd.ntmps6
    go_wp2_with fail
    refine (first_yes _).mono ?_
    rintro e w1 ⟨rfl, hb1⟩
    go_wp2_with fail
    go_ret
    exact ⟨rfl, hb1⟩

set_option maxHeartbeats 2000000 in
theorem local_in (b off n cap : Nat) (zs : List Int) (l0 h0 b0 : Int) (w : World) (hn : 1 ≤ n) (hn2 : n ≤ 30) (hb : b < w.heap.size) (hz : ∀ i, i < n → w.cell? ⟨b, off + i, none⟩ = some (.int .i64 (zs.getD i 0))) :
    Calls Tryd.prog 6 #[.slice (some ⟨b, off, none⟩) n cap, .int .i64 l0, .int .i64 h0, .int .i64 b0] w fun e w' => e = .returned (.bool true) ∧ Below w.heap.size w w' := by
  have e1 : decide ((30 : Int) < (n : Int)) = false := by simp; omega
  have e2 : ((n : Int) == 0) = false := by simp; omega
  have q0 := Int.emod_nonneg l0 (b := 2000) (by omega)
  have q1 := Int.emod_lt_of_pos l0 (b := 2000) (by omega)
  obtain ⟨j, hj⟩ : ∃ j : Nat, h0 % (n : Int) = j := ⟨(h0 % (n : Int)).toNat, by have := Int.emod_nonneg h0 (b := (n : Int)) (by omega); omega⟩
  obtain ⟨m, hm⟩ : ∃ j : Nat, b0 % (n : Int) = j := ⟨(b0 % (n : Int)).toNat, by have := Int.emod_nonneg b0 (b := (n : Int)) (by omega); omega⟩
  have hjn : j < n := by have := Int.emod_lt_of_pos h0 (b := (n : Int)) (by omega); omega
  have hmn : m < n := by have := Int.emod_lt_of_pos b0 (b := (n : Int)) (by omega); omega
  have HJ := Lib.hid hj
  have HM := Lib.hid hm
  clear hj hm
  go_enter Tryd.func6, Tryd.ntmps6
  go_wp2_with fail
  refine (first_yes _).mono ?_
  rintro e w1 ⟨rfl, hb1⟩
  have hw1 := hb1.size
  go_wp2_with (go_at_call 10; refine (long_any _ _ _ (by omega) (by omega)).mono ?_; rintro e w' ⟨rfl, rfl⟩)
  refine (row_any b off n cap zs 1 _ (by omega) (by omega) (by omega) (by omega) (fun i hi => (hb1.cell hb).trans (hz i hi))).mono ?_
  rintro e w2 ⟨⟨v, rfl, hown⟩, hb2⟩
  obtain ⟨p, c, rfl, hpc, _, hp1, hp2, hat, cur, hcur⟩ := owned_slice hown hn (rowTo_len _ _ _ _)
  have hfr : ∀ o, w2.frozen? ⟨p, o, none⟩ = false := fun o => by simp [World.frozen?, hcur]
  have hf := (loc_flags n j m zs).fair (rowTo_fair n 1 zs (by omega) (by omega) (by omega))
  have hgj := rowTo_get n 1 zs n j hjn
  have hat2 := segsAt_set (j := 6) (v := .bool false) (x' := { rowSeg n 1 j (zs.getD j 0) with r := false }) hat hgj (by omega) rfl
  rw [loc_hole n j zs hjn] at hat2
  have cj : w2.cell? ⟨p, j * 7 + 6, none⟩ = some (.bool true) := by have := (hat j _ hgj).2.2.2.2.2.2; simpa [rowSeg] using this
  have fj := hfr (j * 7 + 6)
  have HFR := Lib.hid hfr
  have HF := Lib.hid hf
  have HAT := Lib.hid hat2
  have HB := Lib.hid (hb1.trans (hb2.mono hw1))
  have hp0 : w.heap.size ≤ p := by omega
  clear hown hz hf hat hat2 hfr hcur hgj hb1 hb2 e1 e2
  generalize hlc : l0 % 2000 = lc at *
  clear hlc
  go_wp2_with fail
  refine (number_any _ _ _ (by omega) (by omega)).mono ?_
  rw [HJ.out]
  rintro e w' ⟨rfl, rfl⟩
  go_wp2_with fail
  refine (number_any _ _ _ (by omega) (by omega)).mono ?_
  rw [HM.out]
  rintro e w' ⟨rfl, rfl⟩
  have hjn' : (j : Int) < (n : Int) := by omega
  go_wp2_with fail
  go_loopg [11] m (fun r i wr => ∃ k : Nat, k + r = m ∧ i = .int .i64 k ∧ SegsAt wr p 0 (locTo n j k zs) ∧ (∀ o, wr.frozen? ⟨p, o, none⟩ = false) ∧ p < wr.heap.size ∧ Below w.heap.size w wr)
  case atStart => exact ⟨0, by omega, rfl, HAT.out, fun o => by rw [World.frozen?_setCell]; exact HFR.out o, by simp; exact hp2, HB.out.setCell hp0 _⟩
  case round =>
    clear HAT HFR HB cj fj
    obtain ⟨k, hk, rfl, hat, hfr, hp3, hbl⟩ := hrel
    by_cases hlt : k < m
    · have hgk := locTo_get n j k zs k (by omega)
      have hat2 := segsAt_set (j := 5) (v := .bool false) (x' := { locSeg n j k k (zs.getD k 0) with h := false }) hat hgk (by omega) rfl
      rw [loc_here n j k zs (by omega)] at hat2
      have ck : wr.cell? ⟨p, k * 7 + 5, none⟩ = some (.bool true) := by have := (hat k _ hgk).2.2.2.2.2.1; simpa [locSeg] using this
      have fk := hfr (k * 7 + 5)
      have HAT := Lib.hid hat2
      have HFR := Lib.hid hfr
      have hkn : (k : Int) < (n : Int) := by omega
      clear hat hat2 hfr hgk
      obtain ⟨gk, rfl⟩ : ∃ x, gk = x + 1 := ⟨gk - 1, by omega⟩
      go_wp2_with fail
      go_roundg gk
      case measure => omega
      case rel => exact ⟨k + 1, by omega, by go_num, HAT.out, fun o => by rw [World.frozen?_setCell]; exact HFR.out o, by simp; exact hp3, hbl.setCell hp0 _⟩
    · obtain rfl : k = m := by omega
      have hlen := locTo_len n j k zs
      obtain ⟨st, hst, hst1, hst2, hst3, hst4⟩ := local_plain n j k lc zs hmn q0
      have HST := Lib.hid hst
      have H2 := Lib.hid hst3
      have H3 := Lib.hid hst4
      have HAT := Lib.hid hat
      clear hst hst3 hst4 hat hfr
      have hwr := hbl.size
      go_wp2_with fail
      generalize locTo n j k zs = L at *
      subst hlen
      refine (leave_yes lc (-1) (-1) p 0 c L _ (by omega) hpc hp3 HAT.out HF.out (by omega) (by omega) (by omega) (by omega) (by omega) (by omega)).mono ?_
      rw [HST.out]
      rintro e w5 ⟨⟨v5, rfl, hown5⟩, hb5⟩
      have hat5 := HAT.out.below hb5 hp3
      have HB := Lib.hid (hbl.trans (hb5.mono hwr))
      have HAT := Lib.hid hat5
      have hzz : ((List.range' k (st - k)).map (fun (i : Nat) => 10 * (i : Int))).length = st - k := by simp
      rw [hzz] at hown5
      clear hzz hat5 hbl hb5
      rcases hown5.2 with ⟨rfl, hc0⟩ | ⟨g, cp, cu, rfl, _, hg, hle, _, hcs, htake⟩
      · have hcnt0 := Lib.hid hc0
        clear hc0 hown5
        have hcnt := hcnt0
        go_wp2_with fail
        go_loopg [14, 15] (L.length - k) (fun r s i wr => ∃ u : Nat, u + r = L.length ∧ k ≤ u ∧ i = .int .i64 u ∧ s = .int .i64 (sumZ (L.drop k) - sumZ (L.drop u)) ∧ wr = w5)
        case atStart => exact ⟨k, by omega, by omega, rfl, by simp, rfl⟩
        case round =>
          obtain ⟨u, hk, hmk, rfl, rfl, rfl⟩ := hrel
          have hzs := HF.out.zs
          by_cases hlt : u < L.length
          · obtain ⟨x, hx⟩ : ∃ x, L[u]? = some x := ⟨_, List.getElem?_eq_getElem (by omega)⟩
            have c2 := (HAT.out u x hx).2.2.1
            simp only [Nat.zero_add] at c2
            have hdr : L.drop u = x :: L.drop (u + 1) := by rw [List.drop_eq_getElem_cons (by omega)]; congr 1; exact Option.some.inj ((List.getElem?_eq_getElem (by omega)).symm.trans hx)
            have hs : sumZ (L.drop u) = x.z + sumZ (L.drop (u + 1)) := by rw [hdr, sumZ]
            obtain ⟨z0, z1⟩ := hzs x (List.mem_of_getElem? hx)
            obtain ⟨y0, y1⟩ := sumZ_bd (L.drop u) 1000 (by simp; omega) (fun y hy => hzs y (List.mem_of_mem_drop hy))
            obtain ⟨v0, v1⟩ := sumZ_bd (L.drop k) 1000 (by simp; omega) (fun y hy => hzs y (List.mem_of_mem_drop hy))
            have HS := Lib.hid hs
            clear hs hdr hx hzs
            obtain ⟨gk, rfl⟩ : ∃ mm, gk = mm + 1 := ⟨gk - 1, by omega⟩
            go_wp2_with fail
            go_roundg gk
            case measure => omega
            case rel => exact ⟨u + 1, by omega, by omega, by go_num, by have := HS.out; rw [this]; go_num, rfl⟩
          · obtain rfl : u = L.length := by omega
            rw [List.drop_length, show sumZ ([] : List Sg) = 0 from rfl, Int.sub_zero]
            clear hzs
            go_wp2_with fail
            go_loopg [14, 16, 17] (st - k) (fun r s kk i wq => ∃ (i' q : Nat), Hid (q = k + i') ∧ i' + r = st - k ∧ q ≤ st ∧ k ≤ q ∧ i = .int .i64 i' ∧ kk = .int .i64 q ∧ s = .int .i64 (sumZ (L.drop q)) ∧ wq = wr)
            case atStart => exact ⟨0, k, rfl, by omega, by omega, by omega, rfl, rfl, rfl, rfl⟩
            case round =>
              obtain ⟨i, q, hq, hi, hqs, hmq, rfl, rfl, rfl, rfl⟩ := hrel
              have hzs := HF.out.zs
              obtain ⟨y0, y1⟩ := sumZ_bd (L.drop q) 1000 (by simp; omega) (fun y hy => hzs y (List.mem_of_mem_drop hy))
              by_cases hlt : i < st - k
              · exact absurd hlt (by have := hcnt.out; omega)
              · have hqe : q = st := by have := hq.out; omega
                have e0 : decide ((i : Int) < ((0 : Nat) : Int)) = false := by first | (simp; done) | (simp; omega)
                have e0' : decide (i < 0) = false := by first | (simp; done) | (simp; omega)
                subst hqe
                have HE := H3.out
                generalize sumZ (L.drop q) = S at *
                by_cases c1 : q = j
                · have e1 : ((q : Int) == (j : Int)) = true := by simp; omega
                  have e1' : (q == j) = true := by simp; omega
                  have c1 := Lib.hid c1
                  go_wp2_with fail
                  go_ret
                  exact ⟨rfl, HB.out⟩
                · have e1 : ((q : Int) == (j : Int)) = false := by simp; omega
                  have e1' : (q == j) = false := by simp; omega
                  by_cases c2 : q = L.length - 1
                  · have e2 : decide ((L.length : Int) - 1 ≤ (q : Int)) = true := by simp; omega
                    have c2 := Lib.hid c2
                    go_wp2_with fail
                    go_ret
                    exact ⟨by first | rfl | (simp; done) | (simp; omega), HB.out⟩
                  · have e2 : decide ((L.length : Int) - 1 ≤ (q : Int)) = false := by simp; omega
                    have c3 : S ≤ lc := by rcases HE (by omega) with h | h; exact absurd h c1; exact h
                    have e3 : decide (S ≤ lc) = true := by simp; omega
                    clear c1 c2 HE
                    go_wp2_with fail
                    go_ret
                    exact ⟨by first | rfl | (simp; done) | (simp; omega), HB.out⟩
      · have hcells : ∀ i, i < st - k → w5.cell? ⟨g, i, none⟩ = some (.int .i64 (10 * ((k + i : Nat) : Int))) := by
          intro i hi
          have := hown5.cells (g := g) rfl i (.int .i64 (10 * ((k + i : Nat) : Int))) (by simp [hi])
          by_cases e : i = 0
          · subst e; simpa [Addr.add] using this
          · simpa [Addr.add, e] using this
        have HC := Lib.hid hcells
        clear hcells
        have hcnt0 : True := trivial
        clear hg htake hown5
        have hcnt := hcnt0
        go_wp2_with fail
        go_loopg [14, 15] (L.length - k) (fun r s i wr => ∃ u : Nat, u + r = L.length ∧ k ≤ u ∧ i = .int .i64 u ∧ s = .int .i64 (sumZ (L.drop k) - sumZ (L.drop u)) ∧ wr = w5)
        case atStart => exact ⟨k, by omega, by omega, rfl, by simp, rfl⟩
        case round =>
          obtain ⟨u, hk, hmk, rfl, rfl, rfl⟩ := hrel
          have hzs := HF.out.zs
          by_cases hlt : u < L.length
          · obtain ⟨x, hx⟩ : ∃ x, L[u]? = some x := ⟨_, List.getElem?_eq_getElem (by omega)⟩
            have c2 := (HAT.out u x hx).2.2.1
            simp only [Nat.zero_add] at c2
            have hdr : L.drop u = x :: L.drop (u + 1) := by rw [List.drop_eq_getElem_cons (by omega)]; congr 1; exact Option.some.inj ((List.getElem?_eq_getElem (by omega)).symm.trans hx)
            have hs : sumZ (L.drop u) = x.z + sumZ (L.drop (u + 1)) := by rw [hdr, sumZ]
            obtain ⟨z0, z1⟩ := hzs x (List.mem_of_getElem? hx)
            obtain ⟨y0, y1⟩ := sumZ_bd (L.drop u) 1000 (by simp; omega) (fun y hy => hzs y (List.mem_of_mem_drop hy))
            obtain ⟨v0, v1⟩ := sumZ_bd (L.drop k) 1000 (by simp; omega) (fun y hy => hzs y (List.mem_of_mem_drop hy))
            have HS := Lib.hid hs
            clear hs hdr hx hzs
            obtain ⟨gk, rfl⟩ : ∃ mm, gk = mm + 1 := ⟨gk - 1, by omega⟩
            go_wp2_with fail
            go_roundg gk
            case measure => omega
            case rel => exact ⟨u + 1, by omega, by omega, by go_num, by have := HS.out; rw [this]; go_num, rfl⟩
          · obtain rfl : u = L.length := by omega
            rw [List.drop_length, show sumZ ([] : List Sg) = 0 from rfl, Int.sub_zero]
            clear hzs
            go_wp2_with fail
            go_loopg [14, 16, 17] (st - k) (fun r s kk i wq => ∃ (i' q : Nat), Hid (q = k + i') ∧ i' + r = st - k ∧ q ≤ st ∧ k ≤ q ∧ i = .int .i64 i' ∧ kk = .int .i64 q ∧ s = .int .i64 (sumZ (L.drop q)) ∧ wq = wr)
            case atStart => exact ⟨0, k, rfl, by omega, by omega, by omega, rfl, rfl, rfl, rfl⟩
            case round =>
              obtain ⟨i, q, hq, hi, hqs, hmq, rfl, rfl, rfl, rfl⟩ := hrel
              have hzs := HF.out.zs
              obtain ⟨y0, y1⟩ := sumZ_bd (L.drop q) 1000 (by simp; omega) (fun y hy => hzs y (List.mem_of_mem_drop hy))
              by_cases hlt : i < st - k
              · have c0 := HC.out i (by omega)
                rw [← hq.out] at c0
                obtain ⟨x, hx⟩ : ∃ x, L[q]? = some x := ⟨_, List.getElem?_eq_getElem (by omega)⟩
                have c2 := (HAT.out q x hx).2.2.1
                simp only [Nat.zero_add] at c2
                have hqlt : q < st := by have := hq.out; omega
                have hdr : L.drop q = x :: L.drop (q + 1) := by rw [List.drop_eq_getElem_cons (by omega)]; congr 1; exact Option.some.inj ((List.getElem?_eq_getElem (by omega)).symm.trans hx)
                have hs : sumZ (L.drop q) - x.z = sumZ (L.drop (q + 1)) := by rw [hdr, sumZ]; omega
                obtain ⟨z0, z1⟩ := hzs x (List.mem_of_getElem? hx)
                obtain ⟨g1, g2⟩ := H2.out q hmq hqlt
                have e1 : ((q : Int) == (j : Int)) = false := by simp; omega
                have e1' : (q == j) = false := by simp; omega
                have e2 : ((q : Int) == (L.length : Int) - 1) = false := by simp; omega
                have e3 : decide (sumZ (L.drop q) ≤ lc) = false := by simp; omega
                have e4 : decide ((i : Int) < ((st - k : Nat) : Int)) = true := by simp; omega
                have e5 : decide (i < st - k) = true := by simp; omega
                have e6 : (10 * (q : Int) != 10 * (q : Int)) = false := by simp
                have i0 : (i : Int) < ((st - k : Nat) : Int) := by omega
                have HS := Lib.hid hs
                clear hs hdr hx hzs g1
                obtain ⟨gk, rfl⟩ : ∃ mm, gk = mm + 1 := ⟨gk - 1, by omega⟩
                go_wp2_with fail
                go_roundg gk
                case measure => omega
                case rel => exact ⟨i + 1, q + 1, by have := hq.out; show q + 1 = k + (i + 1); omega, by omega, by omega, by omega, by go_num, by go_num, by rw [HS.out], rfl⟩
              · have hqe : q = st := by have := hq.out; omega
                have e0 : decide ((i : Int) < ((st - k : Nat) : Int)) = false := by first | (simp; done) | (simp; omega)
                have e0' : decide (i < st - k) = false := by first | (simp; done) | (simp; omega)
                subst hqe
                have HE := H3.out
                generalize sumZ (L.drop q) = S at *
                by_cases c1 : q = j
                · have e1 : ((q : Int) == (j : Int)) = true := by simp; omega
                  have e1' : (q == j) = true := by simp; omega
                  have c1 := Lib.hid c1
                  go_wp2_with fail
                  go_ret
                  exact ⟨rfl, HB.out⟩
                · have e1 : ((q : Int) == (j : Int)) = false := by simp; omega
                  have e1' : (q == j) = false := by simp; omega
                  by_cases c2 : q = L.length - 1
                  · have e2 : decide ((L.length : Int) - 1 ≤ (q : Int)) = true := by simp; omega
                    have c2 := Lib.hid c2
                    go_wp2_with fail
                    go_ret
                    exact ⟨by first | rfl | (simp; done) | (simp; omega), HB.out⟩
                  · have e2 : decide ((L.length : Int) - 1 ≤ (q : Int)) = false := by simp; omega
                    have c3 : S ≤ lc := by rcases HE (by omega) with h | h; exact absurd h c1; exact h
                    have e3 : decide (S ≤ lc) = true := by simp; omega
                    clear c1 c2 HE
                    go_wp2_with fail
                    go_ret
                    exact ⟨by first | rfl | (simp; done) | (simp; omega), HB.out⟩

theorem local_all (a : Option Addr) (n cap : Nat) (zs : List Int) (l0 h0 b0 : Int) (w : World) (h : IsRow w a n cap zs) :
    Calls Tryd.prog 6 #[.slice a n cap, .int .i64 l0, .int .i64 h0, .int .i64 b0] w fun e w' => e = .returned (.bool true) ∧ Below w.heap.size w w' := by
  rcases h with ⟨rfl, rfl, rfl, rfl⟩ | ⟨x, rfl, hl, hm, hz, hcell, hwz⟩
  · exact local_out _ _ _ _ _ _ _ (.inl rfl) (by omega)
  · by_cases hn : n = 0 ∨ 30 < n
    · exact local_out _ _ _ _ _ _ _ hn (by unfold maxLen at hm; omega)
    · obtain ⟨b, off, hx, hb, hc⟩ := row_open hcell (by omega)
      rw [hx]
      exact local_in b off n cap zs l0 h0 b0 w (by omega) (by omega) hb (fun i hi => hc i (by omega))

end Go.Proofs.YtnbggdpbgibpoaaDoor.Kp
