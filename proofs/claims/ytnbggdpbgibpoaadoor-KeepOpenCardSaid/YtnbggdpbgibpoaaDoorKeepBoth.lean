/- cordwoodlaw22.KeepBoth answers true for every input. Conditions: none. -/
import Derived.Test.YtnbggdpbgibpoaaDoorKeepP
namespace Go.Proofs.YtnbggdpbgibpoaaDoor.Kp
open Go.RowKit

/-- What a walk is told of a slice of integers that came in. -/
def IsRow (w : World) (a : Option Addr) (len cap : Nat) (zs : List Int) : Prop :=
  (a = none ∧ len = 0 ∧ cap = 0 ∧ zs = []) ∨
  ∃ x, a = some x ∧ len ≤ cap ∧ cap ≤ maxLen ∧ zs.length = cap ∧ (∀ i, i < zs.length → w.cell? (x.add i) = some (.int .i64 (zs.getD i 0))) ∧ ∀ n ∈ zs, (Lit.int .i64 n).wf = true

theorem row_open {w : World} {x : Addr} {zs : List Int} (h : ∀ i, i < zs.length → w.cell? (x.add i) = some (.int .i64 (zs.getD i 0))) (hl : 0 < zs.length) :
    ∃ b off, x = ⟨b, off, none⟩ ∧ b < w.heap.size ∧ ∀ i, i < zs.length → w.cell? ⟨b, off + i, none⟩ = some (.int .i64 (zs.getD i 0)) := by
  obtain ⟨b, off, spot⟩ := x
  have hc := h 0 hl
  have hspot : spot = none := by simpa [Addr.add] using World.cell?_spot hc
  subst hspot
  have hb := World.block_lt_of_cell? w _ hc
  refine ⟨b, off, rfl, by simpa [Addr.add] using hb, fun i hi => ?_⟩
  have := h i hi
  by_cases e : i = 0
  · subst e; simpa [Addr.add] using this
  · simpa [Addr.add, e] using this

set_option maxHeartbeats 400000 in
theorem both_out (a : Option Addr) (n cap : Nat) (t g o : Int) (w : World) (hn : n = 0 ∨ 30 < n) (hm : n ≤ 9223372036854775807) :
    Calls Tryd.prog 5 #[.slice a n cap, .int .i64 t, .int .i64 g, .int .i64 o] w fun e w' => e = .returned (.bool true) ∧ Below w.heap.size w w' := by
  rcases hn with rfl | hn
  · go_enter Tryd.func5, Tryd.ntmps5
    go_wp2_with fail
    refine (first_yes _).mono ?_
    rintro e w1 ⟨rfl, hb1⟩
    go_wp2_with fail
    go_ret
    exact ⟨rfl, hb1⟩
  · have e1 : decide ((30 : Int) < (n : Int)) = true := by simp; omega
    go_enter Tryd.func5, Tryd.ntmps5
    go_wp2_with fail
    refine (first_yes _).mono ?_
    rintro e w1 ⟨rfl, hb1⟩
    go_wp2_with fail
    go_ret
    exact ⟨rfl, hb1⟩

theorem owned_slice {w : World} {base n : Nat} {v : Value} {L : List Sg} {e : TypeId} (h : w.ownsRow base e 7 v n (L.flatMap Sg.cells)) (hn : 1 ≤ n) (hl : L.length = n) :
    ∃ g cap, v = .slice (some ⟨g, 0, none⟩) n cap ∧ n ≤ cap ∧ cap ≤ maxLen ∧ base ≤ g ∧ g < w.heap.size ∧ SegsAt w g 0 L ∧ ∃ cur, w.heap[g]? = some (.cells cur e (0, 0)) := by
  rcases h.2 with ⟨_, rfl⟩ | ⟨g, cap, cur, rfl, hb, hg, h1, h2, _, h4⟩
  · omega
  · exact ⟨g, cap, rfl, h1, h2, hb, (Array.getElem?_eq_some_iff.1 hg).1, segsAt_of_row hg (by rw [hl]; exact h4), cur, hg⟩

set_option maxHeartbeats 1000000 in
theorem both_in (b off n cap : Nat) (zs : List Int) (t g o : Int) (w : World) (hn : 1 ≤ n) (hn2 : n ≤ 30) (hb : b < w.heap.size) (hz : ∀ i, i < n → w.cell? ⟨b, off + i, none⟩ = some (.int .i64 (zs.getD i 0))) :
    Calls Tryd.prog 5 #[.slice (some ⟨b, off, none⟩) n cap, .int .i64 t, .int .i64 g, .int .i64 o] w fun e w' => e = .returned (.bool true) ∧ Below w.heap.size w w' := by
  have e1 : decide ((30 : Int) < (n : Int)) = false := by simp; omega
  have e2 : ((n : Int) == 0) = false := by simp; omega
  have t0 := Int.emod_nonneg t (b := 1500) (by omega)
  have t1 := Int.emod_lt_of_pos t (b := 1500) (by omega)
  have g0 := Int.emod_nonneg g (b := 200) (by omega)
  have g1 := Int.emod_lt_of_pos g (b := 200) (by omega)
  have o0 := Int.emod_nonneg o (b := 500) (by omega)
  have o1 := Int.emod_lt_of_pos o (b := 500) (by omega)
  go_enter Tryd.func5, Tryd.ntmps5
  go_wp2_with fail
  refine (first_yes _).mono ?_
  rintro e w1 ⟨rfl, hb1⟩
  have hw1 := hb1.size
  go_wp2_with (go_at_call 10; refine (long_any _ _ _ (by omega) (by omega)).mono ?_; rintro e w' ⟨rfl, rfl⟩)
  refine (row_any b off n cap zs 10 _ (by omega) (by omega) (by omega) (by omega) (fun i hi => (hb1.cell hb).trans (hz i hi))).mono ?_
  rintro e w2 ⟨⟨v, rfl, hown⟩, hb2⟩
  obtain ⟨p, c, rfl, hpc, _, hp1, hp2, hat, _⟩ := owned_slice hown hn (rowTo_len _ _ _ _)
  have hlen := rowTo_len n 10 zs n
  have hf := rowTo_fair n 10 zs (by omega) (by omega) (by omega)
  have hpl := both_plain n (t % 1500) (g % 200) (o % 500) zs hn (by omega)
  have HF := Lib.hid hf
  have HPL := Lib.hid hpl
  clear hown hz hf hpl e1 e2
  generalize rowTo n 10 zs n = L at *
  generalize t % 1500 = t at *
  generalize g % 200 = g at *
  generalize o % 500 = o at *
  subst hlen
  have hw2 := hb2.size
  go_wp2_with fail
  refine (start_yes (-1) t (-1) o 0 p 0 c L _ (by omega) hpc hp2 hat HF.out (by omega) (by omega) (by omega) (by omega) (by omega) (by omega) (by omega) (by omega) (by omega) (by omega)).mono ?_
  rintro e w3 ⟨rfl, hb3⟩
  have hw3 := hb3.size
  go_wp2_with fail
  refine (start_yes (-1) (-1) g o 0 p 0 c L _ (by omega) hpc (by omega) (hat.below hb3 hp2) HF.out (by omega) (by omega) (by omega) (by omega) (by omega) (by omega) (by omega) (by omega) (by omega) (by omega)).mono ?_
  rintro e w4 ⟨rfl, hb4⟩
  have hw4 := hb4.size
  go_wp2_with fail
  refine (start_yes (-1) t g o 0 p 0 c L _ (by omega) hpc (by omega) ((hat.below hb3 hp2).below hb4 (by omega)) HF.out (by omega) (by omega) (by omega) (by omega) (by omega) (by omega) (by omega) (by omega) (by omega) (by omega)).mono ?_
  rintro e w5 ⟨rfl, hb5⟩
  have HB := Lib.hid ((((hb1.trans (hb2.mono hw1)).trans (hb3.mono (by omega))).trans (hb4.mono (by omega))).trans (hb5.mono (by omega)))
  clear hb1 hb2 hb3 hb4 hb5
  have e3 : (startP t g o 0 L == max (startP t (-1) o 0 L) (startP (-1) g o 0 L)) = true := by rw [HPL.out]; simp
  generalize startP t g o 0 L = x at *
  generalize startP t (-1) o 0 L = y at *
  generalize startP (-1) g o 0 L = z at *
  rcases Int.le_total y z with hyz | hyz
  · rw [Int.max_eq_right hyz] at e3
    obtain rfl : x = z := by simpa using e3
    go_wp2_with fail
    all_goals
      go_ret
      exact ⟨by first | (simp; done) | (simp; omega), HB.out⟩
  · rw [Int.max_eq_left hyz] at e3
    obtain rfl : x = y := by simpa using e3
    go_wp2_with fail
    all_goals
      go_ret
      exact ⟨by first | (simp; done) | (simp; omega), HB.out⟩

theorem both_all (a : Option Addr) (n cap : Nat) (zs : List Int) (t g o : Int) (w : World) (h : IsRow w a n cap zs) :
    Calls Tryd.prog 5 #[.slice a n cap, .int .i64 t, .int .i64 g, .int .i64 o] w fun e w' => e = .returned (.bool true) ∧ Below w.heap.size w w' := by
  rcases h with ⟨rfl, rfl, rfl, rfl⟩ | ⟨x, rfl, hl, hm, hz, hcell, hwz⟩
  · exact both_out _ _ _ _ _ _ _ (.inl rfl) (by omega)
  · by_cases hn : n = 0 ∨ 30 < n
    · exact both_out _ _ _ _ _ _ _ hn (by unfold maxLen at hm; omega)
    · obtain ⟨b, off, hx, hb, hc⟩ := row_open hcell (by omega)
      rw [hx]
      exact both_in b off n cap zs t g o w (by omega) (by omega) hb (fun i hi => hc i (by omega))

end Go.Proofs.YtnbggdpbgibpoaaDoor.Kp
