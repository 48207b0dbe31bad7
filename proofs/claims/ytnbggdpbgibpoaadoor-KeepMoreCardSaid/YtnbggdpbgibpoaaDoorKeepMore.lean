/- cordwoodlaw22.KeepMore answers true for every input. Conditions: none. -/
import Derived.Test.YtnbggdpbgibpoaaDoorKeepBoth
namespace Go.Proofs.YtnbggdpbgibpoaaDoor.Kp
open Go.RowKit

theorem stop_mono (P Q : Nat → Bool) (h : ∀ k, P k = true → Q k = true) (d : Nat) : ∀ k, stopAt P d k ≤ stopAt Q d k := by
  intro k
  obtain ⟨a1, a2, a3, a4⟩ := stop_spec P d k
  obtain ⟨b1, b2, b3, b4⟩ := stop_spec Q d k
  generalize stopAt P d k = a at *
  generalize stopAt Q d k = b at *
  rcases Nat.lt_or_ge b a with hlt | hge
  · have h1 := h b (a3 b b1 hlt)
    rw [b4 (by omega)] at h1; cases h1
  · exact hge

theorem leave_mono (a b : Int) (h0 : 0 ≤ a) (hab : a ≤ b) (L : List Sg) : ∀ e, (leaveP b e L).length ≤ (leaveP a e L).length := by
  induction L with
  | nil => intro e; simp [leaveP]
  | cons x l ih =>
    intro e
    rw [leaveP, leaveP]
    by_cases h1 : x.h = false ∧ e = true
    · rw [if_pos h1, if_pos h1]; exact ih e
    · rw [if_neg h1, if_neg h1]
      by_cases h2 : l = [] ∨ x.h = false ∨ x.s = false ∨ x.r = false ∨ b = -1 ∨ sumH (x :: l) ≤ b
      · rw [if_pos h2]; simp
      · rw [if_neg h2, if_neg (by
          rintro (h | h | h | h | h | h)
          · exact h2 (.inl h)
          · exact h2 (.inr (.inl h))
          · exact h2 (.inr (.inr (.inl h)))
          · exact h2 (.inr (.inr (.inr (.inl h))))
          · omega
          · exact h2 (.inr (.inr (.inr (.inr (.inr (by omega)))))))]
        have := ih false
        simp; omega

theorem more_plain (n : Nat) (a b now : Int) (zs : List Int) (hn : 1 ≤ n) (h0 : 0 ≤ a) (hab : a ≤ b) :
    startP b b now 0 (rowTo n 10 zs n) ≤ startP a a now 0 (rowTo n 10 zs n) := by
  rw [rowTo_start n 10 a a now 0 zs hn (by omega), rowTo_start n 10 b b now 0 zs hn (by omega)]
  have := stop_mono (goes b b now (rowTo n 10 zs n)) (goes a a now (rowTo n 10 zs n)) (fun k hk => by
    simp only [goes, Bool.or_eq_true] at hk ⊢
    rcases hk with hk | hk
    · refine .inl ?_
      simp only [muchB, Bool.and_eq_true, bne_iff_ne, ne_eq, decide_eq_true_eq] at hk ⊢
      exact ⟨by omega, by omega⟩
    · refine .inr ?_
      generalize (rowTo n 10 zs n)[k]? = o at hk ⊢
      cases o with
      | none => cases hk
      | some x =>
        have hk' : oldB b now x.t = true := hk
        show oldB a now x.t = true
        rw [oldB_iff] at hk' ⊢
        exact ⟨by omega, by omega⟩) (n - 1) 0
  omega

set_option maxHeartbeats 400000 in
theorem more_out (a : Option Addr) (n cap : Nat) (a2 b2 o : Int) (w : World) (hn : n = 0 ∨ 20 < n) (hm : n ≤ 9223372036854775807) :
    Calls Tryd.prog 8 #[.slice a n cap, .int .i64 a2, .int .i64 b2, .int .i64 o] w fun e w' => e = .returned (.bool true) ∧ Below w.heap.size w w' := by
  rcases hn with rfl | hn
  · go_enter Tryd.func8, Tryd.ntmps8
    go_wp2_with fail
    refine (first_yes _).mono ?_
    rintro e w1 ⟨rfl, hb1⟩
    go_wp2_with fail
    go_ret
    exact ⟨rfl, hb1⟩
  · have e1 : decide ((20 : Int) < (n : Int)) = true := by simp; omega
    go_enter Tryd.func8, Tryd.ntmps8
    go_wp2_with fail
    refine (first_yes _).mono ?_
    rintro e w1 ⟨rfl, hb1⟩
    go_wp2_with fail
    go_ret
    exact ⟨rfl, hb1⟩

set_option maxHeartbeats 1000000 in
theorem more_in (b off n cap : Nat) (zs : List Int) (a2 b2 o : Int) (w : World) (hn : 1 ≤ n) (hn2 : n ≤ 20) (hb : b < w.heap.size) (hz : ∀ i, i < n → w.cell? ⟨b, off + i, none⟩ = some (.int .i64 (zs.getD i 0))) :
    Calls Tryd.prog 8 #[.slice (some ⟨b, off, none⟩) n cap, .int .i64 a2, .int .i64 b2, .int .i64 o] w fun e w' => e = .returned (.bool true) ∧ Below w.heap.size w w' := by
  have e1 : decide ((20 : Int) < (n : Int)) = false := by simp; omega
  have e2 : ((n : Int) == 0) = false := by simp; omega
  have t0 := Int.emod_nonneg a2 (b := 1000) (by omega)
  have t1 := Int.emod_lt_of_pos a2 (b := 1000) (by omega)
  have g0 := Int.emod_nonneg b2 (b := 1000) (by omega)
  have g1 := Int.emod_lt_of_pos b2 (b := 1000) (by omega)
  have o0 := Int.emod_nonneg o (b := 400) (by omega)
  have o1 := Int.emod_lt_of_pos o (b := 400) (by omega)
  go_enter Tryd.func8, Tryd.ntmps8
  go_wp2_with fail
  refine (first_yes _).mono ?_
  rintro e w1 ⟨rfl, hb1⟩
  have hw1 := hb1.size
  go_wp2_with fail
  refine (row_any b off n cap zs 10 _ (by omega) (by omega) (by omega) (by omega) (fun i hi => (hb1.cell hb).trans (hz i hi))).mono ?_
  rintro e w2 ⟨⟨v, rfl, hown⟩, hb2⟩
  obtain ⟨p, c, rfl, hpc, _, hp1, hp2, hat, _⟩ := owned_slice hown hn (rowTo_len _ _ _ _)
  have hlen := rowTo_len n 10 zs n
  have hf := rowTo_fair n 10 zs (by omega) (by omega) (by omega)
  have hpl := more_plain n (a2 % 1000) (a2 % 1000 + b2 % 1000) (o % 400) zs hn (by omega) (by omega)
  have hql := leave_mono (a2 % 1000) (a2 % 1000 + b2 % 1000) (by omega) (by omega) (rowTo n 10 zs n) true
  have HF := Lib.hid hf
  have HPL := Lib.hid hpl
  have HQL := Lib.hid hql
  have hw2 := hb2.size
  clear hown hz hf hpl hql e1 e2
  go_wp2_with (go_at_call 10; refine (long_any _ _ _ (by omega) (by omega)).mono ?_; rintro e w' ⟨rfl, rfl⟩)
  generalize rowTo n 10 zs n = L at *
  generalize a2 % 1000 = t at *
  generalize b2 % 1000 = g at *
  generalize o % 400 = o at *
  subst hlen
  refine (start_yes (-1) t t o 0 p 0 c L _ (by omega) hpc hp2 hat HF.out (by omega) (by omega) (by omega) (by omega) (by omega) (by omega) (by omega) (by omega) (by omega) (by omega)).mono ?_
  rintro e w3 ⟨rfl, hb3⟩
  have hw3 := hb3.size
  go_wp2_with fail
  refine (start_yes (-1) (t + g) (t + g) o 0 p 0 c L _ (by omega) hpc (by omega) (hat.below hb3 hp2) HF.out (by omega) (by omega) (by omega) (by omega) (by omega) (by omega) (by omega) (by omega) (by omega) (by omega)).mono ?_
  rintro e w4 ⟨rfl, hb4⟩
  have hw4 := hb4.size
  go_wp2_with fail
  refine (leave_yes t (-1) (-1) p 0 c L _ (by omega) hpc (by omega) ((hat.below hb3 hp2).below hb4 (by omega)) HF.out (by omega) (by omega) (by omega) (by omega) (by omega) (by omega)).mono ?_
  rintro e w5 ⟨⟨v5, rfl, hown5⟩, hb5⟩
  obtain ⟨a5, c5, rfl⟩ := owns_shape hown5
  have hw5 := hb5.size
  clear hown5
  go_wp2_with fail
  refine (leave_yes (t + g) (-1) (-1) p 0 c L _ (by omega) hpc (by omega) (((hat.below hb3 hp2).below hb4 (by omega)).below hb5 (by omega)) HF.out (by omega) (by omega) (by omega) (by omega) (by omega) (by omega)).mono ?_
  rintro e w6 ⟨⟨v6, rfl, hown6⟩, hb6⟩
  obtain ⟨a6, c6, rfl⟩ := owns_shape hown6
  clear hown6
  have HB := Lib.hid (((((hb1.trans (hb2.mono hw1)).trans (hb3.mono (by omega))).trans (hb4.mono (by omega))).trans (hb5.mono (by omega))).trans (hb6.mono (by omega)))
  clear hb1 hb2 hb3 hb4 hb5 hb6
  have u1 := HPL.out
  have u2 := HQL.out
  have u3 := leaveP_len t L true
  have u4 := leaveP_len (t + g) L true
  generalize startP t t o 0 L = x at *
  generalize startP (t + g) (t + g) o 0 L = y at *
  generalize (leaveP t true L).length = l1 at *
  generalize (leaveP (t + g) true L).length = l2 at *
  have e3 : decide (y ≤ x) = true := by simp; omega
  have e4 : decide (l2 ≤ l1) = true := by simp; omega
  go_wp2_with fail
  go_ret
  exact ⟨by first | rfl | (simp; done) | (simp; omega), HB.out⟩

theorem more_all (a : Option Addr) (n cap : Nat) (zs : List Int) (a2 b2 o : Int) (w : World) (h : IsRow w a n cap zs) :
    Calls Tryd.prog 8 #[.slice a n cap, .int .i64 a2, .int .i64 b2, .int .i64 o] w fun e w' => e = .returned (.bool true) ∧ Below w.heap.size w w' := by
  rcases h with ⟨rfl, rfl, rfl, rfl⟩ | ⟨x, rfl, hl, hm, hz, hcell, hwz⟩
  · exact more_out _ _ _ _ _ _ _ (.inl rfl) (by omega)
  · by_cases hn : n = 0 ∨ 20 < n
    · exact more_out _ _ _ _ _ _ _ hn (by unfold maxLen at hm; omega)
    · obtain ⟨b, off, hx, hb, hc⟩ := row_open hcell (by omega)
      rw [hx]
      exact more_in b off n cap zs a2 b2 o w (by omega) (by omega) hb (fun i hi => hc i (by omega))

end Go.Proofs.YtnbggdpbgibpoaaDoor.Kp
