/- Contracts of the small functions of package keep, over numbers in range. -/
import Derived.Test.YtnbggdpbgibpoaaDoorRows
import Derived.WalkKit
import Derived.WalkSpells
import Derived.WalkLawsBesides
namespace Go.Proofs.YtnbggdpbgibpoaaDoor.Kp
open Go.RowKit

set_option maxHeartbeats 400000 in
theorem offset_yes (n : Int) (w : World) (h0 : 0 ≤ n) (h1 : n ≤ 1099511627776) :
    Calls Tryd.prog 19 #[.int .i64 n] w fun e w' => e = .returned (.bool true) ∧ w = w' := by
  go_enter Tryd.func19, Tryd.ntmps19
  go_wp2
  go_ret
  exact ⟨rfl, rfl⟩

set_option maxHeartbeats 400000 in
theorem time_yes (n : Int) (w : World) (h0 : -1099511627776 ≤ n) (h1 : n ≤ 1099511627776) :
    Calls Tryd.prog 18 #[.int .i64 n] w fun e w' => e = .returned (.bool true) ∧ w = w' := by
  go_enter Tryd.func18, Tryd.ntmps18
  go_wp2
  go_ret
  exact ⟨rfl, rfl⟩

theorem tmod_bd (n m : Int) (hm : 1 ≤ m) : -m < n.tmod m ∧ n.tmod m < m := by
  have h1 := Int.tmod_lt_of_pos n (b := m) (by omega)
  have h2 := Int.tmod_lt_of_pos (-n) (b := m) (by omega)
  rw [Int.neg_tmod] at h2
  omega

theorem kmod_neg (n m : Int) (hm : 1 ≤ m) (h : n.tmod m < 0) : n.tmod m + m = n % m := by
  have hb := tmod_bd n m hm
  have e : (n.tmod m + m) % m = n % m := by
    rw [Int.add_emod_right, Int.tmod_def, Int.sub_mul_emod_self_left]
  rw [← e, Int.emod_eq_of_lt (by omega) (by omega)]

theorem kmod_pos (n m : Int) (hm : 1 ≤ m) (h : 0 ≤ n.tmod m) : n.tmod m = n % m := by
  have hb := tmod_bd n m hm
  have e : (n.tmod m) % m = n % m := by
    rw [Int.tmod_def, Int.sub_mul_emod_self_left]
  rw [← e, Int.emod_eq_of_lt (by omega) (by omega)]

theorem ret_int {k : IntKind} {a b : Int} (h : a = b) : Ending.returned (.int k a) = .returned (.int k b) := by rw [h]

set_option maxHeartbeats 400000 in
theorem long_any (n m : Int) (w : World) (h0 : 1 ≤ m) (h1 : m ≤ 1099511627776) :
    Calls Tryd.prog 10 #[.int .i64 n, .int .i64 m] w fun e w' => e = .returned (.int .i64 (n % m)) ∧ w = w' := by
  obtain ⟨b1, b2⟩ := tmod_bd n m h0
  go_enter Tryd.func10, Tryd.ntmps10
  go_wp2
  · have hc : n.tmod m < 0 := by assumption
    go_ret
    exact ⟨ret_int (kmod_neg n m h0 hc), rfl⟩
  · have hc : 0 ≤ n.tmod m := by assumption
    go_ret
    exact ⟨ret_int (kmod_pos n m h0 hc), rfl⟩

set_option maxHeartbeats 400000 in
theorem number_any (n m : Int) (w : World) (h0 : 1 ≤ m) (h1 : m ≤ 1099511627776) :
    Calls Tryd.prog 13 #[.int .i64 n, .int .i64 m] w fun e w' => e = .returned (.int .i64 (n % m)) ∧ w = w' := by
  obtain ⟨b1, b2⟩ := tmod_bd n m h0
  go_enter Tryd.func13, Tryd.ntmps13
  go_wp2
  · have hc : n.tmod m < 0 := by assumption
    go_ret
    exact ⟨ret_int (kmod_neg n m h0 hc), rfl⟩
  · have hc : 0 ≤ n.tmod m := by assumption
    go_ret
    exact ⟨ret_int (kmod_pos n m h0 hc), rfl⟩

set_option maxHeartbeats 400000 in
theorem right_yes (n : Int) (w : World) (h0 : 0 ≤ n) (h1 : n ≤ 1099511627776) :
    Calls Tryd.prog 14 #[.int .i64 n] w fun e w' => e = .returned (.bool true) ∧ w = w' := by
  go_enter Tryd.func14, Tryd.ntmps14
  go_wp2
  go_ret
  exact ⟨rfl, rfl⟩

set_option maxHeartbeats 400000 in
theorem valid_yes (a b c : Int) (w : World) (a0 : -1 ≤ a) (a1 : a ≤ 1125899906842624) (b0 : -1 ≤ b) (b1 : b ≤ 1125899906842624) (c0 : -1 ≤ c) (c1 : c ≤ 1125899906842624) :
    Calls Tryd.prog 17 #[.agg #[.int .i64 a, .int .i64 b, .int .i64 c]] w fun e w' => e = .returned .nilIface ∧ Below w.heap.size w w' := by
  go_enter Tryd.func17, Tryd.ntmps17
  go_wp2
  go_loop [13] (fun i => ∃ k : Nat, k ≤ 3 ∧ i = .int .i64 k) (fun i => 3 - (intOf i).toNat)
  case atStart => exact ⟨0, by omega, rfl⟩
  case round =>
    obtain ⟨k, hk, rfl⟩ := hrel
    obtain rfl | rfl | rfl | rfl : k = 0 ∨ k = 1 ∨ k = 2 ∨ k = 3 := by omega
    · go_wp2
      go_round
      case rel => exact ⟨1, by omega, by go_num⟩
      case measure => simp [intOf]
    · go_wp2
      go_round
      case rel => exact ⟨2, by omega, by go_num⟩
      case measure => simp [intOf]
    · go_wp2
      go_round
      case rel => exact ⟨3, by omega, by go_num⟩
      case measure => simp [intOf]
    · go_wp2
      go_ret
      exact ⟨rfl, ((Below.refl _ _).alloc (Nat.le_refl _) _).alloc (by simp) _⟩

end Go.Proofs.YtnbggdpbgibpoaaDoor.Kp
