/- Contracts of keep.sum with each of its two tests. -/
import Derived.Test.YtnbggdpbgibpoaaDoorKeepB
namespace Go.Proofs.YtnbggdpbgibpoaaDoor.Kp
open Go.RowKit

def sumZ : List Sg → Int
  | [] => 0
  | x :: l => x.z + sumZ l
def sumH : List Sg → Int
  | [] => 0
  | x :: l => (if x.h then x.z else 0) + sumH l

theorem sumZ_snoc (l : List Sg) (x : Sg) : sumZ (l ++ [x]) = sumZ l + x.z := by
  induction l with
  | nil => simp [sumZ]
  | cons y l ih => simp only [List.cons_append, sumZ, ih]; omega
theorem sumH_snoc (l : List Sg) (x : Sg) : sumH (l ++ [x]) = sumH l + (if x.h then x.z else 0) := by
  induction l with
  | nil => simp [sumH]
  | cons y l ih => simp only [List.cons_append, sumH, ih]; omega
theorem take_one {L : List Sg} {k : Nat} {x : Sg} (h : L[k]? = some x) : L.take (k + 1) = L.take k ++ [x] := by
  rw [List.take_add_one, h]; rfl
theorem sumZ_bd (l : List Sg) (n : Nat) (hn : l.length ≤ n) (h : ∀ x ∈ l, 0 ≤ x.z ∧ x.z ≤ 1099511627776) : 0 ≤ sumZ l ∧ sumZ l ≤ n * 1099511627776 := by
  induction l generalizing n with
  | nil => simp only [sumZ]; omega
  | cons y l ih =>
    obtain ⟨n, rfl⟩ : ∃ m, n = m + 1 := ⟨n - 1, by simp at hn; omega⟩
    have h1 := ih n (by simpa using hn) (fun x hx => h x (by simp [hx]))
    have h2 := h y (by simp)
    simp only [sumZ]; omega
theorem sumH_bd (l : List Sg) (n : Nat) (hn : l.length ≤ n) (h : ∀ x ∈ l, 0 ≤ x.z ∧ x.z ≤ 1099511627776) : 0 ≤ sumH l ∧ sumH l ≤ n * 1099511627776 := by
  induction l generalizing n with
  | nil => simp only [sumH]; omega
  | cons y l ih =>
    obtain ⟨n, rfl⟩ : ∃ m, n = m + 1 := ⟨n - 1, by simp at hn; omega⟩
    have h1 := ih n (by simpa using hn) (fun x hx => h x (by simp [hx]))
    have h2 := h y (by simp)
    simp only [sumH]; split <;> omega

set_option maxHeartbeats 400000 in
theorem all_any (a b c d : Int) (e f g : Bool) (w : World) :
    Calls Tryd.prog 21 #[.agg #[.int .i64 a, .int .i64 b, .int .i64 c, .int .i64 d, .bool e, .bool f, .bool g]] w fun e w' => e = .returned (.bool true) ∧ Below w.heap.size w w' := by
  go_enter Tryd.func21, Tryd.ntmps21
  go_wp2
  go_ret
  exact ⟨rfl, (Below.refl _ _).alloc (Nat.le_refl _) _⟩

set_option maxHeartbeats 400000 in
theorem here_any (a b c d : Int) (e f g : Bool) (w : World) :
    Calls Tryd.prog 23 #[.agg #[.int .i64 a, .int .i64 b, .int .i64 c, .int .i64 d, .bool e, .bool f, .bool g]] w fun e w' => e = .returned (.bool f) ∧ Below w.heap.size w w' := by
  go_enter Tryd.func23, Tryd.ntmps23
  go_wp2
  go_ret
  exact ⟨rfl, (Below.refl _ _).alloc (Nat.le_refl _) _⟩

set_option maxHeartbeats 1000000 in
theorem sum_all (g off cap : Nat) (L : List Sg) (w : World) (hn : L.length ≤ 1000) (hg : g < w.heap.size) (hat : SegsAt w g off L) (hz : ∀ x ∈ L, 0 ≤ x.z ∧ x.z ≤ 1099511627776) :
    Calls Tryd.prog 22 #[.slice (some ⟨g, off, none⟩) L.length cap, .func (.func 21) #[] #[]] w fun e w' => e = .returned (.int .i64 (sumZ L)) ∧ Below w.heap.size w w' := by
  go_enter Tryd.func22, Tryd.ntmps22
  go_wp2
  go_loopw [5, 10] (fun s i wr => ∃ k : Nat, k ≤ L.length ∧ i = .int .i64 k ∧ s = .int .i64 (sumZ (L.take k)) ∧ Below w.heap.size w wr) (fun _ i _ => L.length - (intOf i).toNat)
  case atStart => exact ⟨0, by omega, rfl, rfl, Below.refl _ _⟩
  case round wr =>
    obtain ⟨k, hk, rfl, rfl, hb⟩ := hrel
    by_cases hlt : k < L.length
    · obtain ⟨x, hx⟩ : ∃ x, L[k]? = some x := ⟨_, List.getElem?_eq_getElem hlt⟩
      obtain ⟨a0, a1, a2, a3, a4, a5, a6⟩ := (hat k x hx).below hb hg
      obtain ⟨z0, z1⟩ := hz x (List.mem_of_getElem? hx)
      obtain ⟨s0, s1⟩ := sumZ_bd (L.take k) 1000 (by simp; omega) (fun y hy => hz y (List.mem_of_mem_take hy))
      have ht := sumZ_snoc (L.take k) x
      rw [← take_one hx] at ht
      generalize sumZ (L.take k) = s at *
      have HT := Lib.hid ht
      have hwr := hb.size
      clear ht hat hz hx
      go_wp2_with fail
      refine (all_any _ _ _ _ _ _ _ _).mono ?_
      rintro e w1 ⟨rfl, hb1⟩
      have c2 := (hb1.cell (p := ⟨wr.heap.size, 2, none⟩) (by simp)).trans (show _ = some (Value.int .i64 x.z) by go_simp)
      go_wp2
      go_roundw
      case rel => exact ⟨k + 1, by omega, by go_num, by rw [HT.out], (hb.alloc hwr _).trans (hb1.mono (by simp; omega))⟩
      case measure => simp [intOf]; omega
    · go_wp2
      go_ret
      obtain rfl : k = L.length := by omega
      exact ⟨ret_int (by rw [List.take_length]), hb⟩

set_option maxHeartbeats 1000000 in
theorem sum_here (g off cap : Nat) (L : List Sg) (w : World) (hn : L.length ≤ 1000) (hg : g < w.heap.size) (hat : SegsAt w g off L) (hz : ∀ x ∈ L, 0 ≤ x.z ∧ x.z ≤ 1099511627776) :
    Calls Tryd.prog 22 #[.slice (some ⟨g, off, none⟩) L.length cap, .func (.func 23) #[] #[]] w fun e w' => e = .returned (.int .i64 (sumH L)) ∧ Below w.heap.size w w' := by
  go_enter Tryd.func22, Tryd.ntmps22
  go_wp2
  go_loopw [5, 10] (fun s i wr => ∃ k : Nat, k ≤ L.length ∧ i = .int .i64 k ∧ s = .int .i64 (sumH (L.take k)) ∧ Below w.heap.size w wr) (fun _ i _ => L.length - (intOf i).toNat)
  case atStart => exact ⟨0, by omega, rfl, rfl, Below.refl _ _⟩
  case round wr =>
    obtain ⟨k, hk, rfl, rfl, hb⟩ := hrel
    by_cases hlt : k < L.length
    · obtain ⟨x, hx⟩ : ∃ x, L[k]? = some x := ⟨_, List.getElem?_eq_getElem hlt⟩
      obtain ⟨a0, a1, a2, a3, a4, a5, a6⟩ := (hat k x hx).below hb hg
      obtain ⟨z0, z1⟩ := hz x (List.mem_of_getElem? hx)
      obtain ⟨s0, s1⟩ := sumH_bd (L.take k) 1000 (by simp; omega) (fun y hy => hz y (List.mem_of_mem_take hy))
      have ht := sumH_snoc (L.take k) x
      rw [← take_one hx] at ht
      generalize sumH (L.take k) = s at *
      have HT := Lib.hid ht
      have hwr := hb.size
      clear ht hat hz hx
      go_wp2_with fail
      refine (here_any _ _ _ _ _ _ _ _).mono ?_
      rintro e w1 ⟨rfl, hb1⟩
      cases hh : x.h
      · have HH := Lib.hid hh
        clear a0 a1 a2 a3 a4 a5 a6
        have c2 := (hb1.cell (p := ⟨wr.heap.size, 2, none⟩) (by simp)).trans (show _ = some (Value.int .i64 x.z) by go_simp)
        go_wp2
        go_roundw
        case rel => exact ⟨k + 1, by omega, by go_num, by rw [HT.out]; rw [HH.out]; simp, (hb.alloc hwr _).trans (hb1.mono (by simp; omega))⟩
        case measure => simp [intOf]; omega
      · have HH := Lib.hid hh
        clear a0 a1 a2 a3 a4 a5 a6
        have c2 := (hb1.cell (p := ⟨wr.heap.size, 2, none⟩) (by simp)).trans (show _ = some (Value.int .i64 x.z) by go_simp)
        go_wp2
        go_roundw
        case rel => exact ⟨k + 1, by omega, by go_num, by rw [HT.out]; rw [HH.out]; simp, (hb.alloc hwr _).trans (hb1.mono (by simp; omega))⟩
        case measure => simp [intOf]; omega
    · go_wp2
      go_ret
      obtain rfl : k = L.length := by omega
      exact ⟨ret_int (by rw [List.take_length]), hb⟩

/-- The sum of what stands from segment k on. -/
theorem sum_all_from (g off cap n k : Nat) (L : List Sg) (w : World) (hln : L.length = n) (hn : n ≤ 1000) (hg : g < w.heap.size) (hat : SegsAt w g off L) (hz : ∀ x ∈ L, 0 ≤ x.z ∧ x.z ≤ 1099511627776) :
    Calls Tryd.prog 22 #[.slice (some ⟨g, off + k * 7, none⟩) (n - k) cap, .func (.func 21) #[] #[]] w fun e w' => e = .returned (.int .i64 (sumZ (L.drop k))) ∧ Below w.heap.size w w' := by
  have h := sum_all g (off + k * 7) cap (L.drop k) w (by simp; omega) hg (fun j x hj => by
    rw [List.getElem?_drop] at hj
    have := hat (k + j) x hj
    rwa [show off + (k + j) * 7 = off + k * 7 + j * 7 from by omega] at this) (fun x hx => hz x (List.mem_of_mem_drop hx))
  rwa [List.length_drop, hln] at h

/-- The sum of what stands from segment k on. -/
theorem sum_here_from (g off cap n k : Nat) (L : List Sg) (w : World) (hln : L.length = n) (hn : n ≤ 1000) (hg : g < w.heap.size) (hat : SegsAt w g off L) (hz : ∀ x ∈ L, 0 ≤ x.z ∧ x.z ≤ 1099511627776) :
    Calls Tryd.prog 22 #[.slice (some ⟨g, off + k * 7, none⟩) (n - k) cap, .func (.func 23) #[] #[]] w fun e w' => e = .returned (.int .i64 (sumH (L.drop k))) ∧ Below w.heap.size w w' := by
  have h := sum_here g (off + k * 7) cap (L.drop k) w (by simp; omega) hg (fun j x hj => by
    rw [List.getElem?_drop] at hj
    have := hat (k + j) x hj
    rwa [show off + (k + j) * 7 = off + k * 7 + j * 7 from by omega] at this) (fun x hx => hz x (List.mem_of_mem_drop hx))
  rwa [List.length_drop, hln] at h

end Go.Proofs.YtnbggdpbgibpoaaDoor.Kp
