/- The plain law of KeepLocal. -/
import Derived.Test.YtnbggdpbgibpoaaDoorKeepSet
namespace Go.Proofs.YtnbggdpbgibpoaaDoor.Kp
open Go.RowKit

/-- A row of which one is not in the store, and the first m are not on the disk. -/
def locSeg (n hole m : Nat) (i : Nat) (z : Int) : Sg := ⟨10 * i, 10 * i + 10, z % 100, i * 1, decide (i + 1 < n), decide (m ≤ i), decide (i ≠ hole)⟩
def locTo (n hole m : Nat) (zs : List Int) : List Sg := (List.range n).map fun i => locSeg n hole m i (zs.getD i 0)

theorem locTo_len (n hole m : Nat) (zs : List Int) : (locTo n hole m zs).length = n := by simp [locTo]
theorem locTo_get (n hole m : Nat) (zs : List Int) (i : Nat) (h : i < n) : (locTo n hole m zs)[i]? = some (locSeg n hole m i (zs.getD i 0)) := by simp [locTo, h]

theorem loc_flags (n hole m : Nat) (zs : List Int) : Flags (rowTo n 1 zs n) (locTo n hole m zs) := by
  refine ⟨by rw [locTo_len, rowTo_len], fun k x y hx hy => ?_⟩
  have hk := (List.getElem?_eq_some_iff.1 hx).1
  rw [rowTo_len] at hk
  rw [rowTo_get _ _ _ _ _ hk] at hx
  rw [locTo_get _ _ _ _ _ hk] at hy
  obtain rfl := Option.some.inj hx
  obtain rfl := Option.some.inj hy
  exact ⟨rfl, rfl, rfl, rfl⟩

theorem loc_hole (n hole : Nat) (zs : List Int) (h : hole < n) : (rowTo n 1 zs n).set hole { rowSeg n 1 hole (zs.getD hole 0) with r := false } = locTo n hole 0 zs := by
  apply List.ext_getElem?
  intro i
  by_cases hi : i < n
  · rw [locTo_get _ _ _ _ _ hi]
    by_cases e : i = hole
    · subst e
      rw [List.getElem?_set_self (by rw [rowTo_len]; exact hi)]
      simp [locSeg, rowSeg]
    · rw [List.getElem?_set_ne (by omega), rowTo_get _ _ _ _ _ hi]
      simp [locSeg, rowSeg, e]
  · rw [List.getElem?_eq_none (by rw [List.length_set, rowTo_len]; omega), List.getElem?_eq_none (by rw [locTo_len]; omega)]

theorem loc_here (n hole m : Nat) (zs : List Int) (h : m < n) : (locTo n hole m zs).set m { locSeg n hole m m (zs.getD m 0) with h := false } = locTo n hole (m + 1) zs := by
  apply List.ext_getElem?
  intro i
  by_cases hi : i < n
  · rw [locTo_get _ _ _ _ _ hi]
    by_cases e : i = m
    · subst e
      rw [List.getElem?_set_self (by rw [locTo_len]; exact hi)]
      simp [locSeg]
    · rw [List.getElem?_set_ne (by omega), locTo_get _ _ _ _ _ hi]
      have : decide (m ≤ i) = decide (m + 1 ≤ i) := by by_cases h : m ≤ i <;> simp [h] <;> omega
      simp [locSeg, this]
  · rw [List.getElem?_eq_none (by rw [List.length_set, locTo_len]; omega), List.getElem?_eq_none (by rw [locTo_len]; omega)]

/-- Is segment k let go? -/
def locP (hole : Nat) (loc : Int) (L : List Sg) (k : Nat) : Bool := decide (k ≠ hole) && decide (loc < sumZ (L.drop k))

theorem sumH_all (L : List Sg) (h : ∀ x ∈ L, x.h = true) : sumH L = sumZ L := by
  induction L with
  | nil => rfl
  | cons x l ih =>
    simp only [sumH, sumZ, ih (fun y hy => h y (by simp [hy])), h x (by simp), if_true]

theorem loc_leave (n hole m : Nat) (loc : Int) (zs : List Int) (h0 : 0 ≤ loc) (d : Nat) : ∀ k e, k + d + 1 = n → m ≤ k →
    leaveP loc e ((locTo n hole m zs).drop k) = (List.range' k (stopAt (locP hole loc (locTo n hole m zs)) d k - k)).map (fun (i : Nat) => 10 * (i : Int)) := by
  have sums : ∀ k, m ≤ k → sumH ((locTo n hole m zs).drop k) = sumZ ((locTo n hole m zs).drop k) := by
    intro k hk
    refine sumH_all _ fun x hx => ?_
    obtain ⟨i, hi⟩ := List.getElem?_of_mem hx
    rw [List.getElem?_drop] at hi
    have hil := (List.getElem?_eq_some_iff.1 hi).1
    rw [locTo_len] at hil
    rw [locTo_get _ _ _ _ _ hil] at hi
    obtain rfl := Option.some.inj hi
    simp [locSeg]; omega
  have cut : ∀ k, k < n → (locTo n hole m zs).drop k = locSeg n hole m k (zs.getD k 0) :: (locTo n hole m zs).drop (k + 1) := by
    intro k hk
    rw [List.drop_eq_getElem_cons (by rw [locTo_len]; exact hk)]
    congr 1
    exact Option.some.inj ((List.getElem?_eq_getElem (by rw [locTo_len]; exact hk)).symm.trans (locTo_get _ _ _ _ _ hk))
  induction d with
  | zero =>
    intro k e hk hm
    rw [cut k (by omega), leaveP, if_neg (by simp [locSeg]; omega), if_pos (.inl (by simp [locTo_len]; omega))]
    simp [stopAt]
  | succ d ih =>
    intro k e hk hm
    have hne : (locTo n hole m zs).drop (k + 1) ≠ [] := by simp [locTo_len]; omega
    have hs := sums k hm
    rw [cut k (by omega)] at hs ⊢
    rw [leaveP, if_neg (by simp [locSeg]; omega)]
    by_cases hp : locP hole loc (locTo n hole m zs) k = true
    · have hp' := hp
      simp only [locP, Bool.and_eq_true, decide_eq_true_eq, cut k (by omega)] at hp'
      rw [if_neg (by
        rintro (h | h | h | h | h | h)
        · exact hne h
        · simp [locSeg] at h; omega
        · simp [locSeg] at h; omega
        · simp [locSeg] at h; exact hp'.1 h
        · omega
        · omega), ih (k + 1) false (by omega) (by omega)]
      have h1 := (stop_spec (locP hole loc (locTo n hole m zs)) d (k + 1)).1
      simp only [stopAt, hp, if_true]
      rw [show stopAt (locP hole loc (locTo n hole m zs)) d (k + 1) - k = (stopAt (locP hole loc (locTo n hole m zs)) d (k + 1) - (k + 1)) + 1 from by omega, List.range'_succ]
      simp [locSeg]
    · have hp' := hp
      simp only [locP, Bool.and_eq_true, decide_eq_true_eq, not_and, cut k (by omega)] at hp'
      rw [if_pos (by
        by_cases e1 : k = hole
        · exact .inr (.inr (.inr (.inl (by simp [locSeg, e1]))))
        · have := hp' e1
          exact .inr (.inr (.inr (.inr (.inr (by omega))))))]
      simp only [stopAt, hp]
      simp

theorem loc_skip (n hole m : Nat) (loc : Int) (zs : List Int) (hm : m < n) (d : Nat) : ∀ k, k + d = m → leaveP loc true ((locTo n hole m zs).drop k) = leaveP loc true ((locTo n hole m zs).drop m) := by
  induction d with
  | zero => intro k hk; rw [show k = m from by omega]
  | succ d ih =>
    intro k hk
    rw [← ih (k + 1) (by omega), List.drop_eq_getElem_cons (i := k) (by rw [locTo_len]; omega), leaveP]
    have : (locTo n hole m zs)[k]'(by rw [locTo_len]; omega) = locSeg n hole m k (zs.getD k 0) :=
      Option.some.inj ((List.getElem?_eq_getElem (by rw [locTo_len]; omega)).symm.trans (locTo_get _ _ _ _ _ (by omega)))
    rw [if_pos ⟨by rw [this]; simp [locSeg]; omega, rfl⟩]

/-- KeepLocal's plain law. -/
theorem local_plain (n hole m : Nat) (loc : Int) (zs : List Int) (hm : m < n) (h0 : 0 ≤ loc) :
    ∃ st : Nat, leaveP loc true (locTo n hole m zs) = (List.range' m (st - m)).map (fun (i : Nat) => 10 * (i : Int)) ∧ m ≤ st ∧ st ≤ n - 1 ∧
      (∀ j, m ≤ j → j < st → j ≠ hole ∧ loc < sumZ ((locTo n hole m zs).drop j)) ∧ (st < n - 1 → st = hole ∨ sumZ ((locTo n hole m zs).drop st) ≤ loc) := by
  obtain ⟨h1, h2, h3, h4⟩ := stop_spec (locP hole loc (locTo n hole m zs)) (n - 1 - m) m
  refine ⟨stopAt (locP hole loc (locTo n hole m zs)) (n - 1 - m) m, ?_, h1, by omega, fun j hj hlt => ?_, fun hlt => ?_⟩
  · have := loc_skip n hole m loc zs hm m 0 (by omega)
    rw [List.drop_zero] at this
    rw [this, loc_leave n hole m loc zs h0 (n - 1 - m) m true (by omega) (by omega)]
  · have := h3 j hj hlt
    simpa only [locP, Bool.and_eq_true, decide_eq_true_eq] using this
  · have := h4 (by omega)
    simp only [locP, Bool.and_eq_false_iff, decide_eq_false_iff_not] at this
    rcases this with h | h
    · exact .inl (by omega)
    · exact .inr (by omega)

end Go.Proofs.YtnbggdpbgibpoaaDoor.Kp
