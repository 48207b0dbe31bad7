/- Plain laws: where a log of rows drawn by the statements starts. -/
import Derived.Test.YtnbggdpbgibpoaaDoorKeepF
namespace Go.Proofs.YtnbggdpbgibpoaaDoor.Kp
open Go.RowKit

/-- From k on, as far as P holds, d steps at most. -/
def stopAt (P : Nat → Bool) : Nat → Nat → Nat
  | 0, k => k
  | d + 1, k => if P k = true then stopAt P d (k + 1) else k

theorem stop_spec (P : Nat → Bool) (d : Nat) : ∀ k, k ≤ stopAt P d k ∧ stopAt P d k ≤ k + d ∧ (∀ j, k ≤ j → j < stopAt P d k → P j = true) ∧ (stopAt P d k < k + d → P (stopAt P d k) = false) := by
  induction d with
  | zero => intro k; simp only [stopAt]; exact ⟨by omega, by omega, fun j _ _ => by omega, fun _ => by omega⟩
  | succ d ih =>
    intro k
    simp only [stopAt]
    by_cases h : P k = true
    · rw [if_pos h]
      obtain ⟨h1, h2, h3, h4⟩ := ih (k + 1)
      refine ⟨by omega, by omega, fun j hj hlt => ?_, fun hlt => h4 (by omega)⟩
      by_cases e : j = k
      · rw [e]; exact h
      · exact h3 j (by omega) hlt
    · rw [if_neg h]
      exact ⟨by omega, by omega, fun j _ _ => by omega, fun _ => by simpa using h⟩

/-- What a segment of a row is asked: is it too much, or too old? -/
def goes (tot age now : Int) (L : List Sg) (k : Nat) : Bool := muchB tot (L.drop k) || (match L[k]? with | some x => oldB age now x.t | none => false)

/-- A list of segments of ten offsets each, all but the last one sealed. -/
structure Tens (L : List Sg) : Prop where
  e : ∀ (k : Nat) x, L[k]? = some x → k + 1 < L.length → x.e = 10 * k + 10
  s : ∀ (k : Nat) x, L[k]? = some x → k + 1 < L.length → x.s = true

theorem startP_stop (tot age now : Int) (L : List Sg) (hL : Tens L) (d : Nat) : ∀ (k : Nat) (s : Int), k + d + 1 = L.length → 10 * (k : Int) ≤ s →
    startP tot age now s (L.drop k) = max s (10 * (stopAt (goes tot age now L) d k : Nat)) := by
  induction d with
  | zero =>
    intro k s hk hs
    obtain ⟨x, hx⟩ : ∃ x, L[k]? = some x := ⟨_, List.getElem?_eq_getElem (by omega)⟩
    have hdr : L.drop k = x :: L.drop (k + 1) := by rw [List.drop_eq_getElem_cons (by omega)]; congr 1; exact Option.some.inj ((List.getElem?_eq_getElem (by omega)).symm.trans hx)
    rw [hdr, startP, if_pos (by simp; omega)]
    simp only [stopAt]; omega
  | succ d ih =>
    intro k s hk hs
    obtain ⟨x, hx⟩ : ∃ x, L[k]? = some x := ⟨_, List.getElem?_eq_getElem (by omega)⟩
    have hdr : L.drop k = x :: L.drop (k + 1) := by rw [List.drop_eq_getElem_cons (by omega)]; congr 1; exact Option.some.inj ((List.getElem?_eq_getElem (by omega)).symm.trans hx)
    have hg : goes tot age now L k = (muchB tot (x :: L.drop (k + 1)) || oldB age now x.t) := by simp only [goes, hx, hdr]
    rw [hdr, startP, if_neg (by simp; omega), if_neg (by rw [hL.s k x hx (by omega)]; decide)]
    simp only [stopAt]
    by_cases h : goes tot age now L k = true
    · rw [if_pos h]
      rw [hg, Bool.or_eq_true] at h
      rw [if_neg (by rintro ⟨h1, h2⟩; rw [h1, h2] at h; simp at h), hL.e k x hx (by omega), ih (k + 1) _ (by omega) (by omega)]
      have := (stop_spec (goes tot age now L) d (k + 1)).1
      omega
    · rw [if_neg h]
      rw [hg] at h
      simp only [Bool.or_eq_true, not_or, Bool.not_eq_true] at h
      rw [if_pos h]; omega

theorem rowTo_tens (n : Nat) (step : Int) (zs : List Int) : Tens (rowTo n step zs n) := by
  constructor
  · intro k x hx hk
    rw [rowTo_len] at hk
    rw [rowTo_get _ _ _ _ _ (by omega)] at hx
    obtain rfl := Option.some.inj hx
    rfl
  · intro k x hx hk
    rw [rowTo_len] at hk
    rw [rowTo_get _ _ _ _ _ (by omega)] at hx
    obtain rfl := Option.some.inj hx
    simp [rowSeg, hk]

theorem rowTo_fair (n : Nat) (step : Int) (zs : List Int) (hn : n ≤ 1000) (h0 : 0 ≤ step) (h1 : step ≤ 1000) : KFair (rowTo n step zs n) := by
  have get : ∀ (k : Nat) x, (rowTo n step zs n)[k]? = some x → k < n ∧ x = rowSeg n step k (zs.getD k 0) := by
    intro k x hx
    have hk := (List.getElem?_eq_some_iff.1 hx).1
    rw [rowTo_len] at hk
    rw [rowTo_get _ _ _ _ _ hk] at hx
    exact ⟨hk, (Option.some.inj hx).symm⟩
  refine ⟨fun x hx => ?_, fun k x hx => ?_, fun k x hx _ => ?_, fun k x y hx hy => ?_⟩
  · obtain ⟨k, hk⟩ := List.getElem?_of_mem hx
    obtain ⟨hk, rfl⟩ := get k x hk
    have a := Int.emod_nonneg (zs.getD k 0) (b := 100) (by omega)
    have b := Int.emod_lt_of_pos (zs.getD k 0) (b := 100) (by omega)
    have c : 0 ≤ (k : Int) * step ∧ (k : Int) * step ≤ 1000 * 1000 := ⟨Int.mul_nonneg (by omega) h0, Int.mul_le_mul (by omega) h1 h0 (by omega)⟩
    simp only [Sg.ok, rowSeg]
    omega
  · obtain ⟨_, rfl⟩ := get k x hx; simp only [rowSeg]; omega
  · obtain ⟨_, rfl⟩ := get k x hx; simp only [rowSeg]; omega
  · obtain ⟨_, rfl⟩ := get k x hx; obtain ⟨_, rfl⟩ := get (k + 1) y hy; simp only [rowSeg]; omega

theorem rowTo_start (n : Nat) (step tot age now s : Int) (zs : List Int) (hn : 1 ≤ n) (hs : 0 ≤ s) :
    startP tot age now s (rowTo n step zs n) = max s (10 * (stopAt (goes tot age now (rowTo n step zs n)) (n - 1) 0 : Nat)) := by
  have := startP_stop tot age now (rowTo n step zs n) (rowTo_tens n step zs) (n - 1) 0 s (by rw [rowTo_len]; omega) (by omega)
  simpa using this

/-- A predicate that falls stops first: two together stop where the later one does. -/
theorem stop_or (P Q : Nat → Bool) (hP : ∀ k, P (k + 1) = true → P k = true) (hQ : ∀ k, Q (k + 1) = true → Q k = true) (d : Nat) : ∀ k,
    stopAt (fun j => P j || Q j) d k = max (stopAt P d k) (stopAt Q d k) := by
  have down : ∀ (R : Nat → Bool), (∀ k, R (k + 1) = true → R k = true) → ∀ k j, k ≤ j → R j = true → R k = true := by
    intro R hR k j hkj
    induction j with
    | zero => intro h; obtain rfl : k = 0 := by omega
              exact h
    | succ j ih =>
      intro h
      by_cases e : k = j + 1
      · rw [e]; exact h
      · exact ih (by omega) (hR j h)
  intro k
  obtain ⟨a1, a2, a3, a4⟩ := stop_spec P d k
  obtain ⟨b1, b2, b3, b4⟩ := stop_spec Q d k
  obtain ⟨c1, c2, c3, c4⟩ := stop_spec (fun j => P j || Q j) d k
  generalize stopAt P d k = a at *
  generalize stopAt Q d k = b at *
  generalize stopAt (fun j => P j || Q j) d k = c at *
  rcases Nat.lt_trichotomy c (max a b) with h | h | h
  · have h4 := c4 (by omega)
    simp only [Bool.or_eq_false_iff] at h4
    by_cases e : c < a
    · have := a3 c c1 e; rw [h4.1] at this; cases this
    · have := b3 c c1 (by omega); rw [h4.2] at this; cases this
  · exact h
  · have hm := c3 (max a b) (by omega) h
    simp only [Bool.or_eq_true] at hm
    rcases hm with hm | hm
    · have h1 := down P hP a (max a b) (by omega) hm
      rw [a4 (by omega)] at h1; cases h1
    · have h1 := down Q hQ b (max a b) (by omega) hm
      rw [b4 (by omega)] at h1; cases h1

theorem sumZ_drop (L : List Sg) (hz : ∀ x ∈ L, 0 ≤ x.z) (k : Nat) : sumZ (L.drop (k + 1)) ≤ sumZ (L.drop k) := by
  by_cases h : k < L.length
  · rw [List.drop_eq_getElem_cons h, sumZ]
    have := hz L[k] (List.getElem_mem h)
    omega
  · rw [List.drop_of_length_le (by omega), List.drop_of_length_le (by omega)]; omega

theorem much_falls (tot : Int) (L : List Sg) (hz : ∀ x ∈ L, 0 ≤ x.z) (k : Nat) (h : muchB tot (L.drop (k + 1)) = true) : muchB tot (L.drop k) = true := by
  have := sumZ_drop L hz k
  simp only [muchB, Bool.and_eq_true, bne_iff_ne, ne_eq, decide_eq_true_eq] at h ⊢
  exact ⟨h.1, by omega⟩

theorem oldB_iff (age now t : Int) : oldB age now t = true ↔ age ≠ -1 ∧ t + age < now := by simp [oldB]

def oldAt (age now : Int) (L : List Sg) (k : Nat) : Bool := match L[k]? with | some x => oldB age now x.t | none => false

theorem old_falls (n : Nat) (step age now : Int) (zs : List Int) (h0 : 0 ≤ step) (k : Nat) (h : oldAt age now (rowTo n step zs n) (k + 1) = true) : oldAt age now (rowTo n step zs n) k = true := by
  unfold oldAt at *
  by_cases hk : k + 1 < n
  · rw [rowTo_get _ _ _ _ _ hk] at h
    rw [rowTo_get _ _ _ _ _ (by omega)]
    have e : ((k + 1 : Nat) : Int) * step = (k : Int) * step + step := by rw [Int.natCast_add, Int.add_mul]; simp
    have h' : oldB age now (((k + 1 : Nat) : Int) * step) = true := h
    show oldB age now ((k : Int) * step) = true
    rw [oldB_iff] at h' ⊢
    exact ⟨h'.1, by omega⟩
  · rw [List.getElem?_eq_none (by rw [rowTo_len]; omega)] at h; cases h

/-- KeepBoth's plain law. -/
theorem both_plain (n : Nat) (tot age now : Int) (zs : List Int) (hn : 1 ≤ n) (hn2 : n ≤ 1000) :
    startP tot age now 0 (rowTo n 10 zs n) = max (startP tot (-1) now 0 (rowTo n 10 zs n)) (startP (-1) age now 0 (rowTo n 10 zs n)) := by
  rw [rowTo_start n 10 tot age now 0 zs hn (by omega), rowTo_start n 10 tot (-1) now 0 zs hn (by omega), rowTo_start n 10 (-1) age now 0 zs hn (by omega)]
  have hz : ∀ x ∈ rowTo n 10 zs n, 0 ≤ x.z := fun x hx => ((rowTo_fair n 10 zs hn2 (by omega) (by omega)).zs x hx).1
  have e1 : goes tot age now (rowTo n 10 zs n) = fun j => muchB tot ((rowTo n 10 zs n).drop j) || oldAt age now (rowTo n 10 zs n) j := rfl
  have e2 : goes tot (-1) now (rowTo n 10 zs n) = fun j => muchB tot ((rowTo n 10 zs n).drop j) := by
    funext j
    have : ∀ o : Option Sg, (match o with | some x => oldB (-1) now x.t | none => false) = false := by intro o; cases o <;> rfl
    simp only [goes, this, Bool.or_false]
  have e3 : goes (-1) age now (rowTo n 10 zs n) = oldAt age now (rowTo n 10 zs n) := by
    funext j
    have : muchB (-1) ((rowTo n 10 zs n).drop j) = false := rfl
    simp only [goes, this, Bool.false_or, oldAt]
  rw [e1, e2, e3, stop_or _ _ (fun k => much_falls tot _ hz k) (fun k => old_falls n 10 age now zs (by omega) k)]
  omega

end Go.Proofs.YtnbggdpbgibpoaaDoor.Kp
