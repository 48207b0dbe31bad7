/- What a store into a field of a segment does; a row of segments with some turned. -/
import Derived.Test.YtnbggdpbgibpoaaDoorKeepBoth
namespace Go.Proofs.YtnbggdpbgibpoaaDoor.Kp
open Go.RowKit

/-- A store into field j of segment k. -/
theorem segsAt_set {w : World} {g k j : Nat} {L : List Sg} {x x' : Sg} {v : Value} (h : SegsAt w g 0 L) (hk : L[k]? = some x) (hj : j < 7)
    (hv : x'.cells = x.cells.set j v) : SegsAt (w.setCell ⟨g, k * 7 + j, none⟩ v) g 0 (L.set k x') := by
  have c : ∀ (m : Nat) (y : Sg), L[m]? = some y → ∀ i u, y.cells[i]? = some u → w.cell? ⟨g, 0 + m * 7 + i, none⟩ = some u := by
    intro m y hm i u hi
    obtain ⟨a0, a1, a2, a3, a4, a5, a6⟩ := h m y hm
    match i, hi with
    | 0, hi => simp [Sg.cells] at hi; subst hi; exact a0
    | 1, hi => simp [Sg.cells] at hi; subst hi; exact a1
    | 2, hi => simp [Sg.cells] at hi; subst hi; exact a2
    | 3, hi => simp [Sg.cells] at hi; subst hi; exact a3
    | 4, hi => simp [Sg.cells] at hi; subst hi; exact a4
    | 5, hi => simp [Sg.cells] at hi; subst hi; exact a5
    | 6, hi => simp [Sg.cells] at hi; subst hi; exact a6
    | i + 7, hi => simp [Sg.cells] at hi
  have d : ∀ (m : Nat) (y : Sg), (L.set k x')[m]? = some y → ∀ i u, y.cells[i]? = some u → (w.setCell ⟨g, k * 7 + j, none⟩ v).cell? ⟨g, 0 + m * 7 + i, none⟩ = some u := by
    intro m y hm i u hi
    have hil : i < 7 := by have := (List.getElem?_eq_some_iff.1 hi).1; simpa [Sg.cells] using this
    by_cases e : m = k
    · subst e
      rw [List.getElem?_set_self (List.getElem?_eq_some_iff.1 hk).1] at hm
      obtain rfl := Option.some.inj hm
      rw [hv] at hi
      by_cases ej : i = j
      · subst ej
        rw [List.getElem?_set_self (by simp [Sg.cells]; omega)] at hi
        obtain rfl := Option.some.inj hi
        rw [show 0 + m * 7 + i = m * 7 + i from by omega]
        obtain ⟨u0, hu0⟩ : ∃ u0, x.cells[i]? = some u0 := ⟨_, List.getElem?_eq_getElem (by simp [Sg.cells]; omega)⟩
        have hc := c m x hk i u0 hu0
        rw [show 0 + m * 7 + i = m * 7 + i from by omega] at hc
        exact World.cell?_setCell_same _ _ _ hc
      · rw [List.getElem?_set_ne (by omega)] at hi
        rw [World.cell?_setCell_other _ _ _ _ (by first | (simp; done) | (simp; omega))]
        exact c m x hk i u hi
    · rw [List.getElem?_set_ne (by omega)] at hm
      rw [World.cell?_setCell_other _ _ _ _ (by first | (simp; done) | (simp; omega))]
      exact c m y hm i u hi
  intro m y hm
  exact ⟨d m y hm 0 _ rfl, d m y hm 1 _ rfl, d m y hm 2 _ rfl, d m y hm 3 _ rfl, d m y hm 4 _ rfl, d m y hm 5 _ rfl, d m y hm 6 _ rfl⟩

theorem segsAt_frozen {w : World} {g n : Nat} {cur : Array Value} {e : TypeId} (h : w.heap[g]? = some (.cells cur e (0, 0))) (o : Nat) (_ : o = n) : w.frozen? ⟨g, o, none⟩ = false := by
  simp [World.frozen?, h]

/-- Only the flags have turned. -/
structure Flags (L M : List Sg) : Prop where
  len : M.length = L.length
  b : ∀ (k : Nat) x y, L[k]? = some x → M[k]? = some y → y.b = x.b ∧ y.e = x.e ∧ y.z = x.z ∧ y.t = x.t

theorem Flags.refl (L : List Sg) : Flags L L := ⟨rfl, fun k x y h1 h2 => by rw [h1] at h2; obtain rfl := Option.some.inj h2; exact ⟨rfl, rfl, rfl, rfl⟩⟩

theorem Flags.set {L M : List Sg} (h : Flags L M) {k : Nat} {x x' : Sg} (hk : M[k]? = some x) (h1 : x'.b = x.b) (h2 : x'.e = x.e) (h3 : x'.z = x.z) (h4 : x'.t = x.t) : Flags L (M.set k x') := by
  refine ⟨by rw [List.length_set]; exact h.len, fun m a y ha hy => ?_⟩
  by_cases e : m = k
  · subst e
    rw [List.getElem?_set_self (List.getElem?_eq_some_iff.1 hk).1] at hy
    obtain rfl := Option.some.inj hy
    have := h.b m a x ha hk
    rw [h1, h2, h3, h4]; exact this
  · rw [List.getElem?_set_ne (by omega)] at hy
    exact h.b m a y ha hy

theorem Flags.fair {L M : List Sg} (h : Flags L M) (hf : KFair L) : KFair M := by
  have old : ∀ (k : Nat) y, M[k]? = some y → ∃ x, L[k]? = some x ∧ y.b = x.b ∧ y.e = x.e ∧ y.z = x.z ∧ y.t = x.t := by
    intro k y hy
    have hk := (List.getElem?_eq_some_iff.1 hy).1
    obtain ⟨x, hx⟩ : ∃ x, L[k]? = some x := ⟨_, List.getElem?_eq_getElem (by rw [← h.len]; exact hk)⟩
    exact ⟨x, hx, h.b k x y hx hy⟩
  refine ⟨fun y hy => ?_, fun k y hy => ?_, fun k y hy hk => ?_, fun k y z hy hz => ?_⟩
  · obtain ⟨k, hk⟩ := List.getElem?_of_mem hy
    obtain ⟨x, hx, e1, e2, e3, e4⟩ := old k y hk
    have := hf.ok x (List.mem_of_getElem? hx)
    unfold Sg.ok at *
    rw [e1, e2, e3, e4]; exact this
  · obtain ⟨x, hx, e1, e2, e3, e4⟩ := old k y hy
    rw [e1, e2]; exact hf.rise k x hx
  · obtain ⟨x, hx, e1, e2, e3, e4⟩ := old k y hy
    rw [e1, e2]; exact hf.full k x hx (by rw [← h.len]; exact hk)
  · obtain ⟨x, hx, e1, e2, e3, e4⟩ := old k y hy
    obtain ⟨u, hu, f1, f2, f3, f4⟩ := old (k + 1) z hz
    rw [f1, e2]; exact hf.chain k x u hx hu

end Go.Proofs.YtnbggdpbgibpoaaDoor.Kp
