/- Contracts of keep.fair and keep.sum over a slice of segments. -/
import Derived.Test.YtnbggdpbgibpoaaDoorKeepA
import Derived.Deep.QuietTactic
import Derived.BigQuiet
import Derived.Lib.Hide
namespace Go.Proofs.YtnbggdpbgibpoaaDoor.Kp
open Go.RowKit

structure Sg where
  b : Int
  e : Int
  z : Int
  t : Int
  s : Bool
  h : Bool
  r : Bool

/-- Segment k of a row of cells. -/
def SegAt (w : World) (g o : Nat) (x : Sg) : Prop :=
  w.cell? ⟨g, o, none⟩ = some (.int .i64 x.b) ∧ w.cell? ⟨g, o + 1, none⟩ = some (.int .i64 x.e) ∧ w.cell? ⟨g, o + 2, none⟩ = some (.int .i64 x.z) ∧
  w.cell? ⟨g, o + 3, none⟩ = some (.int .i64 x.t) ∧ w.cell? ⟨g, o + 4, none⟩ = some (.bool x.s) ∧ w.cell? ⟨g, o + 5, none⟩ = some (.bool x.h) ∧ w.cell? ⟨g, o + 6, none⟩ = some (.bool x.r)

def SegsAt (w : World) (g off : Nat) (L : List Sg) : Prop := ∀ (k : Nat) x, L[k]? = some x → SegAt w g (off + k * 7) x

theorem SegAt.below {B : Nat} {w w' : World} {g o : Nat} {x : Sg} (h : SegAt w g o x) (hb : Below B w w') (hg : g < B) : SegAt w' g o x := by
  obtain ⟨a0, a1, a2, a3, a4, a5, a6⟩ := h
  exact ⟨(hb.cell hg).trans a0, (hb.cell hg).trans a1, (hb.cell hg).trans a2, (hb.cell hg).trans a3, (hb.cell hg).trans a4, (hb.cell hg).trans a5, (hb.cell hg).trans a6⟩

theorem SegsAt.below {B : Nat} {w w' : World} {g off : Nat} {L : List Sg} (h : SegsAt w g off L) (hb : Below B w w') (hg : g < B) : SegsAt w' g off L :=
  fun k x hk => (h k x hk).below hb hg

/-- A segment whose numbers are in range. -/
def Sg.ok (x : Sg) : Prop := 0 ≤ x.b ∧ x.b ≤ 1099511627776 ∧ 0 ≤ x.e ∧ x.e ≤ 1099511627776 ∧ -1099511627776 ≤ x.t ∧ x.t ≤ 1099511627776 ∧ 0 ≤ x.z ∧ x.z ≤ 1099511627776

structure KFair (L : List Sg) : Prop where
  ok : ∀ x ∈ L, x.ok
  rise : ∀ (k : Nat) x, L[k]? = some x → x.b ≤ x.e
  full : ∀ (k : Nat) x, L[k]? = some x → k + 1 < L.length → x.b < x.e
  chain : ∀ (k : Nat) x y, L[k]? = some x → L[k + 1]? = some y → y.b = x.e

set_option maxHeartbeats 1000000 in
theorem fair_yes (g off cap : Nat) (L : List Sg) (w : World) (hn : L.length ≤ 1000) (hg : g < w.heap.size) (hat : SegsAt w g off L) (hf : KFair L) :
    Calls Tryd.prog 20 #[.slice (some ⟨g, off, none⟩) L.length cap] w fun e w' => e = .returned .nilIface ∧ Below w.heap.size w w' := by
  go_enter Tryd.func20, Tryd.ntmps20
  go_wp2
  go_loopw [9] (fun i wr => ∃ k : Nat, k ≤ L.length ∧ i = .int .i64 k ∧ Below w.heap.size w wr) (fun i _ => L.length - (intOf i).toNat)
  case atStart => exact ⟨0, by omega, rfl, Below.refl _ _⟩
  case round =>
    obtain ⟨k, hk, rfl, hb⟩ := hrel
    by_cases hlt : k < L.length
    · obtain ⟨a0, a1, a2, a3, a4, a5, a6⟩ := (hat k L[k] (List.getElem?_eq_getElem hlt)).below hb hg
      obtain ⟨q0, q1, q2, q3, q4, q5, q6, q7⟩ := hf.ok L[k] (List.getElem_mem hlt)
      go_wp2_with (first | (go_at_call 19; refine (offset_yes _ _ (by assumption) (by assumption)).mono ?_; rintro e w' ⟨rfl, rfl⟩) | (go_at_call 18; refine (time_yes _ _ (by assumption) (by assumption)).mono ?_; rintro e w' ⟨rfl, rfl⟩))
      go_roundw
      case rel => exact ⟨k + 1, by omega, by go_num, by repeat (first | exact hb | (refine Below.setCell ?_ (by have := hb.size; simp; omega) _) | (refine Below.alloc ?_ (by have := hb.size; omega) _))⟩
      case measure => simp [intOf]; omega
    · go_wp2
      go_loopw [43] (fun i wq => ∃ k : Nat, k ≤ L.length ∧ i = .int .i64 k ∧ Below w.heap.size w wq) (fun i _ => L.length - (intOf i).toNat)
      case atStart => exact ⟨0, by omega, rfl, hb⟩
      case round wr =>
        obtain ⟨j, hj, rfl, hb2⟩ := hrel
        by_cases hlt2 : j < L.length
        · obtain ⟨x, hx⟩ : ∃ x, L[j]? = some x := ⟨_, List.getElem?_eq_getElem hlt2⟩
          obtain ⟨a0, a1, a2, a3, a4, a5, a6⟩ := (hat j x hx).below hb2 hg
          have hr := hf.rise j x hx
          have hxf := hf.full j x hx
          have hx1 : ∀ y, 0 < j → L[j - 1]? = some y → x.b = y.e := fun y h0 hy => hf.chain (j - 1) y x hy (by rw [show j - 1 + 1 = j from by omega]; exact hx)
          have hy0 : 0 < j → ∃ y, L[j - 1]? = some y := fun _ => ⟨_, List.getElem?_eq_getElem (by omega)⟩
          have hbe : x.b = x.e ∧ ¬ (j + 1 < L.length) ∨ x.b ≠ x.e := by
            by_cases h : x.b = x.e
            · exact .inl ⟨h, fun h' => by have := hxf h'; omega⟩
            · exact .inr h
          have e0 : decide (x.e < x.b) = false := by simp; omega
          have HX := Lib.hid hx
          clear hx hxf hr
          rcases hbe with ⟨hbe, hl⟩ | hbe
          · have e1 : (x.b == x.e) = true := by simpa using hbe
            have e2 : decide ((j : Int) < (L.length : Int) - 1) = false := by simp; omega
            clear hbe
            by_cases hj0 : j = 0
            · have e3 : decide (0 < j) = false := by simp; omega
              clear hj0 hx1 hy0 hf hat
              go_wp2
              go_quiet (fail)
              go_wp2
              go_roundw
              case rel => exact ⟨j + 1, by omega, by go_num, by repeat (first | exact hb2 | refine below_drewN ?_ _ | (refine Below.setCell ?_ (by have := hb2.size; simp; omega) _) | (refine Below.alloc ?_ (by have := hb2.size; omega) _))⟩
              case measure => simp [intOf]; omega
            · obtain ⟨y, hy⟩ := hy0 (by omega)
              have e4 : (x.b != y.e) = false := by simpa using hx1 y (by omega) hy
              obtain ⟨-, b1, -, -, -, -, -⟩ := (hat (j - 1) y hy).below hb2 hg
              have e3 : decide (0 < j) = true := by simp; omega
              have e5 : 1 ≤ j := by omega
              have e6 : g < wr.heap.size := by have := hb2.size; omega
              clear hj0 hx1 hy0 hf hat hy
              go_wp2
              go_quiet (fail)
              go_wp2
              go_roundw
              case rel => exact ⟨j + 1, by omega, by go_num, by repeat (first | exact hb2 | refine below_drewN ?_ _ | (refine Below.setCell ?_ (by have := hb2.size; simp; omega) _) | (refine Below.alloc ?_ (by have := hb2.size; omega) _))⟩
              case measure => simp [intOf]; omega
          · have e1 : (x.b == x.e) = false := by simpa using hbe
            clear hbe
            by_cases hj0 : j = 0
            · have e3 : decide (0 < j) = false := by simp; omega
              clear hj0 hx1 hy0 hf hat
              go_wp2
              go_quiet (fail)
              go_wp2
              go_roundw
              case rel => exact ⟨j + 1, by omega, by go_num, by repeat (first | exact hb2 | refine below_drewN ?_ _ | (refine Below.setCell ?_ (by have := hb2.size; simp; omega) _) | (refine Below.alloc ?_ (by have := hb2.size; omega) _))⟩
              case measure => simp [intOf]; omega
            · obtain ⟨y, hy⟩ := hy0 (by omega)
              have e4 : (x.b != y.e) = false := by simpa using hx1 y (by omega) hy
              obtain ⟨-, b1, -, -, -, -, -⟩ := (hat (j - 1) y hy).below hb2 hg
              have e3 : decide (0 < j) = true := by simp; omega
              have e5 : 1 ≤ j := by omega
              have e6 : g < wr.heap.size := by have := hb2.size; omega
              clear hj0 hx1 hy0 hf hat hy
              go_wp2
              go_quiet (fail)
              go_wp2
              go_roundw
              case rel => exact ⟨j + 1, by omega, by go_num, by repeat (first | exact hb2 | refine below_drewN ?_ _ | (refine Below.setCell ?_ (by have := hb2.size; simp; omega) _) | (refine Below.alloc ?_ (by have := hb2.size; omega) _))⟩
              case measure => simp [intOf]; omega
        · go_wp2
          go_ret
          exact ⟨rfl, hb2⟩

end Go.Proofs.YtnbggdpbgibpoaaDoor.Kp
