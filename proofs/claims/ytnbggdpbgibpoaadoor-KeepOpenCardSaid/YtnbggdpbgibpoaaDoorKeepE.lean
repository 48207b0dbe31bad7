/- The contracts of the chapter's example and of the rows that the laws draw. -/
import Derived.Test.YtnbggdpbgibpoaaDoorKeepD
import Derived.Deep.AppendLies
namespace Go.Proofs.YtnbggdpbgibpoaaDoor.Kp
open Go.RowKit

def Sg.cells (x : Sg) : List Value := [.int .i64 x.b, .int .i64 x.e, .int .i64 x.z, .int .i64 x.t, .bool x.s, .bool x.h, .bool x.r]

theorem segAt_of_row {w : World} {g o : Nat} {cur : Array Value} {e : TypeId} {fr : Nat × Nat} (hg : w.heap[g]? = some (.cells cur e fr)) {x : Sg}
    (h : ∀ j v, x.cells[j]? = some v → cur[o + j]? = some v) : SegAt w g o x := by
  have c : ∀ j v, x.cells[j]? = some v → w.cell? ⟨g, o + j, none⟩ = some v := fun j v hj => by
    rw [cell_of_row w g (o + j) cur e fr hg]; exact h j v hj
  exact ⟨c 0 _ rfl, c 1 _ rfl, c 2 _ rfl, c 3 _ rfl, c 4 _ rfl, c 5 _ rfl, c 6 _ rfl⟩

theorem flat_get (L : List Sg) : ∀ (k : Nat) (x : Sg), L[k]? = some x → ∀ j v, x.cells[j]? = some v → (L.flatMap Sg.cells)[k * 7 + j]? = some v := by
  induction L with
  | nil => intro k x h; simp at h
  | cons y l ih =>
    intro k x hk j v hj
    have hjl : j < 7 := by have := (List.getElem?_eq_some_iff.1 hj).1; simpa [Sg.cells] using this
    rw [List.flatMap_cons]
    have hy : y.cells.length = 7 := rfl
    cases k with
    | zero =>
      simp at hk; subst hk
      rw [List.getElem?_append_left (by omega), show 0 * 7 + j = j from by omega]; exact hj
    | succ k =>
      rw [List.getElem?_append_right (by omega), hy, show (k + 1) * 7 + j - 7 = k * 7 + j from by omega]
      exact ih k x (by simpa using hk) j v hj

theorem flat_len (L : List Sg) : (L.flatMap Sg.cells).length = L.length * 7 := by
  induction L with
  | nil => rfl
  | cons y l ih => rw [List.flatMap_cons, List.length_append, ih]; simp [Sg.cells]; omega

theorem segsAt_of_row {w : World} {g : Nat} {cur : Array Value} {e : TypeId} {fr : Nat × Nat} (hg : w.heap[g]? = some (.cells cur e fr)) {L : List Sg}
    (h : cur.toList.take (L.length * 7) = L.flatMap Sg.cells) : SegsAt w g 0 L := by
  intro k x hk
  have hkl := (List.getElem?_eq_some_iff.1 hk).1
  refine segAt_of_row hg fun j v hj => ?_
  have hjl : j < 7 := by have := (List.getElem?_eq_some_iff.1 hj).1; simpa [Sg.cells] using this
  have := flat_get L k x hk j v hj
  rw [← h, List.getElem?_take, if_pos (by omega)] at this
  rw [show 0 + k * 7 + j = k * 7 + j from by omega]
  simpa using this

def exL : List Sg := [⟨0, 1, 10, 0, true, false, false⟩, ⟨1, 2, 10, 0, true, false, false⟩, ⟨2, 3, 10, 0, false, false, false⟩]

theorem exL_fair : KFair exL := by
  refine ⟨?_, ?_, ?_, ?_⟩
  · intro x hx; simp [exL] at hx; rcases hx with rfl | rfl | rfl <;> simp [Sg.ok]
  · intro k x hx
    match k, hx with
    | 0, hx => simp [exL] at hx; subst hx; decide
    | 1, hx => simp [exL] at hx; subst hx; decide
    | 2, hx => simp [exL] at hx; subst hx; decide
    | k + 3, hx => simp [exL] at hx
  · intro k x hx
    match k, hx with
    | 0, hx => simp [exL] at hx; subst hx; simp
    | 1, hx => simp [exL] at hx; subst hx; simp
    | 2, hx => simp [exL] at hx; subst hx; simp
    | k + 3, hx => simp [exL] at hx
  · intro k x y hx hy
    match k, hx, hy with
    | 0, hx, hy => simp [exL] at hx hy; subst hx hy; rfl
    | 1, hx, hy => simp [exL] at hx hy; subst hx hy; rfl
    | k + 2, hx, hy => simp [exL] at hy

set_option maxHeartbeats 400000 in
theorem first_yes (w : World) : Calls Tryd.prog 9 #[] w fun e w' => e = .returned (.bool true) ∧ Below w.heap.size w w' := by
  go_enter Tryd.func9, Tryd.ntmps9
  go_wp2_with fail
  have hs : startP 20 (-1) 0 0 exL = 1 := by decide
  have h := start_yes (-1) 20 (-1) 0 0 w.heap.size 0 3 exL _ (by decide) (by decide) (by simp) (segsAt_of_row (heap_alloc_new w (.cells #[.int .i64 0, .int .i64 1, .int .i64 10, .int .i64 0, .bool true, .bool false, .bool false, .int .i64 1, .int .i64 2, .int .i64 10, .int .i64 0, .bool true, .bool false, .bool false, .int .i64 2, .int .i64 3, .int .i64 10, .int .i64 0, .bool false, .bool false, .bool false] 34)) rfl) exL_fair (by omega) (by omega) (by omega) (by omega) (by omega) (by omega) (by omega) (by omega) (by omega) (by omega)
  rw [hs] at h
  clear hs
  refine h.mono ?_
  rintro e w1 ⟨rfl, hb1⟩
  go_wp2_with fail
  go_ret
  exact ⟨rfl, ((Below.refl _ _).alloc (Nat.le_refl _) _).trans (hb1.mono (by simp))⟩

def rowSeg (n : Nat) (step : Int) (i : Nat) (z : Int) : Sg := ⟨10 * i, 10 * i + 10, z % 100, i * step, decide (i + 1 < n), true, true⟩
def rowTo (n : Nat) (step : Int) (zs : List Int) (k : Nat) : List Sg := (List.range k).map fun i => rowSeg n step i (zs.getD i 0)

theorem rowTo_len (n : Nat) (step : Int) (zs : List Int) (k : Nat) : (rowTo n step zs k).length = k := by simp [rowTo]
theorem rowTo_snoc (n : Nat) (step : Int) (zs : List Int) (k : Nat) : rowTo n step zs (k + 1) = rowTo n step zs k ++ [rowSeg n step k (zs.getD k 0)] := by
  simp [rowTo, List.range_succ]
theorem rowTo_get (n : Nat) (step : Int) (zs : List Int) (k i : Nat) (h : i < k) : (rowTo n step zs k)[i]? = some (rowSeg n step i (zs.getD i 0)) := by
  simp [rowTo, h]

theorem info34 : (Tryd.prog.info? 34).map (fun i => (i.zero, i.size, i.bytes)) = some (some (.agg #[.int .i64 0, .int .i64 0, .int .i64 0, .int .i64 0, .bool false, .bool false, .bool false]), 7, 40) := by kernel_rfl

set_option maxHeartbeats 1000000 in
theorem row_any (b off n cap : Nat) (zs : List Int) (step : Int) (w : World) (hn : n ≤ 1000) (hb : b < w.heap.size) (h0 : 0 ≤ step) (h1 : step ≤ 1000)
    (hz : ∀ i, i < n → w.cell? ⟨b, off + i, none⟩ = some (.int .i64 (zs.getD i 0))) :
    Calls Tryd.prog 11 #[.slice (some ⟨b, off, none⟩) n cap, .int .i64 step] w
      fun e w' => (∃ v, e = .returned v ∧ w'.ownsRow w.heap.size 34 7 v n ((rowTo n step zs n).flatMap Sg.cells)) ∧ Below w.heap.size w w' := by
  obtain ⟨i0, hi, hz0, hz1, hz2⟩ := info_parts info34
  go_enter Tryd.func11, Tryd.ntmps11
  go_wp2_with fail
  go_loopg [5, 6] n (fun r v i wr => ∃ k : Nat, k + r = n ∧ i = .int .i64 k ∧ wr.ownsRow w.heap.size 34 7 v k ((rowTo n step zs k).flatMap Sg.cells) ∧ Below w.heap.size w wr)
  case atStart => exact ⟨0, by omega, rfl, World.ownsRow_nil _ _ _ _, Below.refl _ _⟩
  case round =>
    obtain ⟨k, hk, rfl, hown, hbl⟩ := hrel
    by_cases hlt : k < n
    · have hc : wr.cell? ⟨b, off + k, none⟩ = some (.int .i64 (zs.getD k 0)) := (hbl.cell hb).trans (hz k hlt)
      have hsn : (rowTo n step zs (k + 1)).flatMap Sg.cells = (rowTo n step zs k).flatMap Sg.cells ++ (rowSeg n step k (zs.getD k 0)).cells := by rw [rowTo_snoc, List.flatMap_append]; simp
      have hm : 0 ≤ (k : Int) * step ∧ (k : Int) * step ≤ 1000 * 1000 := ⟨Int.mul_nonneg (by omega) h0, Int.mul_le_mul (by omega) h1 h0 (by omega)⟩
      obtain ⟨hm0, hm1⟩ := hm
      have hsn' : (rowTo n step zs (k + 1)).flatMap Sg.cells = (rowTo n step zs k).flatMap Sg.cells ++ [.int .i64 (10 * ↑k), .int .i64 (10 * ↑k + 10), .int .i64 (zs[k]?.getD 0 % 100), .int .i64 (↑k * step), .bool (decide ((k : Int) + 1 < (n : Int))), .bool true, .bool true] := by
        rw [hsn]
        have e : decide ((k : Int) + 1 < (n : Int)) = decide (k + 1 < n) := by by_cases h : k + 1 < n <;> simp [h] <;> omega
        rw [e]; simp [rowSeg, Sg.cells]
      have HS := Lib.hid hsn'
      have hsz := hbl.size
      have hown0 := Lib.hid hown
      clear hsn hsn' hz
      go_wp2_with (first
        | (go_at_call 13; refine (number_any _ _ _ (by omega) (by omega)).mono ?_; rintro e w' ⟨rfl, rfl⟩)
        | (at_builtin; refine wpList_append_own _ rfl _ _ 25 rfl w.heap.size 34 i0 (.agg #[.int .i64 0, .int .i64 0, .int .i64 0, .int .i64 0, .bool false, .bool false, .bool false]) 7 40 Tryd.underlying25 hi hz0 hz1 hz2 rfl (by decide) _ _ _ rfl (hown.alloc _) ⟨wr.heap.size, 0, none⟩ 1 1 [.int .i64 (10 * ↑k), .int .i64 (10 * ↑k + 10), .int .i64 (zs[k]?.getD 0 % 100), .int .i64 (↑k * step), .bool (decide ((k : Int) + 1 < (n : Int))), .bool true, .bool true] rfl rfl ?c1 ?c2 ?c3 ?c4 ?c5 ?_))
      case c1 => exact World.news_of_block (t := 34) (fr := (0, 0)) (heap_alloc_new wr _)
      case c2 => intro u hu; simp at hu; rcases hu with rfl | rfl | rfl | rfl | rfl | rfl <;> rfl
      case c3 => unfold maxLen; omega
      case c4 => omega
      case c5 => simp; omega
      intro v' w1 hown' hgrow _
      clear hown
      go_wp2_with fail
      obtain ⟨gk, rfl⟩ : ∃ m, gk = m + 1 := ⟨gk - 1, by omega⟩
      go_roundg gk
      case measure => omega
      case rel => exact ⟨k + 1, by omega, by go_num, by rw [HS.out]; exact hown', (hbl.alloc hsz _).grown hgrow (by simp; omega) (fun j hj => (World.ownsRow.lt hown0.out j hj).1)⟩
    · obtain rfl : k = n := by omega
      go_wp2_with fail
      go_ret
      exact ⟨⟨_, rfl, hown⟩, hbl⟩

end Go.Proofs.YtnbggdpbgibpoaaDoor.Kp
