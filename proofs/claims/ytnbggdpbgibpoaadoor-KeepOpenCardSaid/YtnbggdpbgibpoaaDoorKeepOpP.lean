/- The plain law of KeepOpen; a row whose first segment is empty is refused. -/
import Derived.Test.YtnbggdpbgibpoaaDoorKeepSet
import Derived.Test.YtnbggdpbgibpoaaDoorErrs
namespace Go.Proofs.YtnbggdpbgibpoaaDoor.Kp
open Go.RowKit Go.Proofs.YtnbggdpbgibpoaaDoor.Er

def opSeg (n k : Nat) (e : Bool) (i : Nat) (z : Int) : Sg :=
  ⟨10 * i, if e = true ∧ i + 1 = n then 10 * i else 10 * i + 10, if e = true ∧ i + 1 = n then 0 else z % 100, i * 0, decide (i + 1 < n ∧ i ≠ k), true, true⟩
def opTo (n k : Nat) (e : Bool) (zs : List Int) : List Sg := (List.range n).map fun i => opSeg n k e i (zs.getD i 0)

theorem opTo_len (n k : Nat) (e : Bool) (zs : List Int) : (opTo n k e zs).length = n := by simp [opTo]
theorem opTo_get (n k : Nat) (e : Bool) (zs : List Int) (i : Nat) (h : i < n) : (opTo n k e zs)[i]? = some (opSeg n k e i (zs.getD i 0)) := by simp [opTo, h]

theorem op_seal (n k : Nat) (zs : List Int) (h : k < n) : (rowTo n 0 zs n).set k { rowSeg n 0 k (zs.getD k 0) with s := false } = opTo n k false zs := by
  apply List.ext_getElem?
  intro i
  by_cases hi : i < n
  · rw [opTo_get _ _ _ _ _ hi]
    by_cases e : i = k
    · subst e
      rw [List.getElem?_set_self (by rw [rowTo_len]; exact hi)]
      simp [opSeg, rowSeg]
    · rw [List.getElem?_set_ne (by omega), rowTo_get _ _ _ _ _ hi]
      simp [opSeg, rowSeg, e]
  · rw [List.getElem?_eq_none (by rw [List.length_set, rowTo_len]; omega), List.getElem?_eq_none (by rw [opTo_len]; omega)]

theorem op_empty (n k : Nat) (zs : List Int) (h : 1 ≤ n) : ((opTo n k false zs).set (n - 1) { opSeg n k false (n - 1) (zs.getD (n - 1) 0) with e := 10 * ((n - 1 : Nat) : Int) }).set (n - 1)
    { opSeg n k false (n - 1) (zs.getD (n - 1) 0) with e := 10 * ((n - 1 : Nat) : Int), z := 0 } = opTo n k true zs := by
  rw [List.set_set]
  apply List.ext_getElem?
  intro i
  by_cases hi : i < n
  · rw [opTo_get _ _ _ _ _ hi]
    by_cases e : i = n - 1
    · subst e
      rw [List.getElem?_set_self (by rw [opTo_len]; exact hi)]
      simp [opSeg, show n - 1 + 1 = n from by omega]
    · rw [List.getElem?_set_ne (by omega), opTo_get _ _ _ _ _ hi]
      have : ¬ (i + 1 = n) := by omega
      simp [opSeg, this]
  · rw [List.getElem?_eq_none (by rw [List.length_set, opTo_len]; omega), List.getElem?_eq_none (by rw [opTo_len]; omega)]

theorem op_fair (n k : Nat) (e : Bool) (zs : List Int) (hn : n ≤ 1000) : KFair (opTo n k e zs) := by
  have get : ∀ (j : Nat) x, (opTo n k e zs)[j]? = some x → j < n ∧ x = opSeg n k e j (zs.getD j 0) := by
    intro j x hx
    have hk := (List.getElem?_eq_some_iff.1 hx).1
    rw [opTo_len] at hk
    rw [opTo_get _ _ _ _ _ hk] at hx
    exact ⟨hk, (Option.some.inj hx).symm⟩
  refine ⟨fun x hx => ?_, fun j x hx => ?_, fun j x hx hl => ?_, fun j x y hx hy => ?_⟩
  · obtain ⟨j, hj⟩ := List.getElem?_of_mem hx
    obtain ⟨hj, rfl⟩ := get j x hj
    have a := Int.emod_nonneg (zs.getD j 0) (b := 100) (by omega)
    have b := Int.emod_lt_of_pos (zs.getD j 0) (b := 100) (by omega)
    simp only [Sg.ok, opSeg, Int.mul_zero]
    refine ⟨by omega, by omega, ?_, ?_, by omega, by omega, ?_, ?_⟩ <;> split <;> omega
  · obtain ⟨_, rfl⟩ := get j x hx; simp only [opSeg]; split <;> omega
  · obtain ⟨_, rfl⟩ := get j x hx
    rw [opTo_len] at hl
    simp only [opSeg]; rw [if_neg (by omega)]; omega
  · obtain ⟨_, rfl⟩ := get j x hx; obtain ⟨h2, rfl⟩ := get (j + 1) y hy
    simp only [opSeg]; rw [if_neg (by omega)]; omega

theorem op_cut (n k : Nat) (e : Bool) (zs : List Int) (j : Nat) (h : j < n) : (opTo n k e zs).drop j = opSeg n k e j (zs.getD j 0) :: (opTo n k e zs).drop (j + 1) := by
  rw [List.drop_eq_getElem_cons (by rw [opTo_len]; exact h)]
  congr 1
  exact Option.some.inj ((List.getElem?_eq_getElem (by rw [opTo_len]; exact h)).symm.trans (opTo_get _ _ _ _ _ h))

theorem op_start (n k : Nat) (e : Bool) (zs : List Int) (hk : k < n) (d : Nat) : ∀ (j : Nat) (s : Int), j + d = k → 10 * (j : Int) ≤ s →
    startP (-1) 0 1073741824 s ((opTo n k e zs).drop j) = max s (10 * (k : Int)) := by
  induction d with
  | zero =>
    intro j s hj hs
    obtain rfl : j = k := by omega
    rw [op_cut n j e zs j hk, startP]
    split
    · omega
    · rw [if_pos (by simp [opSeg])]; omega
  | succ d ih =>
    intro j s hj hs
    rw [op_cut n k e zs j (by omega), startP, if_neg (by simp [opTo_len]; omega), if_neg (by simp [opSeg]; omega), if_neg (by
      rintro ⟨_, h⟩
      have : oldB 0 1073741824 (opSeg n k e j (zs.getD j 0)).t = true := by rw [oldB_iff]; simp only [opSeg, Int.mul_zero]; omega
      rw [this] at h; cases h)]
    have he : (opSeg n k e j (zs.getD j 0)).e = 10 * (j : Int) + 10 := by simp only [opSeg]; rw [if_neg (by omega)]
    rw [he, ih (j + 1) _ (by omega) (by omega)]
    omega

theorem op_leave (n k : Nat) (e : Bool) (zs : List Int) (loc : Int) (hk : k < n) (d : Nat) : ∀ (j : Nat) (o : Bool), j + d = k →
    (leaveP loc o ((opTo n k e zs).drop j)).length ≤ d := by
  induction d with
  | zero =>
    intro j o hj
    obtain rfl : j = k := by omega
    rw [op_cut n j e zs j hk, leaveP, if_neg (by simp [opSeg]), if_pos (.inr (.inr (.inl (by simp [opSeg]))))]
    simp
  | succ d ih =>
    intro j o hj
    rw [op_cut n k e zs j (by omega), leaveP, if_neg (by simp [opSeg])]
    split
    · simp
    · have := ih (j + 1) false (by omega); simp; omega

set_option maxHeartbeats 1000000 in
/-- A first segment that is empty, with more behind: refused. -/
theorem fair_bad {S : List Nat} {w : World} {E : Nat → Addr} {B : Nat} (hE : Errs S w E B) (h2 : 2 ∈ S) (g off cap n : Nat) (x : Sg) (L : List Sg) (hln : L.length = n) (hn : n ≤ 1000) (hn1 : 1 < n) (hg : g < w.heap.size) (hat : SegsAt w g off L)
    (hok : ∀ y ∈ L, y.ok) (hx : L[0]? = some x) (hbe : x.b = x.e) :
    Calls Tryd.prog 20 #[.slice (some ⟨g, off, none⟩) n cap] w fun e w' => e = .returned (ev E 103) ∧ Below w.heap.size w w' := by
  subst hln
  have hB := hE.hi
  have he := hE.at_ 2 h2
  have hgid : gid 2 = 1 := rfl
  rw [hgid] at he
  have hsh : ev E 103 = .iface 66 (.pointer (some (E 2))) := rfl
  rw [hsh]
  have hgB : 1 < w.heap.size := World.block_lt_of_cell? w _ he
  clear hsh hgid
  go_enter Tryd.func20, Tryd.ntmps20
  go_wp2
  go_loopw [9] (fun i wr => ∃ k : Nat, k ≤ L.length ∧ i = .int .i64 k ∧ Below w.heap.size w wr) (fun i _ => L.length - (intOf i).toNat)
  case atStart => exact ⟨0, by omega, rfl, Below.refl _ _⟩
  case round wr =>
    obtain ⟨k, hk, rfl, hb⟩ := hrel
    by_cases hlt : k < L.length
    · obtain ⟨a0, a1, a2, a3, a4, a5, a6⟩ := (hat k L[k] (List.getElem?_eq_getElem hlt)).below hb hg
      obtain ⟨q0, q1, q2, q3, q4, q5, q6, q7⟩ := hok L[k] (List.getElem_mem hlt)
      have HX := Lib.hid hx
      have HBE := Lib.hid hbe
      clear hx hbe hat he
      go_wp2_with (first | (go_at_call 19; refine (offset_yes _ _ (by assumption) (by assumption)).mono ?_; rintro e w' ⟨rfl, rfl⟩) | (go_at_call 18; refine (time_yes _ _ (by assumption) (by assumption)).mono ?_; rintro e w' ⟨rfl, rfl⟩))
      go_roundw
      case rel => exact ⟨k + 1, by omega, by go_num, by repeat (first | exact hb | (refine Below.setCell ?_ (by have := hb.size; simp; omega) _) | (refine Below.alloc ?_ (by have := hb.size; omega) _))⟩
      case measure => simp [intOf]; omega
    · obtain ⟨a0, a1, a2, a3, a4, a5, a6⟩ := (hat 0 x hx).below hb hg
      have hec := (hb.cell (p := ⟨1, 0, none⟩) hgB).trans he
      simp only [Nat.zero_mul, Nat.add_zero] at a0 a1 a2 a3 a4 a5 a6
      have e0 : decide (x.e < x.b) = false := by simp; omega
      have e1 : (x.b == x.e) = true := by simpa using hbe
      have e2 : decide ((0 : Int) < (L.length : Int) - 1) = true := by simp; omega
      have e3 : decide ((1 : Int) < (L.length : Int)) = true := by simp; omega
      have e4 : decide (1 < L.length) = true := by simp; omega
      have hgr : 1 < wr.heap.size := by have := hb.size; omega
      have hne : 1 ≠ wr.heap.size := by omega
      clear hx hbe hat he hok
      go_wp2
      refine wp_loop_rounds 1 ?_
      rw [rounds_succ]
      go_wp2
      go_quiet (fail)
      go_wp2
      go_ret
      exact ⟨rfl, below_drewN (hb.alloc (by have := hb.size; omega) _) _⟩

set_option maxHeartbeats 800000 in
theorem start_bad {S : List Nat} {w : World} {E : Nat → Addr} {B : Nat} (hE : Errs S w E B) (h2 : 2 ∈ S) (g cap n : Nat) (x : Sg) (L : List Sg) (hln : L.length = n) (hn : n ≤ 1000) (hn1 : 1 < n) (hg : g < w.heap.size) (hat : SegsAt w g 0 L)
    (hok : ∀ y ∈ L, y.ok) (hx : L[0]? = some x) (hbe : x.b = x.e) :
    Calls Tryd.prog 12 #[.agg #[.int .i64 (-1), .int .i64 (-1), .int .i64 0], .int .i64 0, .int .i64 0, .slice (some ⟨g, 0, none⟩) n cap] w
      fun e w' => e = .returned (.tuple #[.int .i64 0, ev E 103]) ∧ Below w.heap.size w w' := by
  have hsh : ev E 103 = .iface 66 (.pointer (some (E 2))) := rfl
  have HBE := Lib.hid hbe
  have HX := Lib.hid hx
  have HE := Lib.hid hE
  have hB := hE.hi
  clear hbe hx hE
  go_enter Tryd.func12, Tryd.ntmps12
  go_wp2_with fail
  go_step3
  go_wp2_with fail
  refine (valid_yes _ _ _ _ (by omega) (by omega) (by omega) (by omega) (by omega) (by omega)).mono ?_
  rintro e w1 ⟨rfl, hb1⟩
  have hbw : Below w.heap.size w w1 := ((Below.refl _ _).alloc (Nat.le_refl _) _).trans (hb1.mono (by simp))
  have hw1 := hbw.size
  clear hb1
  go_wp2_with (first | (go_at_call 19; refine (offset_yes _ _ (by omega) (by omega)).mono ?_; rintro e w' ⟨rfl, rfl⟩) | (go_at_call 18; refine (time_yes _ _ (by omega) (by omega)).mono ?_; rintro e w' ⟨rfl, rfl⟩))
  refine (fair_bad (HE.out.below (hbw.mono hB)) h2 g 0 cap n x L hln hn hn1 (by omega) (hat.below hbw hg) hok HX.out HBE.out).mono ?_
  rw [hsh]
  rintro e w2 ⟨rfl, hb2⟩
  clear hsh
  go_wp2_with fail
  (try rw [Exit.noGoto_ret])
  go_ret2
  exact ⟨rfl, hbw.trans (hb2.mono hw1)⟩

end Go.Proofs.YtnbggdpbgibpoaaDoor.Kp
