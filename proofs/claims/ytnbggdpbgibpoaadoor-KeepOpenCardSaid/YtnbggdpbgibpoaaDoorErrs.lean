/- The sentinel errors as the rows list them; what package cordwoodsee says of them. -/
import Derived.Test.YtnbggdpbgibpoaaDoorRows
import Derived.WalkKit
import Derived.WalkSpells
import Derived.WalkLawsBesides
import Derived.WalkSmall
import Derived.LaidEql
import Derived.LaidLaws
import Derived.MakeChecks
import Derived.Lib.Hide
import Derived.Deep.LoopGhost
import Derived.Deep.QuietTactic
import Derived.BigQuiet
import Derived.Deep.RegionHeld3
import Derived.Deep.AppendLies
import Derived.Deep.CutRange
import Derived.Deep.DeepCutAuto
namespace Go.Proofs.YtnbggdpbgibpoaaDoor.Er
open Go.RowKit

def gidL : List Nat := [2, 3, 1, 4, 0, 5, 6, 7, 8, 9, 10, 11, 12, 13, 14, 15, 16, 17, 18]
def gid (i : Nat) : Nat := gidL.getD i 0
def gmax : Nat := gidL.foldl max 0 + 1

/-- The sentinel errors lie in their variables; no two are one; all of this lies below block B. -/
structure Errs (S : List Nat) (w : World) (E : Nat → Addr) (B : Nat) : Prop where
  at_ : ∀ i, i ∈ S → w.cell? ⟨gid i, 0, none⟩ = some (.iface 66 (.pointer (some (E i))))
  inj : ∀ i j, i ∈ S → j ∈ S → E i = E j → i = j
  blk : ∀ i, i ∈ S → ∃ c t, w.heap[(E i).block]? = some (.cells c t (0, 0))
  lt : ∀ i, i ∈ S → (E i).block < B
  le : ∀ i, i ∈ S → i < 19
  lo : gmax ≤ B
  hi : B ≤ w.heap.size

theorem gid_lt (i : Nat) (h : i < 19) : gid i < gmax := by
  have : ∀ i, i < 19 → gid i < gmax := by decide
  exact this i h

theorem Errs.below {S : List Nat} {w w' : World} {E : Nat → Addr} {B : Nat} (h : Errs S w E B) (hb : Below B w w') : Errs S w' E B :=
  ⟨fun i hi => (hb.cell (p := ⟨gid i, 0, none⟩) (by have := gid_lt i (h.le i hi); have := h.lo; show gid i < B; omega)).trans (h.at_ i hi), h.inj,
    fun i hi => by obtain ⟨c, t, hc⟩ := h.blk i hi; exact ⟨c, t, (hb.block _ (h.lt i hi)).trans hc⟩, h.lt, h.le, h.lo, by have := hb.size; have := h.hi; omega⟩

theorem Errs.sub {S S' : List Nat} {w : World} {E : Nat → Addr} {B : Nat} (h : Errs S w E B) (hs : ∀ i, i ∈ S' → i ∈ S) : Errs S' w E B :=
  ⟨fun i hi => h.at_ i (hs i hi), fun i j hi hj => h.inj i j (hs i hi) (hs j hj), fun i hi => h.blk i (hs i hi), fun i hi => h.lt i (hs i hi), fun i hi => h.le i (hs i hi), h.lo, h.hi⟩

/-- The error of a number: 0: none; 101 and on: the sentinels in their order. -/
def ev (E : Nat → Addr) (c : Nat) : Value := if c = 0 then .nilIface else .iface 66 (.pointer (some (E (c - 101))))

theorem ev_zero (E : Nat → Addr) : ev E 0 = .nilIface := rfl
theorem ev_some (E : Nat → Addr) (i : Nat) : ev E (101 + i) = .iface 66 (.pointer (some (E i))) := by
  unfold ev
  rw [if_neg (by omega), show 101 + i - 101 = i from by omega]

theorem compErr : (Tryd.prog.info? 66).map (·.comparable) = some true := by kernel_rfl
theorem sizeErr : (Tryd.prog.info? 84).map (·.size) = some 1 := by kernel_rfl

/-- Two sentinels are held against each other as their numbers are. -/
theorem eql_errs {S : List Nat} {w : World} {E : Nat → Addr} {B : Nat} (h : Errs S w E B) (i j : Nat) (hi : i ∈ S) (hj : j ∈ S) :
    (binOp .eql 28 (.iface 66 (.pointer (some (E i)))) (.iface 66 (.pointer (some (E j))))).run Tryd.prog w = .ok (.bool (i == j)) w := by
  obtain ⟨k, hk, hcmp⟩ := Option.map_eq_some_iff.1 compErr
  obtain ⟨m, hm, hms⟩ := Option.map_eq_some_iff.1 sizeErr
  by_cases e : i = j
  · subst e
    rw [run_eql_iface_ptr_same w (E i) Tryd.underlying28 Tryd.underlying66 hk hcmp hm]
    simp
  · obtain ⟨c, t, hc⟩ := h.blk i hi
    obtain ⟨d, u, hd⟩ := h.blk j hj
    rw [run_eql_iface_ptr_other w Tryd.underlying28 Tryd.underlying66 hk hcmp hm (by rw [hms]; decide) (fun q => e (h.inj i j hi hj q)) hc hd]
    simp [e]

set_option maxHeartbeats 400000 in
theorem alike_any {S : List Nat} {w : World} {E : Nat → Addr} {B : Nat} (h : Errs S w E B) (i j : Nat) (hi : i ∈ S) (hj : j ∈ S) :
    Calls Tryd.prog 32 #[.iface 66 (.pointer (some (E i))), .iface 66 (.pointer (some (E j)))] w fun e w' => e = .returned (.bool (i == j)) ∧ w = w' := by
  have he := eql_errs h i j hi hj
  have H := Lib.hid h
  clear h
  go_enter Tryd.func32, Tryd.ntmps32
  go_wp2
  go_ret
  exact ⟨rfl, rfl⟩

set_option maxHeartbeats 400000 in
theorem sentinels_any {w : World} {E : Nat → Addr} {B : Nat} (h : Errs (List.range 19) w E B) :
    Calls Tryd.prog 31 #[] w fun e w' => (∃ g, e = .returned (.slice (some ⟨g, 0, none⟩) 19 19) ∧ w.heap.size ≤ g ∧ g < w'.heap.size ∧ ∀ i, i < 19 → w'.cell? ⟨g, i, none⟩ = some (.iface 66 (.pointer (some (E i))))) ∧ Below w.heap.size w w' := by
  have c0 : w.cell? ⟨2, 0, none⟩ = some (.iface 66 (.pointer (some (E 0)))) := h.at_ 0 (by decide)
  have c1 : w.cell? ⟨3, 0, none⟩ = some (.iface 66 (.pointer (some (E 1)))) := h.at_ 1 (by decide)
  have c2 : w.cell? ⟨1, 0, none⟩ = some (.iface 66 (.pointer (some (E 2)))) := h.at_ 2 (by decide)
  have c3 : w.cell? ⟨4, 0, none⟩ = some (.iface 66 (.pointer (some (E 3)))) := h.at_ 3 (by decide)
  have c4 : w.cell? ⟨0, 0, none⟩ = some (.iface 66 (.pointer (some (E 4)))) := h.at_ 4 (by decide)
  have c5 : w.cell? ⟨5, 0, none⟩ = some (.iface 66 (.pointer (some (E 5)))) := h.at_ 5 (by decide)
  have c6 : w.cell? ⟨6, 0, none⟩ = some (.iface 66 (.pointer (some (E 6)))) := h.at_ 6 (by decide)
  have c7 : w.cell? ⟨7, 0, none⟩ = some (.iface 66 (.pointer (some (E 7)))) := h.at_ 7 (by decide)
  have c8 : w.cell? ⟨8, 0, none⟩ = some (.iface 66 (.pointer (some (E 8)))) := h.at_ 8 (by decide)
  have c9 : w.cell? ⟨9, 0, none⟩ = some (.iface 66 (.pointer (some (E 9)))) := h.at_ 9 (by decide)
  have c10 : w.cell? ⟨10, 0, none⟩ = some (.iface 66 (.pointer (some (E 10)))) := h.at_ 10 (by decide)
  have c11 : w.cell? ⟨11, 0, none⟩ = some (.iface 66 (.pointer (some (E 11)))) := h.at_ 11 (by decide)
  have c12 : w.cell? ⟨12, 0, none⟩ = some (.iface 66 (.pointer (some (E 12)))) := h.at_ 12 (by decide)
  have c13 : w.cell? ⟨13, 0, none⟩ = some (.iface 66 (.pointer (some (E 13)))) := h.at_ 13 (by decide)
  have c14 : w.cell? ⟨14, 0, none⟩ = some (.iface 66 (.pointer (some (E 14)))) := h.at_ 14 (by decide)
  have c15 : w.cell? ⟨15, 0, none⟩ = some (.iface 66 (.pointer (some (E 15)))) := h.at_ 15 (by decide)
  have c16 : w.cell? ⟨16, 0, none⟩ = some (.iface 66 (.pointer (some (E 16)))) := h.at_ 16 (by decide)
  have c17 : w.cell? ⟨17, 0, none⟩ = some (.iface 66 (.pointer (some (E 17)))) := h.at_ 17 (by decide)
  have c18 : w.cell? ⟨18, 0, none⟩ = some (.iface 66 (.pointer (some (E 18)))) := h.at_ 18 (by decide)
  have hlt := h.lo
  have hhi := h.hi
  clear h
  go_enter Tryd.func31, Tryd.ntmps31
  go_wp2
  go_ret
  refine ⟨⟨w.heap.size, rfl, Nat.le_refl _, by simp, fun i hi => ?_⟩, (Below.refl _ _).alloc (Nat.le_refl _) _⟩
  rw [cell_of_row _ _ _ _ _ _ (heap_alloc_new w _)]
  match i, hi with
  | 0, _ => rfl
  | 1, _ => rfl
  | 2, _ => rfl
  | 3, _ => rfl
  | 4, _ => rfl
  | 5, _ => rfl
  | 6, _ => rfl
  | 7, _ => rfl
  | 8, _ => rfl
  | 9, _ => rfl
  | 10, _ => rfl
  | 11, _ => rfl
  | 12, _ => rfl
  | 13, _ => rfl
  | 14, _ => rfl
  | 15, _ => rfl
  | 16, _ => rfl
  | 17, _ => rfl
  | 18, _ => rfl
  | n + 19, h => exact absurd h (by omega)

/-- What the way of the loop of sentinel keeps. -/
def SentRel (w0 wr : World) (i j : Nat) : Prop := j ≤ i ∧ wr = w0

set_option maxHeartbeats 400000 in
theorem sentinel_any {w : World} {E : Nat → Addr} {B : Nat} (h : Errs (List.range 19) w E B) (i : Nat) (hi : i < 19) :
    Calls Tryd.prog 29 #[.iface 66 (.pointer (some (E i)))] w fun e w' => e = .returned (.int .i64 ((101 + i : Nat) : Int)) ∧ Below w.heap.size w w' := by
  go_enter Tryd.func29, Tryd.ntmps29
  go_wp2_with fail
  refine (sentinels_any h).mono ?_
  rintro e w1 ⟨⟨g, rfl, hg1, hg2, hc⟩, hb1⟩
  have h1 := h.below (hb1.mono h.hi)
  have HC := Lib.hid hc
  have H1 := Lib.hid h1
  clear hc h1 h
  go_wp2_with fail
  go_loopg [4] i (fun r k wr => ∃ j : Nat, j + r = i ∧ k = .int .i64 j ∧ wr = w1)
  case atStart => exact ⟨0, by omega, rfl, rfl⟩
  case round =>
    obtain ⟨j, hj, rfl, rfl⟩ := hrel
    have c := HC.out j (by omega)
    by_cases hlt : j < i
    · have e1 : (i == j) = false := by simp; omega
      obtain ⟨gk, rfl⟩ : ∃ m, gk = m + 1 := ⟨gk - 1, by omega⟩
      go_wp2_with fail
      refine (alike_any H1.out i j (List.mem_range.2 hi) (List.mem_range.2 (by omega))).mono ?_
      rw [e1]
      rintro e w' ⟨rfl, rfl⟩
      clear e1
      go_wp2_with fail
      go_roundg gk
      case measure => omega
      case rel => exact ⟨j + 1, by omega, by go_num, rfl⟩
    · obtain rfl : j = i := by omega
      have e1 : (j == j) = true := by simp
      go_wp2_with fail
      refine (alike_any H1.out j j (List.mem_range.2 hi) (List.mem_range.2 hi)).mono ?_
      rw [e1]
      rintro e w' ⟨rfl, rfl⟩
      clear e1
      go_wp2_with fail
      go_ret
      exact ⟨by rw [Int.natCast_add]; rfl, hb1⟩

set_option maxHeartbeats 400000 in
theorem bare_any (c : Int) (w : World) : Calls Tryd.prog 25 #[.int .i64 c] w fun e w' => e = .returned (.agg #[.int .i64 c, .bool false, .int .i64 0]) ∧ Below w.heap.size w w' := by
  go_enter Tryd.func25, Tryd.ntmps25
  go_wp2
  exact bodyPost_ret (v := .agg #[.int .i64 c, .bool false, .int .i64 0]) (by simp [results, Tryd.results25, go_sem]) rfl ⟨rfl, by repeat (first | exact Below.refl _ _ | (refine Below.setCell ?_ (by simp) _) | (refine Below.alloc ?_ (by simp) _))⟩

set_option maxHeartbeats 400000 in
theorem none_any (w : World) : Calls Tryd.prog 28 #[] w fun e w' => e = .returned (.agg #[.int .i64 0, .bool false, .int .i64 0]) ∧ Below w.heap.size w w' := by
  go_enter Tryd.func28, Tryd.ntmps28
  go_wp2
  exact bodyPost_ret (v := .agg #[.int .i64 0, .bool false, .int .i64 0]) (by simp [results, Tryd.results28, go_sem]) rfl ⟨rfl, by repeat (first | exact Below.refl _ _ | (refine Below.setCell ?_ (by simp) _) | (refine Below.alloc ?_ (by simp) _))⟩

/-- Two bare faults are one just if their numbers are. -/
theorem samefault_any (c d : Int) (w : World) : Calls Tryd.prog 26 #[.agg #[.int .i64 c, .bool false, .int .i64 0], .agg #[.int .i64 d, .bool false, .int .i64 0]] w fun e w' => e = .returned (.bool (c == d)) ∧ Below w.heap.size w w' := by
  have fin : ∀ (o p : Obj), Below w.heap.size w ((w.alloc o).alloc p) := fun o p => ((Below.refl _ _).alloc (Nat.le_refl _) _).alloc (by simp) _
  by_cases h : c = d
  · have e1 : (c == d) = true := by simpa using h
    rw [e1]
    clear h
    go_enter Tryd.func26, Tryd.ntmps26
    go_wp2
    go_ret
    exact ⟨rfl, fin _ _⟩
  · have e1 : (c == d) = false := by simpa using h
    rw [e1]
    clear h
    go_enter Tryd.func26, Tryd.ntmps26
    go_wp2
    go_ret
    exact ⟨rfl, fin _ _⟩

set_option maxHeartbeats 400000 in
theorem fault_nil (w : World) : Calls Tryd.prog 27 #[.nilIface] w fun e w' => e = .returned (.agg #[.int .i64 0, .bool false, .int .i64 0]) ∧ Below w.heap.size w w' := by
  go_enter Tryd.func27, Tryd.ntmps27
  go_wp2_with fail
  refine (none_any _).mono ?_
  rintro e w1 ⟨rfl, hb1⟩
  have hz : w.heap.size < w1.heap.size := by have := hb1.size; simp at this; omega
  have c0 := (hb1.cell (p := ⟨w.heap.size, 0, none⟩) (by simp)).trans (show _ = some (Value.int .i64 0) by go_simp)
  have c1 := (hb1.cell (p := ⟨w.heap.size, 1, none⟩) (by simp)).trans (show _ = some (Value.bool false) by go_simp)
  have c2 := (hb1.cell (p := ⟨w.heap.size, 2, none⟩) (by simp)).trans (show _ = some (Value.int .i64 0) by go_simp)
  have f0 := (hb1.frozen (p := ⟨w.heap.size, 0, none⟩) (by simp)).trans (show _ = false by go_simp)
  have f1 := (hb1.frozen (p := ⟨w.heap.size, 1, none⟩) (by simp)).trans (show _ = false by go_simp)
  have f2 := (hb1.frozen (p := ⟨w.heap.size, 2, none⟩) (by simp)).trans (show _ = false by go_simp)
  go_wp2
  exact bodyPost_ret (v := .agg #[.int .i64 0, .bool false, .int .i64 0]) (by simp [results, Tryd.results27, go_sem, c0, c1, c2]) rfl ⟨rfl, by repeat (first | exact ((Below.refl _ _).alloc (Nat.le_refl _) _).trans (hb1.mono (by simp)) | (refine Below.setCell ?_ (by simp) _))⟩

set_option maxHeartbeats 800000 in
theorem fault_some {w : World} {E : Nat → Addr} {B : Nat} (h : Errs (List.range 19) w E B) (i : Nat) (hi : i < 19) :
    Calls Tryd.prog 27 #[.iface 66 (.pointer (some (E i)))] w fun e w' => e = .returned (.agg #[.int .i64 ((101 + i : Nat) : Int), .bool false, .int .i64 0]) ∧ Below w.heap.size w w' := by
  have hB := h.hi
  have hta : ∀ w' : World, (Instr.typeAssert (.iface 66 (.pointer (some (E i)))) 28 57 true).run Tryd.prog w' = .ok (.tuple #[.pointer none, .bool false]) w' := fun w' => by kernel_rfl
  go_enter Tryd.func27, Tryd.ntmps27
  go_wp2_with fail
  refine (sentinel_any (h.below ((Below.refl _ _).alloc h.hi _)) i hi).mono ?_
  rintro e w1 ⟨rfl, hb1⟩
  clear h
  go_wp2_with fail
  refine (bare_any _ _).mono ?_
  rintro e w2 ⟨rfl, hb2⟩
  have hb3 := hb1.trans (hb2.mono hb1.size)
  have hz : w.heap.size < w2.heap.size := by have := hb3.size; simp at this; omega
  have c0 := (hb3.cell (p := ⟨w.heap.size, 0, none⟩) (by simp)).trans (show _ = some (Value.int .i64 0) by go_simp)
  have c1 := (hb3.cell (p := ⟨w.heap.size, 1, none⟩) (by simp)).trans (show _ = some (Value.bool false) by go_simp)
  have c2 := (hb3.cell (p := ⟨w.heap.size, 2, none⟩) (by simp)).trans (show _ = some (Value.int .i64 0) by go_simp)
  have f0 := (hb3.frozen (p := ⟨w.heap.size, 0, none⟩) (by simp)).trans (show _ = false by go_simp)
  have f1 := (hb3.frozen (p := ⟨w.heap.size, 1, none⟩) (by simp)).trans (show _ = false by go_simp)
  have f2 := (hb3.frozen (p := ⟨w.heap.size, 2, none⟩) (by simp)).trans (show _ = false by go_simp)
  go_wp2
  exact bodyPost_ret (v := .agg #[.int .i64 ((101 + i : Nat) : Int), .bool false, .int .i64 0]) (by simp [results, Tryd.results27, go_sem, c0, c1, c2]) rfl ⟨rfl, by repeat (first | exact ((Below.refl _ _).alloc (Nat.le_refl _) _).trans (hb3.mono (by simp)) | (refine Below.setCell ?_ (by simp) _))⟩

/-- What Fault says of an error. -/
theorem fault_any {w : World} {E : Nat → Addr} {B : Nat} (h : Errs (List.range 19) w E B) (c : Nat) (hc : c = 0 ∨ 101 ≤ c ∧ c < 120) :
    Calls Tryd.prog 27 #[ev E c] w fun e w' => e = .returned (.agg #[.int .i64 (c : Int), .bool false, .int .i64 0]) ∧ Below w.heap.size w w' := by
  rcases hc with rfl | ⟨h1, h2⟩
  · exact fault_nil w
  · obtain ⟨i, rfl⟩ : ∃ i, c = 101 + i := ⟨c - 101, by omega⟩
    rw [ev_some]
    exact fault_some h i (by omega)

set_option maxHeartbeats 800000 in
theorem same_any {w : World} {E : Nat → Addr} {B : Nat} (h : Errs (List.range 19) w E B) (c : Nat) (hc : c = 0 ∨ 101 ≤ c ∧ c < 120) (d : Int) :
    Calls Tryd.prog 24 #[ev E c, .agg #[.int .i64 d, .bool false, .int .i64 0]] w fun e w' => e = .returned (.bool ((c : Int) == d)) ∧ Below w.heap.size w w' := by
  have hB := h.hi
  generalize hv : ev E c = v
  have HV := Lib.hid hv
  have HE := Lib.hid h
  clear hv h
  go_enter Tryd.func24, Tryd.ntmps24
  go_wp2_with fail
  go_region_held3 (fun w' => w'.cell? ⟨w.heap.size, 0, none⟩ = some (.int .i64 d) ∧ w'.cell? ⟨w.heap.size, 1, none⟩ = some (.bool false) ∧ w'.cell? ⟨w.heap.size, 2, none⟩ = some (.int .i64 0))
    (first
      | go_keep
      | (go_split_ands
         exact ⟨(hb3.cell (p := ⟨w.heap.size, 0, none⟩) (by simp)).trans (by assumption), (hb3.cell (p := ⟨w.heap.size, 1, none⟩) (by simp)).trans (by assumption), (hb3.cell (p := ⟨w.heap.size, 2, none⟩) (by simp)).trans (by assumption)⟩)
      | (go_split_ands
         exact ⟨(hb4.cell (p := ⟨w.heap.size, 0, none⟩) (by have := hb3.size; simp at this; simp; omega)).trans (by assumption), (hb4.cell (p := ⟨w.heap.size, 1, none⟩) (by have := hb3.size; simp at this; simp; omega)).trans (by assumption), (hb4.cell (p := ⟨w.heap.size, 2, none⟩) (by have := hb3.size; simp at this; simp; omega)).trans (by assumption)⟩))
    (first
      | (go_at_call 27; rw [← HV.out]; with_reducible refine (fault_any (HE.out.below (((Below.refl _ _).alloc hB _).drew)) c hc).mono ?_; rintro e w3 ⟨rfl, hb3⟩)
      | (go_at_call 26; with_reducible refine (samefault_any _ _ _).mono ?_; rintro e w4 ⟨rfl, hb4⟩))
  go_wp2
  go_ret
  exact ⟨rfl, (((Below.refl _ _).alloc (Nat.le_refl _) _).drew).trans ((hb3.mono (by simp)).trans (hb4.mono (by have := hb3.size; simp at this; omega)))⟩

/-- What Is says of an error. -/
theorem is_any {w : World} {E : Nat → Addr} {B : Nat} (h : Errs (List.range 19) w E B) (c : Nat) (hc : c = 0 ∨ 101 ≤ c ∧ c < 120) (d : Int) :
    Calls Tryd.prog 16 #[ev E c, .int .i64 d] w fun e w' => e = .returned (.bool ((c : Int) == d)) ∧ Below w.heap.size w w' := by
  generalize hv : ev E c = v
  have HV := Lib.hid hv
  have HE := Lib.hid h
  clear hv h
  go_enter Tryd.func16, Tryd.ntmps16
  go_wp2_with fail
  refine (bare_any _ _).mono ?_
  rintro e w1 ⟨rfl, hb1⟩
  go_wp2_with fail
  rw [← HV.out]
  refine (same_any (HE.out.below (hb1.mono HE.out.hi)) c hc d).mono ?_
  rintro e w2 ⟨rfl, hb2⟩
  go_wp2_with fail
  go_ret
  exact ⟨rfl, hb1.trans (hb2.mono hb1.size)⟩

/-! ### From what a row lists to Errs -/
def nmL : List String := ["cordwood/api.ErrEnd", "cordwood/api.ErrSum", "cordwood/api.ErrShape", "cordwood/api.ErrMany", "cordwood/api.ErrRange", "cordwood/api.ErrName", "cordwood/api.ErrNone", "cordwood/api.ErrThere", "cordwood/api.ErrFull", "cordwood/api.ErrCrash", "cordwood/api.ErrStore", "cordwood/api.ErrKind", "cordwood/api.ErrState", "cordwood/api.ErrFenced", "cordwood/api.ErrOutside", "cordwood/api.ErrUnavail", "cordwood/api.ErrWord", "cordwood/api.ErrNumber", "cordwood/api.ErrClosed"]
def nm (i : Nat) : String := nmL.getD i ""
def datL : List (DataW Unit) := [Rows.laid_cordwood_api_ErrEnd, Rows.laid_cordwood_api_ErrSum, Rows.laid_cordwood_api_ErrShape, Rows.laid_cordwood_api_ErrMany, Rows.laid_cordwood_api_ErrRange, Rows.laid_cordwood_api_ErrName, Rows.laid_cordwood_api_ErrNone, Rows.laid_cordwood_api_ErrThere, Rows.laid_cordwood_api_ErrFull, Rows.laid_cordwood_api_ErrCrash, Rows.laid_cordwood_api_ErrStore, Rows.laid_cordwood_api_ErrKind, Rows.laid_cordwood_api_ErrState, Rows.laid_cordwood_api_ErrFenced, Rows.laid_cordwood_api_ErrOutside, Rows.laid_cordwood_api_ErrUnavail, Rows.laid_cordwood_api_ErrWord, Rows.laid_cordwood_api_ErrNumber, Rows.laid_cordwood_api_ErrClosed]
def dat (i : Nat) : DataW Unit := datL.getD i .nil
theorem nm_gid : ((List.range 19).all fun i => Tryd.prog.globalNamed (nm i) == some (gid i)) = true := by kernel_rfl
theorem gid_type : ((List.range 19).all fun i => (Tryd.prog.globals[gid i]?).map (·.type) == some 28) = true := by kernel_rfl
theorem rowPT (u : TypeId) (h : Tryd.prog.typeName? 3 u = some "*errors.errorString") : u = 66 :=
  typeName_ptr_named (nm := "errors.errorString") (by rw [show "*" ++ "errors.errorString" = "*errors.errorString" by decide]; kernel_rfl) (by kernel_rfl) (by decide) u (by rw [show "*" ++ "errors.errorString" = "*errors.errorString" by decide]; exact h)
theorem cellsE : Tryd.prog.cellsOf 84 = 1 := by kernel_rfl
theorem cellsS : Tryd.prog.cellsOf 9 = 1 := by kernel_rfl
theorem dat_text (i : Nat) (h : i < 19) : ∃ t, dat i = .iface "*errors.errorString" (.ptr (.agg [.lit (.string t)])) := by
  match i, h with
  | 0, _ => exact ⟨_, rfl⟩
  | 1, _ => exact ⟨_, rfl⟩
  | 2, _ => exact ⟨_, rfl⟩
  | 3, _ => exact ⟨_, rfl⟩
  | 4, _ => exact ⟨_, rfl⟩
  | 5, _ => exact ⟨_, rfl⟩
  | 6, _ => exact ⟨_, rfl⟩
  | 7, _ => exact ⟨_, rfl⟩
  | 8, _ => exact ⟨_, rfl⟩
  | 9, _ => exact ⟨_, rfl⟩
  | 10, _ => exact ⟨_, rfl⟩
  | 11, _ => exact ⟨_, rfl⟩
  | 12, _ => exact ⟨_, rfl⟩
  | 13, _ => exact ⟨_, rfl⟩
  | 14, _ => exact ⟨_, rfl⟩
  | 15, _ => exact ⟨_, rfl⟩
  | 16, _ => exact ⟨_, rfl⟩
  | 17, _ => exact ⟨_, rfl⟩
  | 18, _ => exact ⟨_, rfl⟩
  | n + 19, h => exact absurd h (by omega)

/-- Where a world has the sentinel of a number. -/
def errAt (w : World) (i : Nat) : Addr := match w.cell? ⟨gid i, 0, none⟩ with
  | some (.iface _ (.pointer (some a))) => a
  | _ => ⟨0, 0, none⟩

theorem errAt_of {w : World} {i : Nat} {t : TypeId} {a : Addr} (h : w.cell? ⟨gid i, 0, none⟩ = some (.iface t (.pointer (some a)))) : errAt w i = a := by
  unfold errAt; rw [h]

theorem laid_errs {w : World} (S : List Nat) (hS : ∀ i, i ∈ S → i < 19) : ∀ ps, DataW.LaidVars Tryd.prog w (S.map fun i => (nm i, dat i)) ps → ps.Nodup →
    (∀ b off, MemPlace.cell b off ∈ ps → (∃ c t, w.heap[b]? = some (.cells c t (0, 0))) ∧ ∀ u v, w.cell? ⟨b, off, none⟩ = some (.iface u v) → Value.okWide Tryd.prog w .any 0 u v) →
    (∀ i, i ∈ S → w.cell? ⟨gid i, 0, none⟩ = some (.iface 66 (.pointer (some (errAt w i)))) ∧ MemPlace.cell (errAt w i).block (errAt w i).off ∈ ps ∧ (errAt w i).spot = none) ∧
    (∀ i j, i ∈ S → j ∈ S → errAt w i = errAt w j → i = j) := by
  induction S with
  | nil => intro ps _ _ _; exact ⟨fun i hi => (by cases hi), fun i j hi => (by cases hi)⟩
  | cons k S ih =>
    intro ps h hnd hrows
    obtain ⟨g, t, cs, fuel, p, q, hg, ht, hv, hd, hq, rfl⟩ := h
    have hk := hS k (by simp)
    have e1 := beq_iff_eq.1 (List.all_eq_true.1 nm_gid k (List.mem_range.2 hk))
    have e2 := beq_iff_eq.1 (List.all_eq_true.1 gid_type k (List.mem_range.2 hk))
    obtain rfl := Option.some.inj (e1.symm.trans hg)
    obtain rfl := Option.some.inj (e2.symm.trans ht)
    obtain ⟨tx, htx⟩ := dat_text k hk
    rw [htx] at hd
    obtain ⟨l⟩ := cs
    have ok : ∀ u v, l = [.iface u v] → Value.okWide Tryd.prog w .any 0 u v := fun u v e => by
      subst e
      exact (hrows (gid k) 0 (by simp [MemPlace.row])).2 u v (by simpa using World.var?_cell hg hv 0)
    obtain ⟨a, s, rfl, hc, _, _, rfl⟩ := errorString_of_trod Tryd.underlying28 rowPT Tryd.underlying66 Tryd.underlying84 rfl rfl Tryd.underlying9 cellsE cellsS hd ok
    have hcell : w.cell? ⟨gid k, 0, none⟩ = some (.iface 66 (.pointer (some a))) := by simpa using World.var?_cell hg hv 0
    have ha := errAt_of hcell
    have hspot : a.spot = none := World.cell?_spot hc
    obtain ⟨h1, h2⟩ := ih (fun i hi => hS i (by simp [hi])) q hq (List.Nodup.sublist (by simp) hnd) (fun b off hm => hrows b off (by simp [hm]))
    have hin : MemPlace.cell a.block a.off ∈ MemPlace.row a 1 := by simp [MemPlace.row]
    have hout : ∀ i, i ∈ S → errAt w i ≠ a := by
      intro i hi e
      have hm := (h1 i hi).2.1
      rw [e] at hm
      rw [List.append_assoc] at hnd
      have hnd2 := (List.nodup_append.1 hnd).2.1
      exact (List.nodup_append.1 hnd2).2.2 _ hin _ hm rfl
    refine ⟨fun i hi => ?_, fun i j hi hj e => ?_⟩
    · rcases List.mem_cons.1 hi with hi' | hi'
      · rw [hi', ha]; exact ⟨hcell, by simp [MemPlace.row], hspot⟩
      · obtain ⟨a1, a2, a3⟩ := h1 i hi'
        exact ⟨a1, by simp [a2], a3⟩
    · rcases List.mem_cons.1 hi with hi' | hi'
      · rcases List.mem_cons.1 hj with hj' | hj'
        · rw [hi', hj']
        · rw [hi', ha] at e; exact absurd e.symm (hout j hj')
      · rcases List.mem_cons.1 hj with hj' | hj'
        · rw [hj', ha] at e; exact absurd e (hout i hi')
        · exact h2 i j hi' hj' e

/-- WHAT A ROW's LIST GIVES. -/
theorem errs_of_laid {w : World} (S : List Nat) (hS : ∀ i, i ∈ S → i < 19) (h : laidMet Tryd.prog (S.map fun i => (nm i, dat i)) w) (hsz : gmax ≤ w.heap.size) : Errs S w (errAt w) w.heap.size := by
  obtain ⟨ps, hl, hnd, hrows⟩ := h
  obtain ⟨h1, h2⟩ := laid_errs S hS ps hl hnd hrows
  refine ⟨fun i hi => (h1 i hi).1, h2, fun i hi => (hrows _ _ (h1 i hi).2.1).1, fun i hi => ?_, hS, hsz, Nat.le_refl _⟩
  obtain ⟨c, t, hc⟩ := (hrows _ _ (h1 i hi).2.1).1
  exact (Array.getElem?_eq_some_iff.1 hc).1

theorem gmax_row : ((((begin Tryd.prog (fun _ _ => 0) default).world.heap[gmax - 1]?).bind Obj.row?).isSome && decide (gmax - 1 < Tryd.prog.globals.size) && decide (1 ≤ gmax)) = true := by kernel_rfl
theorem gmax_le {w : World} (h : w.ShapedOpen Tryd.prog) : gmax ≤ w.heap.size := by
  have h0 := gmax_row
  simp only [Bool.and_eq_true, decide_eq_true_eq] at h0
  obtain ⟨⟨h1, h2⟩, h3⟩ := h0
  obtain ⟨⟨z, t⟩, hz⟩ := Option.isSome_iff_exists.1 h1
  obtain ⟨cs, hc, _⟩ := h.1 (gmax - 1) z t h2 hz
  have := (Array.getElem?_eq_some_iff.1 hc).1
  omega

end Go.Proofs.YtnbggdpbgibpoaaDoor.Er
