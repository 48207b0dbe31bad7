/- The sentinel errors as the rows list them; what package cordwoodsee says of them. Bytes in memory: slices of bytes that are read, rows of bytes that a call owns; slices.Clone, slices.Equal of bytes, rec.little. vint.Put, vint.PutInt, and the document's own Put, PutInt, Little. crc: halves, More, Of. crc.Of of one part; vint.PutInt; batches in memory. Batches in memory; rec.right, Valid, Next, Time. rec.Valid. rec.body. rec.Bytes, rec.Size. vint.Get of what vint.Put laid. vint.GetInt, vint.Reader. vint.Reader: Num, Bytes, Fixed. vint.Reader.Fixed. -/
import Derived.Test.YtncjffkpkmjgkaaGreatDoorRows
import Derived.WalkKit
import Derived.WalkSpells
import Derived.WalkLawsBesides
import Derived.WalkSmall
import Derived.LaidEql
import Derived.LaidLaws
import Derived.MakeChecks
import Derived.Lib.Hide
import Derived.Deep.LoopGhost
import Derived.Deep.QuietTactic
import Derived.BigQuiet
import Derived.Deep.RegionHeld3
import Derived.Deep.AppendLies
import Derived.Deep.CutRange
import Derived.Deep.DeepCutAuto
import Derived.Lib.LazyBuf
import Derived.Laws.AppendOwnNone
import Derived.Deep.OwnRows
import Derived.Lib.Zigzag
import Derived.Deep.Heap

/-! Errs -/
namespace Go.Proofs.YtncjffkpkmjgkaaGreatDoor.Er
open Go.RowKit

def gidL : List Nat := [10, 11, 5, 9, 0, 1, 4, 2, 3, 8, 12, 13, 6, 14, 7, 15, 16, 17, 18]
def gid (i : Nat) : Nat := gidL.getD i 0
def gmax : Nat := gidL.foldl max 0 + 1

/-- The sentinel errors lie in their variables; no two are one; all of this lies below block B. -/
structure Errs (S : List Nat) (w : World) (E : Nat → Addr) (B : Nat) : Prop where
  at_ : ∀ i, i ∈ S → w.cell? ⟨gid i, 0, none⟩ = some (.iface 289 (.pointer (some (E i))))
  inj : ∀ i j, i ∈ S → j ∈ S → E i = E j → i = j
  blk : ∀ i, i ∈ S → ∃ c t, w.heap[(E i).block]? = some (.cells c t (0, 0))
  lt : ∀ i, i ∈ S → (E i).block < B
  le : ∀ i, i ∈ S → i < 19
  lo : gmax ≤ B
  hi : B ≤ w.heap.size

theorem gid_lt (i : Nat) (h : i < 19) : gid i < gmax := by
  have : ∀ i, i < 19 → gid i < gmax := by decide
  exact this i h

theorem Errs.below {S : List Nat} {w w' : World} {E : Nat → Addr} {B : Nat} (h : Errs S w E B) (hb : Below B w w') : Errs S w' E B :=
  ⟨fun i hi => (hb.cell (p := ⟨gid i, 0, none⟩) (by have := gid_lt i (h.le i hi); have := h.lo; show gid i < B; omega)).trans (h.at_ i hi), h.inj,
    fun i hi => by obtain ⟨c, t, hc⟩ := h.blk i hi; exact ⟨c, t, (hb.block _ (h.lt i hi)).trans hc⟩, h.lt, h.le, h.lo, by have := hb.size; have := h.hi; omega⟩

theorem Errs.sub {S S' : List Nat} {w : World} {E : Nat → Addr} {B : Nat} (h : Errs S w E B) (hs : ∀ i, i ∈ S' → i ∈ S) : Errs S' w E B :=
  ⟨fun i hi => h.at_ i (hs i hi), fun i j hi hj => h.inj i j (hs i hi) (hs j hj), fun i hi => h.blk i (hs i hi), fun i hi => h.lt i (hs i hi), fun i hi => h.le i (hs i hi), h.lo, h.hi⟩

/-- The error of a number: 0: none; 101 and on: the sentinels in their order. -/
def ev (E : Nat → Addr) (c : Nat) : Value := if c = 0 then .nilIface else .iface 289 (.pointer (some (E (c - 101))))

theorem ev_zero (E : Nat → Addr) : ev E 0 = .nilIface := rfl
theorem ev_some (E : Nat → Addr) (i : Nat) : ev E (101 + i) = .iface 289 (.pointer (some (E i))) := by
  unfold ev
  rw [if_neg (by omega), show 101 + i - 101 = i from by omega]

theorem compErr : (Tryz.prog.info? 289).map (·.comparable) = some true := by kernel_rfl
theorem sizeErr : (Tryz.prog.info? 305).map (·.size) = some 1 := by kernel_rfl

/-- Two sentinels are held against each other as their numbers are. -/
theorem eql_errs {S : List Nat} {w : World} {E : Nat → Addr} {B : Nat} (h : Errs S w E B) (i j : Nat) (hi : i ∈ S) (hj : j ∈ S) :
    (binOp .eql 27 (.iface 289 (.pointer (some (E i)))) (.iface 289 (.pointer (some (E j))))).run Tryz.prog w = .ok (.bool (i == j)) w := by
  obtain ⟨k, hk, hcmp⟩ := Option.map_eq_some_iff.1 compErr
  obtain ⟨m, hm, hms⟩ := Option.map_eq_some_iff.1 sizeErr
  by_cases e : i = j
  · subst e
    rw [run_eql_iface_ptr_same w (E i) Tryz.underlying27 Tryz.underlying289 hk hcmp hm]
    simp
  · obtain ⟨c, t, hc⟩ := h.blk i hi
    obtain ⟨d, u, hd⟩ := h.blk j hj
    rw [run_eql_iface_ptr_other w Tryz.underlying27 Tryz.underlying289 hk hcmp hm (by rw [hms]; decide) (fun q => e (h.inj i j hi hj q)) hc hd]
    simp [e]

set_option maxHeartbeats 400000 in
theorem alike_any {S : List Nat} {w : World} {E : Nat → Addr} {B : Nat} (h : Errs S w E B) (i j : Nat) (hi : i ∈ S) (hj : j ∈ S) :
    Calls Tryz.prog 183 #[.iface 289 (.pointer (some (E i))), .iface 289 (.pointer (some (E j)))] w fun e w' => e = .returned (.bool (i == j)) ∧ w = w' := by
  have he := eql_errs h i j hi hj
  have H := Lib.hid h
  clear h
  go_enter Tryz.func183, Tryz.ntmps183
  go_wp2
  go_ret
  exact ⟨rfl, rfl⟩

set_option maxHeartbeats 400000 in
theorem sentinels_any {w : World} {E : Nat → Addr} {B : Nat} (h : Errs (List.range 19) w E B) :
    Calls Tryz.prog 182 #[] w fun e w' => (∃ g, e = .returned (.slice (some ⟨g, 0, none⟩) 19 19) ∧ w.heap.size ≤ g ∧ g < w'.heap.size ∧ ∀ i, i < 19 → w'.cell? ⟨g, i, none⟩ = some (.iface 289 (.pointer (some (E i))))) ∧ Below w.heap.size w w' := by
  have c0 : w.cell? ⟨10, 0, none⟩ = some (.iface 289 (.pointer (some (E 0)))) := h.at_ 0 (by decide)
  have c1 : w.cell? ⟨11, 0, none⟩ = some (.iface 289 (.pointer (some (E 1)))) := h.at_ 1 (by decide)
  have c2 : w.cell? ⟨5, 0, none⟩ = some (.iface 289 (.pointer (some (E 2)))) := h.at_ 2 (by decide)
  have c3 : w.cell? ⟨9, 0, none⟩ = some (.iface 289 (.pointer (some (E 3)))) := h.at_ 3 (by decide)
  have c4 : w.cell? ⟨0, 0, none⟩ = some (.iface 289 (.pointer (some (E 4)))) := h.at_ 4 (by decide)
  have c5 : w.cell? ⟨1, 0, none⟩ = some (.iface 289 (.pointer (some (E 5)))) := h.at_ 5 (by decide)
  have c6 : w.cell? ⟨4, 0, none⟩ = some (.iface 289 (.pointer (some (E 6)))) := h.at_ 6 (by decide)
  have c7 : w.cell? ⟨2, 0, none⟩ = some (.iface 289 (.pointer (some (E 7)))) := h.at_ 7 (by decide)
  have c8 : w.cell? ⟨3, 0, none⟩ = some (.iface 289 (.pointer (some (E 8)))) := h.at_ 8 (by decide)
  have c9 : w.cell? ⟨8, 0, none⟩ = some (.iface 289 (.pointer (some (E 9)))) := h.at_ 9 (by decide)
  have c10 : w.cell? ⟨12, 0, none⟩ = some (.iface 289 (.pointer (some (E 10)))) := h.at_ 10 (by decide)
  have c11 : w.cell? ⟨13, 0, none⟩ = some (.iface 289 (.pointer (some (E 11)))) := h.at_ 11 (by decide)
  have c12 : w.cell? ⟨6, 0, none⟩ = some (.iface 289 (.pointer (some (E 12)))) := h.at_ 12 (by decide)
  have c13 : w.cell? ⟨14, 0, none⟩ = some (.iface 289 (.pointer (some (E 13)))) := h.at_ 13 (by decide)
  have c14 : w.cell? ⟨7, 0, none⟩ = some (.iface 289 (.pointer (some (E 14)))) := h.at_ 14 (by decide)
  have c15 : w.cell? ⟨15, 0, none⟩ = some (.iface 289 (.pointer (some (E 15)))) := h.at_ 15 (by decide)
  have c16 : w.cell? ⟨16, 0, none⟩ = some (.iface 289 (.pointer (some (E 16)))) := h.at_ 16 (by decide)
  have c17 : w.cell? ⟨17, 0, none⟩ = some (.iface 289 (.pointer (some (E 17)))) := h.at_ 17 (by decide)
  have c18 : w.cell? ⟨18, 0, none⟩ = some (.iface 289 (.pointer (some (E 18)))) := h.at_ 18 (by decide)
  have hlt := h.lo
  have hhi := h.hi
  clear h
  go_enter Tryz.func182, Tryz.ntmps182
  go_wp2
  go_ret
  refine ⟨⟨w.heap.size, rfl, Nat.le_refl _, by simp, fun i hi => ?_⟩, (Below.refl _ _).alloc (Nat.le_refl _) _⟩
  rw [cell_of_row _ _ _ _ _ _ (heap_alloc_new w _)]
  match i, hi with
  | 0, _ => rfl
  | 1, _ => rfl
  | 2, _ => rfl
  | 3, _ => rfl
  | 4, _ => rfl
  | 5, _ => rfl
  | 6, _ => rfl
  | 7, _ => rfl
  | 8, _ => rfl
  | 9, _ => rfl
  | 10, _ => rfl
  | 11, _ => rfl
  | 12, _ => rfl
  | 13, _ => rfl
  | 14, _ => rfl
  | 15, _ => rfl
  | 16, _ => rfl
  | 17, _ => rfl
  | 18, _ => rfl
  | n + 19, h => exact absurd h (by omega)

/-- What the way of the loop of sentinel keeps. -/
def SentRel (w0 wr : World) (i j : Nat) : Prop := j ≤ i ∧ wr = w0

set_option maxHeartbeats 400000 in
theorem sentinel_any {w : World} {E : Nat → Addr} {B : Nat} (h : Errs (List.range 19) w E B) (i : Nat) (hi : i < 19) :
    Calls Tryz.prog 150 #[.iface 289 (.pointer (some (E i)))] w fun e w' => e = .returned (.int .i64 ((101 + i : Nat) : Int)) ∧ Below w.heap.size w w' := by
  go_enter Tryz.func150, Tryz.ntmps150
  go_wp2_with fail
  refine (sentinels_any h).mono ?_
  rintro e w1 ⟨⟨g, rfl, hg1, hg2, hc⟩, hb1⟩
  have h1 := h.below (hb1.mono h.hi)
  have HC := Lib.hid hc
  have H1 := Lib.hid h1
  clear hc h1 h
  go_wp2_with fail
  go_loopg [4] i (fun r k wr => ∃ j : Nat, j + r = i ∧ k = .int .i64 j ∧ wr = w1)
  case atStart => exact ⟨0, by omega, rfl, rfl⟩
  case round =>
    obtain ⟨j, hj, rfl, rfl⟩ := hrel
    have c := HC.out j (by omega)
    by_cases hlt : j < i
    · have e1 : (i == j) = false := by simp; omega
      obtain ⟨gk, rfl⟩ : ∃ m, gk = m + 1 := ⟨gk - 1, by omega⟩
      go_wp2_with fail
      refine (alike_any H1.out i j (List.mem_range.2 hi) (List.mem_range.2 (by omega))).mono ?_
      rw [e1]
      rintro e w' ⟨rfl, rfl⟩
      clear e1
      go_wp2_with fail
      go_roundg gk
      case measure => omega
      case rel => exact ⟨j + 1, by omega, by go_num, rfl⟩
    · obtain rfl : j = i := by omega
      have e1 : (j == j) = true := by simp
      go_wp2_with fail
      refine (alike_any H1.out j j (List.mem_range.2 hi) (List.mem_range.2 hi)).mono ?_
      rw [e1]
      rintro e w' ⟨rfl, rfl⟩
      clear e1
      go_wp2_with fail
      go_ret
      exact ⟨by rw [Int.natCast_add]; rfl, hb1⟩

set_option maxHeartbeats 400000 in
theorem bare_any (c : Int) (w : World) : Calls Tryz.prog 71 #[.int .i64 c] w fun e w' => e = .returned (.agg #[.int .i64 c, .bool false, .int .i64 0]) ∧ Below w.heap.size w w' := by
  go_enter Tryz.func71, Tryz.ntmps71
  go_wp2
  exact bodyPost_ret (v := .agg #[.int .i64 c, .bool false, .int .i64 0]) (by simp [results, Tryz.results71, go_sem]) rfl ⟨rfl, by repeat (first | exact Below.refl _ _ | (refine Below.setCell ?_ (by simp) _) | (refine Below.alloc ?_ (by simp) _))⟩

set_option maxHeartbeats 400000 in
theorem none_any (w : World) : Calls Tryz.prog 149 #[] w fun e w' => e = .returned (.agg #[.int .i64 0, .bool false, .int .i64 0]) ∧ Below w.heap.size w w' := by
  go_enter Tryz.func149, Tryz.ntmps149
  go_wp2
  exact bodyPost_ret (v := .agg #[.int .i64 0, .bool false, .int .i64 0]) (by simp [results, Tryz.results149, go_sem]) rfl ⟨rfl, by repeat (first | exact Below.refl _ _ | (refine Below.setCell ?_ (by simp) _) | (refine Below.alloc ?_ (by simp) _))⟩

/-- Two bare faults are one just if their numbers are. -/
theorem samefault_any (c d : Int) (w : World) : Calls Tryz.prog 113 #[.agg #[.int .i64 c, .bool false, .int .i64 0], .agg #[.int .i64 d, .bool false, .int .i64 0]] w fun e w' => e = .returned (.bool (c == d)) ∧ Below w.heap.size w w' := by
  have fin : ∀ (o p : Obj), Below w.heap.size w ((w.alloc o).alloc p) := fun o p => ((Below.refl _ _).alloc (Nat.le_refl _) _).alloc (by simp) _
  by_cases h : c = d
  · have e1 : (c == d) = true := by simpa using h
    rw [e1]
    clear h
    go_enter Tryz.func113, Tryz.ntmps113
    go_wp2
    go_ret
    exact ⟨rfl, fin _ _⟩
  · have e1 : (c == d) = false := by simpa using h
    rw [e1]
    clear h
    go_enter Tryz.func113, Tryz.ntmps113
    go_wp2
    go_ret
    exact ⟨rfl, fin _ _⟩

set_option maxHeartbeats 400000 in
theorem fault_nil (w : World) : Calls Tryz.prog 114 #[.nilIface] w fun e w' => e = .returned (.agg #[.int .i64 0, .bool false, .int .i64 0]) ∧ Below w.heap.size w w' := by
  go_enter Tryz.func114, Tryz.ntmps114
  go_wp2_with fail
  refine (none_any _).mono ?_
  rintro e w1 ⟨rfl, hb1⟩
  have hz : w.heap.size < w1.heap.size := by have := hb1.size; simp at this; omega
  have c0 := (hb1.cell (p := ⟨w.heap.size, 0, none⟩) (by simp)).trans (show _ = some (Value.int .i64 0) by go_simp)
  have c1 := (hb1.cell (p := ⟨w.heap.size, 1, none⟩) (by simp)).trans (show _ = some (Value.bool false) by go_simp)
  have c2 := (hb1.cell (p := ⟨w.heap.size, 2, none⟩) (by simp)).trans (show _ = some (Value.int .i64 0) by go_simp)
  have f0 := (hb1.frozen (p := ⟨w.heap.size, 0, none⟩) (by simp)).trans (show _ = false by go_simp)
  have f1 := (hb1.frozen (p := ⟨w.heap.size, 1, none⟩) (by simp)).trans (show _ = false by go_simp)
  have f2 := (hb1.frozen (p := ⟨w.heap.size, 2, none⟩) (by simp)).trans (show _ = false by go_simp)
  go_wp2
  exact bodyPost_ret (v := .agg #[.int .i64 0, .bool false, .int .i64 0]) (by simp [results, Tryz.results114, go_sem, c0, c1, c2]) rfl ⟨rfl, by repeat (first | exact ((Below.refl _ _).alloc (Nat.le_refl _) _).trans (hb1.mono (by simp)) | (refine Below.setCell ?_ (by simp) _))⟩

set_option maxHeartbeats 800000 in
theorem fault_some {w : World} {E : Nat → Addr} {B : Nat} (h : Errs (List.range 19) w E B) (i : Nat) (hi : i < 19) :
    Calls Tryz.prog 114 #[.iface 289 (.pointer (some (E i)))] w fun e w' => e = .returned (.agg #[.int .i64 ((101 + i : Nat) : Int), .bool false, .int .i64 0]) ∧ Below w.heap.size w w' := by
  have hB := h.hi
  have hta : ∀ w' : World, (Instr.typeAssert (.iface 289 (.pointer (some (E i)))) 27 204 true).run Tryz.prog w' = .ok (.tuple #[.pointer none, .bool false]) w' := fun w' => by kernel_rfl
  go_enter Tryz.func114, Tryz.ntmps114
  go_wp2_with fail
  refine (sentinel_any (h.below ((Below.refl _ _).alloc h.hi _)) i hi).mono ?_
  rintro e w1 ⟨rfl, hb1⟩
  clear h
  go_wp2_with fail
  refine (bare_any _ _).mono ?_
  rintro e w2 ⟨rfl, hb2⟩
  have hb3 := hb1.trans (hb2.mono hb1.size)
  have hz : w.heap.size < w2.heap.size := by have := hb3.size; simp at this; omega
  have c0 := (hb3.cell (p := ⟨w.heap.size, 0, none⟩) (by simp)).trans (show _ = some (Value.int .i64 0) by go_simp)
  have c1 := (hb3.cell (p := ⟨w.heap.size, 1, none⟩) (by simp)).trans (show _ = some (Value.bool false) by go_simp)
  have c2 := (hb3.cell (p := ⟨w.heap.size, 2, none⟩) (by simp)).trans (show _ = some (Value.int .i64 0) by go_simp)
  have f0 := (hb3.frozen (p := ⟨w.heap.size, 0, none⟩) (by simp)).trans (show _ = false by go_simp)
  have f1 := (hb3.frozen (p := ⟨w.heap.size, 1, none⟩) (by simp)).trans (show _ = false by go_simp)
  have f2 := (hb3.frozen (p := ⟨w.heap.size, 2, none⟩) (by simp)).trans (show _ = false by go_simp)
  go_wp2
  exact bodyPost_ret (v := .agg #[.int .i64 ((101 + i : Nat) : Int), .bool false, .int .i64 0]) (by simp [results, Tryz.results114, go_sem, c0, c1, c2]) rfl ⟨rfl, by repeat (first | exact ((Below.refl _ _).alloc (Nat.le_refl _) _).trans (hb3.mono (by simp)) | (refine Below.setCell ?_ (by simp) _))⟩

/-- What Fault says of an error. -/
theorem fault_any {w : World} {E : Nat → Addr} {B : Nat} (h : Errs (List.range 19) w E B) (c : Nat) (hc : c = 0 ∨ 101 ≤ c ∧ c < 120) :
    Calls Tryz.prog 114 #[ev E c] w fun e w' => e = .returned (.agg #[.int .i64 (c : Int), .bool false, .int .i64 0]) ∧ Below w.heap.size w w' := by
  rcases hc with rfl | ⟨h1, h2⟩
  · exact fault_nil w
  · obtain ⟨i, rfl⟩ : ∃ i, c = 101 + i := ⟨c - 101, by omega⟩
    rw [ev_some]
    exact fault_some h i (by omega)

set_option maxHeartbeats 800000 in
theorem same_any {w : World} {E : Nat → Addr} {B : Nat} (h : Errs (List.range 19) w E B) (c : Nat) (hc : c = 0 ∨ 101 ≤ c ∧ c < 120) (d : Int) :
    Calls Tryz.prog 70 #[ev E c, .agg #[.int .i64 d, .bool false, .int .i64 0]] w fun e w' => e = .returned (.bool ((c : Int) == d)) ∧ Below w.heap.size w w' := by
  have hB := h.hi
  generalize hv : ev E c = v
  have HV := Lib.hid hv
  have HE := Lib.hid h
  clear hv h
  go_enter Tryz.func70, Tryz.ntmps70
  go_wp2_with fail
  go_region_held3 (fun w' => w'.cell? ⟨w.heap.size, 0, none⟩ = some (.int .i64 d) ∧ w'.cell? ⟨w.heap.size, 1, none⟩ = some (.bool false) ∧ w'.cell? ⟨w.heap.size, 2, none⟩ = some (.int .i64 0))
    (first
      | go_keep
      | (go_split_ands
         exact ⟨(hb3.cell (p := ⟨w.heap.size, 0, none⟩) (by simp)).trans (by assumption), (hb3.cell (p := ⟨w.heap.size, 1, none⟩) (by simp)).trans (by assumption), (hb3.cell (p := ⟨w.heap.size, 2, none⟩) (by simp)).trans (by assumption)⟩)
      | (go_split_ands
         exact ⟨(hb4.cell (p := ⟨w.heap.size, 0, none⟩) (by have := hb3.size; simp at this; simp; omega)).trans (by assumption), (hb4.cell (p := ⟨w.heap.size, 1, none⟩) (by have := hb3.size; simp at this; simp; omega)).trans (by assumption), (hb4.cell (p := ⟨w.heap.size, 2, none⟩) (by have := hb3.size; simp at this; simp; omega)).trans (by assumption)⟩))
    (first
      | (go_at_call 114; rw [← HV.out]; with_reducible refine (fault_any (HE.out.below (((Below.refl _ _).alloc hB _).drew)) c hc).mono ?_; rintro e w3 ⟨rfl, hb3⟩)
      | (go_at_call 113; with_reducible refine (samefault_any _ _ _).mono ?_; rintro e w4 ⟨rfl, hb4⟩))
  go_wp2
  go_ret
  exact ⟨rfl, (((Below.refl _ _).alloc (Nat.le_refl _) _).drew).trans ((hb3.mono (by simp)).trans (hb4.mono (by have := hb3.size; simp at this; omega)))⟩

/-- What Is says of an error. -/
theorem is_any {w : World} {E : Nat → Addr} {B : Nat} (h : Errs (List.range 19) w E B) (c : Nat) (hc : c = 0 ∨ 101 ≤ c ∧ c < 120) (d : Int) :
    Calls Tryz.prog 28 #[ev E c, .int .i64 d] w fun e w' => e = .returned (.bool ((c : Int) == d)) ∧ Below w.heap.size w w' := by
  generalize hv : ev E c = v
  have HV := Lib.hid hv
  have HE := Lib.hid h
  clear hv h
  go_enter Tryz.func28, Tryz.ntmps28
  go_wp2_with fail
  refine (bare_any _ _).mono ?_
  rintro e w1 ⟨rfl, hb1⟩
  go_wp2_with fail
  rw [← HV.out]
  refine (same_any (HE.out.below (hb1.mono HE.out.hi)) c hc d).mono ?_
  rintro e w2 ⟨rfl, hb2⟩
  go_wp2_with fail
  go_ret
  exact ⟨rfl, hb1.trans (hb2.mono hb1.size)⟩

/-! ### From what a row lists to Errs -/
def nmL : List String := ["cordwood/api.ErrEnd", "cordwood/api.ErrSum", "cordwood/api.ErrShape", "cordwood/api.ErrMany", "cordwood/api.ErrRange", "cordwood/api.ErrName", "cordwood/api.ErrNone", "cordwood/api.ErrThere", "cordwood/api.ErrFull", "cordwood/api.ErrCrash", "cordwood/api.ErrStore", "cordwood/api.ErrKind", "cordwood/api.ErrState", "cordwood/api.ErrFenced", "cordwood/api.ErrOutside", "cordwood/api.ErrUnavail", "cordwood/api.ErrWord", "cordwood/api.ErrNumber", "cordwood/api.ErrClosed"]
def nm (i : Nat) : String := nmL.getD i ""
def datL : List (DataW Unit) := [Rows.laid_cordwood_api_ErrEnd, Rows.laid_cordwood_api_ErrSum, Rows.laid_cordwood_api_ErrShape, Rows.laid_cordwood_api_ErrMany, Rows.laid_cordwood_api_ErrRange, Rows.laid_cordwood_api_ErrName, Rows.laid_cordwood_api_ErrNone, Rows.laid_cordwood_api_ErrThere, Rows.laid_cordwood_api_ErrFull, Rows.laid_cordwood_api_ErrCrash, Rows.laid_cordwood_api_ErrStore, Rows.laid_cordwood_api_ErrKind, Rows.laid_cordwood_api_ErrState, Rows.laid_cordwood_api_ErrFenced, Rows.laid_cordwood_api_ErrOutside, Rows.laid_cordwood_api_ErrUnavail, Rows.laid_cordwood_api_ErrWord, Rows.laid_cordwood_api_ErrNumber, Rows.laid_cordwood_api_ErrClosed]
def dat (i : Nat) : DataW Unit := datL.getD i .nil
theorem nm_gid : ((List.range 19).all fun i => Tryz.prog.globalNamed (nm i) == some (gid i)) = true := by kernel_rfl
theorem gid_type : ((List.range 19).all fun i => (Tryz.prog.globals[gid i]?).map (·.type) == some 27) = true := by kernel_rfl
theorem rowPT (u : TypeId) (h : Tryz.prog.typeName? 3 u = some "*errors.errorString") : u = 289 :=
  typeName_ptr_named (nm := "errors.errorString") (by rw [show "*" ++ "errors.errorString" = "*errors.errorString" by decide]; kernel_rfl) (by kernel_rfl) (by decide) u (by rw [show "*" ++ "errors.errorString" = "*errors.errorString" by decide]; exact h)
theorem cellsE : Tryz.prog.cellsOf 305 = 1 := by kernel_rfl
theorem cellsS : Tryz.prog.cellsOf 9 = 1 := by kernel_rfl
theorem dat_text (i : Nat) (h : i < 19) : ∃ t, dat i = .iface "*errors.errorString" (.ptr (.agg [.lit (.string t)])) := by
  match i, h with
  | 0, _ => exact ⟨_, rfl⟩
  | 1, _ => exact ⟨_, rfl⟩
  | 2, _ => exact ⟨_, rfl⟩
  | 3, _ => exact ⟨_, rfl⟩
  | 4, _ => exact ⟨_, rfl⟩
  | 5, _ => exact ⟨_, rfl⟩
  | 6, _ => exact ⟨_, rfl⟩
  | 7, _ => exact ⟨_, rfl⟩
  | 8, _ => exact ⟨_, rfl⟩
  | 9, _ => exact ⟨_, rfl⟩
  | 10, _ => exact ⟨_, rfl⟩
  | 11, _ => exact ⟨_, rfl⟩
  | 12, _ => exact ⟨_, rfl⟩
  | 13, _ => exact ⟨_, rfl⟩
  | 14, _ => exact ⟨_, rfl⟩
  | 15, _ => exact ⟨_, rfl⟩
  | 16, _ => exact ⟨_, rfl⟩
  | 17, _ => exact ⟨_, rfl⟩
  | 18, _ => exact ⟨_, rfl⟩
  | n + 19, h => exact absurd h (by omega)

/-- Where a world has the sentinel of a number. -/
def errAt (w : World) (i : Nat) : Addr := match w.cell? ⟨gid i, 0, none⟩ with
  | some (.iface _ (.pointer (some a))) => a
  | _ => ⟨0, 0, none⟩

theorem errAt_of {w : World} {i : Nat} {t : TypeId} {a : Addr} (h : w.cell? ⟨gid i, 0, none⟩ = some (.iface t (.pointer (some a)))) : errAt w i = a := by
  unfold errAt; rw [h]

set_option maxRecDepth 100000 in
theorem laid_errs {w : World} (S : List Nat) (hS : ∀ i, i ∈ S → i < 19) : ∀ ps, DataW.LaidVars Tryz.prog w (S.map fun i => (nm i, dat i)) ps → ps.Nodup →
    (∀ b off, MemPlace.cell b off ∈ ps → (∃ c t, w.heap[b]? = some (.cells c t (0, 0))) ∧ ∀ u v, w.cell? ⟨b, off, none⟩ = some (.iface u v) → Value.okWide Tryz.prog w .any 0 u v) →
    (∀ i, i ∈ S → w.cell? ⟨gid i, 0, none⟩ = some (.iface 289 (.pointer (some (errAt w i)))) ∧ MemPlace.cell (errAt w i).block (errAt w i).off ∈ ps ∧ (errAt w i).spot = none) ∧
    (∀ i j, i ∈ S → j ∈ S → errAt w i = errAt w j → i = j) := by
  induction S with
  | nil => intro ps _ _ _; exact ⟨fun i hi => (by cases hi), fun i j hi => (by cases hi)⟩
  | cons k S ih =>
    intro ps h hnd hrows
    obtain ⟨g, t, cs, fuel, p, q, hg, ht, hv, hd, hq, rfl⟩ := h
    have hk := hS k (by simp)
    have e1 := beq_iff_eq.1 (List.all_eq_true.1 nm_gid k (List.mem_range.2 hk))
    have e2 := beq_iff_eq.1 (List.all_eq_true.1 gid_type k (List.mem_range.2 hk))
    obtain rfl := Option.some.inj (e1.symm.trans hg)
    obtain rfl := Option.some.inj (e2.symm.trans ht)
    obtain ⟨tx, htx⟩ := dat_text k hk
    rw [htx] at hd
    obtain ⟨l⟩ := cs
    have ok : ∀ u v, l = [.iface u v] → Value.okWide Tryz.prog w .any 0 u v := fun u v e => by
      subst e
      exact (hrows (gid k) 0 (by simp [MemPlace.row])).2 u v (by simpa using World.var?_cell hg hv 0)
    obtain ⟨a, s, rfl, hc, _, _, rfl⟩ := errorString_of_trod Tryz.underlying27 rowPT Tryz.underlying289 Tryz.underlying305 rfl rfl Tryz.underlying9 cellsE cellsS hd ok
    have hcell : w.cell? ⟨gid k, 0, none⟩ = some (.iface 289 (.pointer (some a))) := by simpa using World.var?_cell hg hv 0
    have ha := errAt_of hcell
    have hspot : a.spot = none := World.cell?_spot hc
    obtain ⟨h1, h2⟩ := ih (fun i hi => hS i (by simp [hi])) q hq (List.Nodup.sublist (by simp) hnd) (fun b off hm => hrows b off (by simp [hm]))
    have hin : MemPlace.cell a.block a.off ∈ MemPlace.row a 1 := by simp [MemPlace.row]
    have hout : ∀ i, i ∈ S → errAt w i ≠ a := by
      intro i hi e
      have hm := (h1 i hi).2.1
      rw [e] at hm
      rw [List.append_assoc] at hnd
      have hnd2 := (List.nodup_append.1 hnd).2.1
      exact (List.nodup_append.1 hnd2).2.2 _ hin _ hm rfl
    refine ⟨fun i hi => ?_, fun i j hi hj e => ?_⟩
    · rcases List.mem_cons.1 hi with hi' | hi'
      · rw [hi', ha]; exact ⟨hcell, by simp [MemPlace.row], hspot⟩
      · obtain ⟨a1, a2, a3⟩ := h1 i hi'
        exact ⟨a1, by simp [a2], a3⟩
    · rcases List.mem_cons.1 hi with hi' | hi'
      · rcases List.mem_cons.1 hj with hj' | hj'
        · rw [hi', hj']
        · rw [hi', ha] at e; exact absurd e.symm (hout j hj')
      · rcases List.mem_cons.1 hj with hj' | hj'
        · rw [hj', ha] at e; exact absurd e (hout i hi')
        · exact h2 i j hi' hj' e

/-- WHAT A ROW's LIST GIVES. -/
theorem errs_of_laid {w : World} (S : List Nat) (hS : ∀ i, i ∈ S → i < 19) (h : laidMet Tryz.prog (S.map fun i => (nm i, dat i)) w) (hsz : gmax ≤ w.heap.size) : Errs S w (errAt w) w.heap.size := by
  obtain ⟨ps, hl, hnd, hrows⟩ := h
  obtain ⟨h1, h2⟩ := laid_errs S hS ps hl hnd hrows
  refine ⟨fun i hi => (h1 i hi).1, h2, fun i hi => (hrows _ _ (h1 i hi).2.1).1, fun i hi => ?_, hS, hsz, Nat.le_refl _⟩
  obtain ⟨c, t, hc⟩ := (hrows _ _ (h1 i hi).2.1).1
  exact (Array.getElem?_eq_some_iff.1 hc).1

theorem gmax_row : ((((begin Tryz.prog (fun _ _ => 0) default).world.heap[gmax - 1]?).bind Obj.row?).isSome && decide (gmax - 1 < Tryz.prog.globals.size) && decide (1 ≤ gmax)) = true := by kernel_rfl
set_option maxRecDepth 100000 in
theorem gmax_le {w : World} (h : w.ShapedOpen Tryz.prog) : gmax ≤ w.heap.size := by
  have h0 := gmax_row
  simp only [Bool.and_eq_true, decide_eq_true_eq] at h0
  obtain ⟨⟨h1, h2⟩, h3⟩ := h0
  obtain ⟨⟨z, t⟩, hz⟩ := Option.isSome_iff_exists.1 h1
  obtain ⟨cs, hc, _⟩ := h.1 (gmax - 1) z t h2 hz
  have := (Array.getElem?_eq_some_iff.1 hc).1
  omega

end Go.Proofs.YtncjffkpkmjgkaaGreatDoor.Er

/-! SBy -/
namespace Go.Proofs.YtncjffkpkmjgkaaGreatDoor.Sg
open Go.RowKit

def bcells (xs : List Nat) : List Value := xs.map fun (n : Nat) => Value.int .u8 (n : Int)
theorem bcells_len (xs : List Nat) : (bcells xs).length = xs.length := by simp [bcells]
theorem bcells_app (xs ys : List Nat) : bcells (xs ++ ys) = bcells xs ++ bcells ys := by simp [bcells]
theorem bcells_one (n : Nat) : bcells [n] = [Value.int .u8 (n : Int)] := rfl
theorem bcells_get (xs : List Nat) (i x : Nat) (h : xs[i]? = some x) : (bcells xs)[i]? = some (.int .u8 (x : Int)) := by simp [bcells, h]
theorem bcells_get' (xs : List Nat) (i : Nat) (u : Value) (h : (bcells xs)[i]? = some u) : ∃ x : Nat, xs[i]? = some x ∧ u = .int .u8 (x : Int) := by
  simp only [bcells, List.getElem?_map, Option.map_eq_some_iff] at h
  obtain ⟨x, hx, rfl⟩ := h
  exact ⟨x, hx, rfl⟩
theorem bcells_cell (xs : List Nat) : ∀ u ∈ bcells xs, u.oneCell' = true := by
  intro u hu
  simp only [bcells, List.mem_map] at hu
  obtain ⟨x, _, rfl⟩ := hu
  rfl

theorem infoU8 : (Tryz.prog.info? 5).map (fun i => (i.zero, i.size, i.bytes)) = some (some (.int .u8 0), 1, 1) := by kernel_rfl

/-- What a row of steps of append keeps: blocks that were there stay, but for the one that was appended to. -/
structure Grew (w : World) (v : Value) (w' : World) (v' : Value) : Prop where
  by_ : w.grownBy w' v.ownBlock
  own : ∀ k, v'.ownBlock = some k → v.ownBlock = some k ∨ w.heap.size ≤ k

theorem Grew.refl (w : World) (v : Value) : Grew w v w v := ⟨⟨rfl, rfl, rfl, Nat.le_refl _, fun _ _ _ => rfl⟩, fun _ hk => .inl hk⟩

theorem Grew.step {w w1 w2 : World} {v v1 v2 : Value} (h : Grew w v w1 v1) (g : w1.grownBy w2 v1.ownBlock) (o : ∀ k, v2.ownBlock = some k → v1.ownBlock = some k ∨ w1.heap.size ≤ k) : Grew w v w2 v2 := by
  refine ⟨⟨g.os.trans h.by_.os, g.tape.trans h.by_.tape, g.output.trans h.by_.output, Nat.le_trans h.by_.size g.size, fun k hk hne => ?_⟩, fun k hk => ?_⟩
  · rw [g.block k (by have := h.by_.size; omega) (fun e => ?_), h.by_.block k hk hne]
    rcases h.own k e.symm with h1 | h1
    · exact hne h1.symm
    · omega
  · rcases o k hk with h1 | h1
    · exact h.own k h1
    · exact .inr (by have := h.by_.size; omega)

/-- One more append: blocks made on the way (wr to wr'), then the append itself. -/
theorem Grew.push {w wr wr' w2 : World} {v u v2 : Value} (h : Grew w v wr u) (hb : Below wr.heap.size wr wr') (hg : wr'.grownBy w2 u.ownBlock) {H : Nat} (ho : v2.ownBlock = u.ownBlock ∨ v2.ownBlock = some H) (hH : wr.heap.size ≤ H) :
    Grew w v w2 v2 := by
  refine h.step ⟨hg.os.trans hb.os, hg.tape.trans hb.tape, hg.output.trans hb.output, Nat.le_trans hb.size hg.size, fun k hk hne => ?_⟩ (fun k hk => ?_)
  · rw [hg.block k (by have := hb.size; omega) hne, hb.block k hk]
  · rcases ho with ho | ho
    · exact .inl (by rw [← ho]; exact hk)
    · rw [ho] at hk; cases hk; exact .inr hH

/-- Blocks that were not there before do no harm. -/
theorem Grew.below {w w1 w2 : World} {v v1 : Value} (h : Grew w v w1 v1) (hb : Below w1.heap.size w1 w2) : Grew w v w2 v1 := by
  refine ⟨⟨hb.os.trans h.by_.os, hb.tape.trans h.by_.tape, hb.output.trans h.by_.output, Nat.le_trans h.by_.size hb.size, fun k hk hne => ?_⟩, h.own⟩
  rw [hb.block k (by have := h.by_.size; omega), h.by_.block k hk hne]

theorem Grew.below_of {w w' : World} {v v' : Value} (h : Grew w v w' v') {B : Nat} (hB : B ≤ w.heap.size) (hv : ∀ k, v.ownBlock = some k → B ≤ k) : Below B w w' :=
  (Below.refl _ _).grown h.by_ hB hv

/-- A slice of bytes that is read: nil, or it leads to the bytes; or it is empty, wherever it leads. -/
def SlB (w : World) (v : Value) (xs : List Nat) : Prop :=
  (v = .slice none 0 0 ∧ xs = []) ∨ (∃ g off cap, v = .slice (some ⟨g, off, none⟩) xs.length cap ∧ xs.length ≤ cap ∧ g < w.heap.size ∧ ∀ (i x : Nat), xs[i]? = some x → w.cell? ⟨g, off + i, none⟩ = some (.int .u8 (x : Int))) ∨
    ∃ a cap, v = .slice (some a) 0 cap ∧ xs = []
theorem SlB.empty {w w' : World} {v : Value} (h : SlB w v []) : SlB w' v [] := by
  rcases h with h | ⟨g, off, cap, h, -⟩ | h
  · exact Or.inl h
  · exact Or.inr (Or.inr ⟨_, cap, h, rfl⟩)
  · exact Or.inr (Or.inr h)

theorem SlB.below {w w' : World} {B : Nat} {v : Value} {xs : List Nat} (h : SlB w v xs) (hb : Below B w w') (hB : B = w.heap.size) : SlB w' v xs := by
  subst hB
  rcases h with h | ⟨g, off, cap, rfl, hc, hg, h⟩ | h
  · exact Or.inl h
  · exact Or.inr (Or.inl ⟨g, off, cap, rfl, hc, by have := hb.size; omega, fun i x hx => (hb.cell (p := ⟨g, off + i, none⟩) hg).trans (h i x hx)⟩)
  · exact Or.inr (Or.inr h)

theorem SlB.shape {w : World} {v : Value} {xs : List Nat} (h : SlB w v xs) : ∃ a cap, v = .slice a xs.length cap ∧ xs.length ≤ cap := by
  rcases h with ⟨rfl, rfl⟩ | ⟨g, off, cap, rfl, hc, _⟩ | ⟨a, cap, rfl, rfl⟩
  · exact ⟨none, 0, rfl, by simp⟩
  · exact ⟨_, cap, rfl, hc⟩
  · exact ⟨some a, cap, rfl, by simp⟩

theorem SlB.nil (w : World) : SlB w (.slice none 0 0) [] := Or.inl ⟨rfl, rfl⟩

theorem addr_add (g i : Nat) : (⟨g, 0, none⟩ : Addr).add i = ⟨g, i, none⟩ := by
  unfold Addr.add; split <;> simp_all

theorem addr_add' (g off i : Nat) : (⟨g, off, none⟩ : Addr).add i = ⟨g, off + i, none⟩ := by
  unfold Addr.add; split <;> simp_all

/-- A block of bytes that was just made. -/
theorem slB_new (w : World) (xs : List Nat) (t : TypeId) : SlB (w.alloc (.cells (bcells xs).toArray t)) (.slice (some ⟨w.heap.size, 0, none⟩) xs.length xs.length) xs := by
  refine Or.inr (Or.inl ⟨w.heap.size, 0, xs.length, rfl, Nat.le_refl _, by simp, fun i x hx => ?_⟩)
  rw [Nat.zero_add, cell_of_row _ _ _ _ _ _ (heap_alloc_new w _)]
  simpa using bcells_get xs i x hx

/-- What a call owns can be read. -/
theorem owns_read {w : World} {base n : Nat} {e : TypeId} {v : Value} {xs : List Nat} (h : w.ownsRow base e 1 v n (bcells xs)) : n = xs.length ∧ SlB w v xs := by
  have hn : n = xs.length := by have := h.1; rw [bcells_len] at this; omega
  subst hn
  refine ⟨rfl, ?_⟩
  rcases h.2 with ⟨rfl, h0⟩ | ⟨g, cap, cur, rfl, hb, hg, h1, h2, h3, h4⟩
  · exact Or.inl ⟨rfl, List.eq_nil_of_length_eq_zero h0⟩
  · refine Or.inr (Or.inl ⟨g, 0, cap, rfl, h1, (Array.getElem?_eq_some_iff.1 hg).1, fun i x hx => ?_⟩)
    have := h.cells (g := g) rfl i (.int .u8 (x : Int)) (bcells_get xs i x hx)
    rw [addr_add] at this
    rwa [Nat.zero_add]

theorem slB_news {w : World} {g off : Nat} {xs : List Nat} (h : ∀ (i x : Nat), xs[i]? = some x → w.cell? ⟨g, off + i, none⟩ = some (.int .u8 (x : Int))) :
    ∀ j u, (bcells xs)[j]? = some u → w.cell? ((⟨g, off, none⟩ : Addr).add j) = some u := by
  intro j u hu
  obtain ⟨x, hx, rfl⟩ := bcells_get' xs j u hu
  rw [addr_add']
  exact h j x hx

/-- THE LAW of append for bytes: a slice of one's own, with whatever bytes behind. -/
theorem wpList_append_bytes {w : World} {ops : Array Oper} {rest : List Oper} {o : Oper} {a : Act} {Q : Exit → Act → World → Prop} (hgd : o.guard = none) (s x : Operand)
    (ho : o.op = .call { callee := .builtin .append, args := #[s, x], argTypes := #[22, 22] })
    (base : Nat) (v : Value) (n : Nat) (xs : List Nat) (hs : a.eval s = v) (hown : w.ownsRow base 5 1 v n (bcells xs)) (y : Value) (ys : List Nat) (hx : a.eval x = y) (hy : SlB w y ys)
    (hbd : n + ys.length ≤ 70368744177664) (hbase : base ≤ w.heap.size)
    (h : ∀ v' w', w'.ownsRow base 5 1 v' (n + ys.length) (bcells (xs ++ ys)) → w.grownBy w' v.ownBlock → (v' = .slice none 0 0 ↔ v = .slice none 0 0 ∧ ys = []) → (v'.ownBlock = v.ownBlock ∨ v'.ownBlock = some w.heap.size) →
      wpList Tryz.prog ops Q rest (a.put o.dst v') w') : wpList Tryz.prog ops Q (o :: rest) a w := by
  obtain ⟨i0, hi, hz0, hz1, hz2⟩ := info_parts infoU8
  rcases hy with ⟨rfl, rfl⟩ | ⟨g, off, cap, rfl, _, _, hc⟩ | ⟨a, cap, rfl, rfl⟩
  · refine wpList_append_own_none hgd s x _ ho base 5 i0 1 Tryz.underlying22 hi v n (bcells xs) hs hown hx ?_
    exact h v w (by simpa using hown) ⟨rfl, rfl, rfl, Nat.le_refl _, fun _ _ _ => rfl⟩ (by simp) (.inl rfl)
  · refine wpList_append_own_at w hgd s x _ ho base 5 i0 (.int .u8 0) 1 1 Tryz.underlying22 hi hz0 hz1 hz2 rfl (by decide) v n (bcells xs) hs hown ⟨g, off, none⟩ ys.length cap (bcells ys) hx
      (by rw [bcells_len]; omega) (slB_news hc) (bcells_cell ys) (by unfold maxLen; omega) (by omega) hbase fun v' w' h1 h2 h3 h4 => ?_
    exact h v' w' (by rw [bcells_app]; exact h1) h2 (by rw [h3]; constructor <;> rintro ⟨a, b⟩ <;> refine ⟨a, ?_⟩; exact List.eq_nil_of_length_eq_zero b; rw [b]; rfl) h4
  · refine wpList_append_own_at w hgd s x _ ho base 5 i0 (.int .u8 0) 1 1 Tryz.underlying22 hi hz0 hz1 hz2 rfl (by decide) v n (bcells xs) hs hown a 0 cap (bcells []) hx
      (by simp [bcells]) (by simp [bcells]) (bcells_cell []) (by unfold maxLen; simp at hbd; omega) (by simp at hbd; omega) hbase fun v' w' h1 h2 h3 h4 => ?_
    exact h v' w' (by rw [bcells_app]; exact h1) h2 (by rw [h3]; simp) h4

theorem owns_bound {w : World} {base n : Nat} {e : TypeId} {v : Value} {xs : List Value} {size : Nat} (h : w.ownsRow base e size v n xs) {base' : Nat} (hb : base' ≤ base) : w.ownsRow base' e size v n xs := by
  refine ⟨h.1, ?_⟩
  rcases h.2 with hn | ⟨g, cap, cur, rfl, hbg, rest⟩
  · exact .inl hn
  · exact .inr ⟨g, cap, cur, rfl, by omega, rest⟩

theorem owns_below {w w' : World} {base : Nat} {e : TypeId} {size : Nat} {v : Value} {n : Nat} {xs : List Value} (h : w.ownsRow base e size v n xs) (hb : Below w.heap.size w w') : w'.ownsRow base e size v n xs := by
  refine ⟨h.1, ?_⟩
  rcases h.2 with hn | ⟨g, cap, cur, rfl, hbg, hgg, rest⟩
  · exact .inl hn
  · exact .inr ⟨g, cap, cur, rfl, hbg, by rw [hb.block g (Array.getElem?_eq_some_iff.1 hgg).1]; exact hgg, rest⟩

theorem own_fresh {w' : World} {B : Nat} {e : TypeId} {size n : Nat} {v : Value} {xs : List Value} (h : w'.ownsRow B e size v n xs) : ∀ k, v.ownBlock = some k → B ≤ k := fun k hk => (World.ownsRow.lt h k hk).1

theorem ret_val {a b : Value} (h : a = b) : Ending.returned a = .returned b := by rw [h]

/-- The lowest bytes of a number. -/
def leB (n : Nat) (k : Nat) : List Nat := (List.range k).map fun i => n / 2 ^ (8 * i) % 256
theorem leB_len (n k : Nat) : (leB n k).length = k := by simp [leB]
theorem leB_snoc (n k : Nat) : leB n (k + 1) = leB n k ++ [n / 2 ^ (8 * k) % 256] := by simp [leB, List.range_succ]

set_option maxRecDepth 100000 in
set_option maxHeartbeats 400000 in
theorem little_any (n s m base : Nat) (xs : List Nat) (v : Value) (hs : s ≤ 8) (w : World) (hown : w.ownsRow base 5 1 v m (bcells xs)) (hb : base ≤ w.heap.size) (hm : m ≤ 1099511627776) :
    Calls Tryz.prog 167 #[v, .int .u64 n, .int .i64 s] w fun e w' => ∃ v', e = .returned v' ∧ w'.ownsRow base 5 1 v' (m + s) (bcells (xs ++ leB n s)) ∧ Grew w v w' v' := by
  have HO := Lib.hid hown
  clear hown
  go_enter Tryz.func167, Tryz.ntmps167
  go_wp2_with fail
  go_loopg [0, 9] s (fun r u j wr => ∃ k : Nat, k + r = s ∧ j = .int .i64 k ∧ wr.ownsRow base 5 1 u (m + k) (bcells (xs ++ leB n k)) ∧ Grew w v wr u ∧ base ≤ wr.heap.size)
  case atStart => exact ⟨0, by omega, rfl, by simpa [leB] using HO.out, Grew.refl _ _, hb⟩
  case round =>
    obtain ⟨k, hk, rfl, hown, hgr, hbr⟩ := hrel
    by_cases hlt : k < s
    · have hy := slB_new wr [n / 2 ^ (8 * k) % 256] 5
      rw [bcells_one, show ((n / 2 ^ (8 * k) % 256 : Nat) : Int) = (n : Int) / 2 ^ (8 * k) % 256 from by simp] at hy
      have HY := Lib.hid hy
      have HO2 := Lib.hid hown
      have HG := Lib.hid hgr
      clear hy hown hgr
      obtain ⟨gk, rfl⟩ : ∃ x, gk = x + 1 := ⟨gk - 1, by omega⟩
      go_wp2_with (at_builtin; refine wpList_append_bytes rfl _ _ rfl base _ _ _ rfl (HO2.out.alloc _) _ _ rfl HY.out ?c3 ?c5 ?_)
      case c3 => simp; omega
      case c5 => simp; omega
      intro v2 w4 hown' hgrow _ hat
      have hG := HG.out.push ((Below.refl _ _).alloc (Nat.le_refl _) _) hgrow hat (by omega)
      have hown2 : w4.ownsRow base 5 1 v2 (m + (k + 1)) (bcells (xs ++ leB n (k + 1))) := by
        rw [leB_snoc]; exact hown'
      have HO4 := Lib.hid hown2
      have HG4 := Lib.hid hG
      have hsz := hG.by_.size
      clear hown' hown2 hgrow hG hat
      go_wp2_with fail
      go_roundg gk
      case measure => omega
      case rel => exact ⟨k + 1, by omega, by go_num, HO4.out, HG4.out, by omega⟩
    · obtain rfl : k = s := by omega
      go_wp2_with fail
      go_ret
      exact ⟨_, rfl, hown, hgr⟩

set_option maxRecDepth 100000 in
set_option maxHeartbeats 400000 in
/-- slices.Clone of bytes: bytes of one's own; nil just if nil came in. -/
theorem clone_any (v : Value) (xs : List Nat) (w : World) (h : SlB w v xs) (hl : xs.length ≤ 1099511627776) :
    Calls Tryz.prog 77 #[v] w fun e w' => (∃ v', e = .returned v' ∧ w'.ownsRow w.heap.size 5 1 v' xs.length (bcells xs) ∧ (v' = .slice none 0 0 ↔ v = .slice none 0 0)) ∧ Below w.heap.size w w' := by
  have h0 := h
  have hs : (v = .slice none 0 0 ∧ xs = []) ∨ ∃ a cap, v = .slice (some a) xs.length cap := by
    rcases h with h | ⟨g, off, cap, h, -⟩ | ⟨a, cap, h, h2⟩
    · exact .inl h
    · exact .inr ⟨_, cap, h⟩
    · exact .inr ⟨a, cap, by rw [h, h2]; rfl⟩
  clear h
  rcases hs with ⟨rfl, rfl⟩ | ⟨aa, cap, rfl⟩
  · have hq := fun (w : World) => Lib.run_eql_slice_nil (P := Tryz.prog) w 22 5 none 0 0 0 0 Tryz.underlying22
    clear h0
    go_enter Tryz.func77, Tryz.ntmps77
    go_wp2_with fail
    go_ret
    exact ⟨⟨_, rfl, World.ownsRow_nil _ _ _ _, by simp⟩, Below.refl _ _⟩
  · have hq := fun (w : World) => Lib.run_eql_slice_nil (P := Tryz.prog) w 22 5 (some aa) xs.length cap 0 0 Tryz.underlying22
    have H0 := Lib.hid (h0.below ((Below.refl _ _).alloc (Nat.le_refl _) (.cells #[] 5)) rfl)
    clear h0
    have hown := World.ownsRow_made (base := w.heap.size) (e := 5) (size := 1) w #[] 0 (Nat.le_refl _) (by unfold maxLen; omega) rfl
    have HO := Lib.hid hown
    clear hown
    go_enter Tryz.func77, Tryz.ntmps77
    go_wp2_with (at_builtin; refine wpList_append_bytes rfl _ _ rfl w.heap.size _ 0 [] rfl HO.out _ xs rfl H0.out ?c3 ?c5 ?_)
    case c3 => omega
    case c5 => simp
    intro v2 w4 hown' hgrow hnil _
    have HO4 := Lib.hid hown'
    have HG := Lib.hid hgrow
    have HN := Lib.hid hnil
    clear hown' hgrow hnil
    go_wp2_with fail
    go_ret
    refine ⟨⟨_, rfl, ?_, ?_⟩, ?_⟩
    · exact HO4.out
    · exact ⟨fun e => absurd e HN.out, fun e => by cases e⟩
    · exact ((Below.refl _ _).alloc (Nat.le_refl _) _).grown HG.out (by simp) (fun k hk => by simp [Value.ownBlock] at hk; omega)

end Go.Proofs.YtncjffkpkmjgkaaGreatDoor.Sg

/-! SVi -/
namespace Go.Proofs.YtncjffkpkmjgkaaGreatDoor.Sg
open Go.RowKit

theorem bits_xor_nat (k : IntKind) (j : Nat) (hj : j ≤ k.bits) (hk : ∀ n : Int, 0 ≤ n → n < 2 ^ j → k.wrap n = n) (a b : Nat) (ha : a < 2 ^ j) (hb : b < 2 ^ j) :
    bits .xor k a b = ((a ^^^ b : Nat) : Int) := by
  have hp : 2 ^ j ≤ 2 ^ k.bits := Nat.pow_le_pow_right (by decide) hj
  have ha' : a % 2 ^ k.bits = a := Nat.mod_eq_of_lt (Nat.lt_of_lt_of_le ha hp)
  have hb' : b % 2 ^ k.bits = b := Nat.mod_eq_of_lt (Nat.lt_of_lt_of_le hb hp)
  have cast : ∀ n : Nat, n < 2 ^ j → ((n : Nat) : Int) < 2 ^ j := fun n h => by exact_mod_cast h
  simp only [bits, BitVec.ofInt_natCast, BitVec.toNat_xor, BitVec.toNat_ofNat, ha', hb']
  exact hk _ (Int.natCast_nonneg _) (cast _ (Nat.xor_lt_two_pow ha hb))

theorem wraps_u64 (n : Int) (h₀ : 0 ≤ n) (h₁ : n < 2 ^ 64) : IntKind.u64.wrap n = n := by
  simp only [IntKind.wrap, IntKind.bits, IntKind.signed]; simp; omega
theorem wraps_u32 (n : Int) (h₀ : 0 ≤ n) (h₁ : n < 2 ^ 32) : IntKind.u32.wrap n = n := by
  rw [IntKind.wrap_u32]; omega

theorem xor64 (a b : Nat) (ha : a < 18446744073709551616) (hb : b < 18446744073709551616) : bits .xor .u64 a b = ((a ^^^ b : Nat) : Int) := bits_xor_nat .u64 64 (by decide) wraps_u64 a b ha hb
theorem or64 (a b : Nat) (ha : a < 18446744073709551616) (hb : b < 18446744073709551616) : bits .or .u64 a b = ((a ||| b : Nat) : Int) := (bits_nat .u64 64 (by decide) wraps_u64 a b ha hb).2
theorem and64 (a b : Nat) (ha : a < 18446744073709551616) (hb : b < 18446744073709551616) : bits .and .u64 a b = ((a &&& b : Nat) : Int) := (bits_nat .u64 64 (by decide) wraps_u64 a b ha hb).1
theorem xor32 (a b : Nat) (ha : a < 4294967296) (hb : b < 4294967296) : bits .xor .u32 a b = ((a ^^^ b : Nat) : Int) := bits_xor_nat .u32 32 (by decide) wraps_u32 a b ha hb
theorem and32 (a b : Nat) (ha : a < 4294967296) (hb : b < 4294967296) : bits .and .u32 a b = ((a &&& b : Nat) : Int) := (bits_nat .u32 32 (by decide) wraps_u32 a b ha hb).1
theorem or8 (a b : Nat) (ha : a < 256) (hb : b < 256) : bits .or .u8 a b = ((a ||| b : Nat) : Int) := (bits_nat .u8 8 (by decide) wraps_u8 a b ha hb).2
theorem and8 (a b : Nat) (ha : a < 256) (hb : b < 256) : bits .and .u8 a b = ((a &&& b : Nat) : Int) := (bits_nat .u8 8 (by decide) wraps_u8 a b ha hb).1

set_option maxRecDepth 100000 in
theorem or128 (n : Nat) : bits .or .u8 ((n : Int) % 256) 128 = ((n % 128 + 128 : Nat) : Int) := by
  have h := or8 (n % 256) 128 (by omega) (by omega)
  have d : ∀ b : Fin 256, b.val ||| 128 = b.val % 128 + 128 := by decide
  have := d ⟨n % 256, by omega⟩
  simp only at this
  rw [this] at h
  rw [show ((n : Int) % 256) = ((n % 256 : Nat) : Int) from by simp]
  rw [show (n % 128 + 128 : Nat) = n % 256 % 128 + 128 from by omega]
  exact h

/-- A number's bytes, seven bits each. -/
def vput (n : Nat) : List Nat := if n < 128 then [n] else (n % 128 + 128) :: vput (n / 128)
termination_by n
decreasing_by omega

theorem vput_small (n : Nat) (h : n < 128) : vput n = [n] := by rw [vput, if_pos h]
theorem vput_big (n : Nat) (h : ¬ n < 128) : vput n = (n % 128 + 128) :: vput (n / 128) := by rw [vput, if_neg h]

theorem vput_len (k : Nat) : ∀ n, n < 128 ^ (k + 1) → (vput n).length ≤ k + 1 := by
  induction k with
  | zero => intro n h; rw [vput_small n (by simpa using h)]; simp
  | succ k ih =>
    intro n h
    by_cases hn : n < 128
    · rw [vput_small n hn]; simp
    · rw [vput_big n hn]
      have := ih (n / 128) (by rw [Nat.div_lt_iff_lt_mul (by omega), ← Nat.pow_succ]; exact h)
      simp; omega
theorem vput_len64 (n : Nat) (h : n < 18446744073709551616) : (vput n).length ≤ 10 := vput_len 9 n (by omega)
theorem vput_pos (n : Nat) : 0 < (vput n).length := by
  by_cases h : n < 128
  · rw [vput_small n h]; simp
  · rw [vput_big n h]; simp
theorem vput_lt (n : Nat) : ∀ x ∈ vput n, x < 256 := by
  induction n using Nat.strongRecOn with
  | _ n ih =>
    by_cases h : n < 128
    · rw [vput_small n h]; intro x hx; simp at hx; omega
    · rw [vput_big n h]
      intro x hx
      rcases List.mem_cons.1 hx with rfl | hx
      · omega
      · exact ih (n / 128) (by omega) x hx

theorem ten_rounds (m k : Nat) (h : m * 128 ^ k < 18446744073709551616) (hm : 128 ≤ m) : k ≤ 8 := by
  rcases Nat.lt_or_ge 8 k with hk | hk
  · have h1 : 128 ^ 9 ≤ 128 ^ k := Nat.pow_le_pow_right (by omega) hk
    have h2 : 128 * 128 ^ k ≤ m * 128 ^ k := Nat.mul_le_mul_right _ hm
    omega
  · exact hk

theorem step_round (m k : Nat) (h : m * 128 ^ k < 18446744073709551616) : m / 128 * 128 ^ (k + 1) < 18446744073709551616 := by
  have h1 : m / 128 * 128 ≤ m := Nat.div_mul_le_self m 128
  have h2 : m / 128 * 128 ^ (k + 1) = m / 128 * 128 * 128 ^ k := by rw [Nat.pow_succ, Nat.mul_assoc, Nat.mul_comm (128 ^ k) 128]
  rw [h2]
  exact Nat.lt_of_le_of_lt (Nat.mul_le_mul_right _ h1) h

set_option maxRecDepth 100000 in
set_option maxHeartbeats 400000 in
theorem put_any (n : Nat) (hn : n < 18446744073709551616) (v : Value) (xs : List Nat) (w : World) (h : SlB w v xs) (hl : xs.length ≤ 1099511627776) :
    Calls Tryz.prog 181 #[v, .int .u64 n] w fun e w' => (∃ v', e = .returned v' ∧ w'.ownsRow w.heap.size 5 1 v' (xs ++ vput n).length (bcells (xs ++ vput n))) ∧ Below w.heap.size w w' := by
  have H0 := Lib.hid h
  clear h
  go_enter Tryz.func181, Tryz.ntmps181
  go_wp2_with fail
  refine (clone_any v xs w H0.out hl).mono ?_
  rintro e w1 ⟨⟨v1, rfl, hown, _⟩, hb1⟩
  have HO := Lib.hid hown
  have hw1 := hb1.size
  clear hown
  go_wp2_with fail
  go_loopg [1, 5] n (fun r m u wr => ∃ (q : Nat) (pre : List Nat), q ≤ r ∧ m = .int .u64 q ∧ q * 128 ^ pre.length < 18446744073709551616 ∧ pre ++ vput q = vput n ∧ wr.ownsRow w.heap.size 5 1 u (xs.length + pre.length) (bcells (xs ++ pre)) ∧ Below w.heap.size w wr)
  case atStart => exact ⟨n, [], by omega, rfl, by simpa using hn, rfl, by simpa using HO.out, hb1⟩
  case round =>
    obtain ⟨q, pre, hq, rfl, hlim, hpre, hown, hb⟩ := hrel
    have hq64 : q < 18446744073709551616 := by
      have : q * 1 ≤ q * 128 ^ pre.length := Nat.mul_le_mul_left _ (Nat.pos_of_ne_zero (by simp))
      omega
    have hsz := hb.size
    have HO2 := Lib.hid hown
    have HL := Lib.hid hlim
    have HP := Lib.hid hpre
    clear hown hlim hpre
    by_cases hge : 128 ≤ q
    · have hk := ten_rounds q pre.length HL.out hge
      have hst := Lib.hid (step_round q pre.length HL.out)
      have hy := slB_new wr [q % 128 + 128] 5
      rw [bcells_one, ← or128 q] at hy
      have HY := Lib.hid hy
      clear hy
      obtain ⟨gk, rfl⟩ : ∃ x, gk = x + 1 := ⟨gk - 1, by omega⟩
      go_wp2_with (at_builtin; refine wpList_append_bytes rfl _ _ rfl w.heap.size _ _ _ rfl (HO2.out.alloc _) _ _ rfl HY.out ?c3 ?c5 ?_)
      case c3 => simp; omega
      case c5 => simp; omega
      intro v2 w4 hown' hgrow _ hat
      have hb4 : Below w.heap.size w w4 := (hb.alloc hsz _).grown hgrow (by simp; omega) (own_fresh HO2.out)
      have HO4 := Lib.hid hown'
      have HB4 := Lib.hid hb4
      clear hown' hgrow hat hb4
      go_wp2_with fail
      go_roundg gk
      case measure => omega
      case rel => exact ⟨q / 128, pre ++ [q % 128 + 128], by omega, by simp, by have := hst.out; simpa using this, by rw [← HP.out, vput_big q (by omega)]; simp, by have := HO4.out; simpa [Nat.add_assoc] using this, HB4.out⟩
    · have hy := slB_new wr [q] 5
      rw [bcells_one] at hy
      have hqm : (q : Int) % 256 = (q : Int) := by omega
      have HY := Lib.hid hy
      have HQ := Lib.hid hqm
      have hlen : pre.length ≤ 20 := by
        have := vput_len64 n hn
        rw [← HP.out] at this
        simp at this; omega
      have HF : Hid (xs ++ vput n = xs ++ pre ++ [q]) := by
        show _ = _
        rw [← HP.out, vput_small q (by omega)]; simp
      clear hy hqm
      go_wp2_with (at_builtin; refine wpList_append_bytes rfl _ _ rfl w.heap.size _ _ _ rfl (HO2.out.alloc _) _ _ rfl HY.out ?c3 ?c5 ?_)
      case c3 => simp; omega
      case c5 => simp; omega
      intro v2 w4 hown' hgrow _ hat
      have hb4 : Below w.heap.size w w4 := (hb.alloc hsz _).grown hgrow (by simp; omega) (own_fresh HO2.out)
      have HO4 := Lib.hid hown'
      have HB4 := Lib.hid hb4
      clear hown' hgrow hat hb4
      go_wp2_with fail
      go_ret
      refine ⟨⟨_, rfl, ?_⟩, HB4.out⟩
      rw [HF.out]
      have := HO4.out
      simpa [Nat.add_assoc] using this

end Go.Proofs.YtncjffkpkmjgkaaGreatDoor.Sg

/-! SCr -/
namespace Go.Proofs.YtncjffkpkmjgkaaGreatDoor.Sg
open Go.RowKit

/-- One bit of the table's sums, as the code has it. -/
def hst (x : Int) : Int := bits .xor .u32 (x / 2) (bits .and .u32 (-(bits .and .u32 x 1) % 4294967296) 2197175160)
def hn4 : Nat → Int → Int | 0, x => x | n + 1, x => hst (hn4 n x)
def hTab (i : Nat) : Int := hn4 4 (i : Int)

def zz : List Value := List.replicate 16 (.int .u32 0)
theorem z16 : ∀ i, i < zz.toArray.size → zz.toArray[i]? = some (.int .u32 0) := fun i h => by
  have h' : i < 16 := h
  rw [List.getElem?_toArray]; unfold zz; rw [List.getElem?_replicate, if_pos h']
theorem z16' : ∀ i, i < zz.toArray.size → zz.toArray[i]? = some (if i < 0 then .int .u32 (hTab i) else .int .u32 0) := fun i h => by rw [if_neg (by omega)]; exact z16 i h

set_option maxRecDepth 100000 in
set_option maxHeartbeats 400000 in
theorem halves_any (w : World) : Calls Tryz.prog 201 #[] w fun e w' => e = .returned (.agg #[.int .u32 (hTab 0), .int .u32 (hTab 1), .int .u32 (hTab 2), .int .u32 (hTab 3), .int .u32 (hTab 4), .int .u32 (hTab 5), .int .u32 (hTab 6), .int .u32 (hTab 7), .int .u32 (hTab 8), .int .u32 (hTab 9), .int .u32 (hTab 10), .int .u32 (hTab 11), .int .u32 (hTab 12), .int .u32 (hTab 13), .int .u32 (hTab 14), .int .u32 (hTab 15)]) ∧ Below w.heap.size w w' := by
  go_enter Tryz.func201, Tryz.ntmps201
  go_wp2_with fail
  go_loopg [4] 16 (fun r i wr => ∃ k : Nat, k + r = 16 ∧ i = .int .i64 k ∧ wr.rowIs (w.heap.size + 1) 254 16 (fun j => if j < k then .int .u32 (hTab j) else .int .u32 0) ∧ wr.rowIs w.heap.size 254 16 (fun _ => .int .u32 0) ∧ Below w.heap.size w wr)
  case atStart =>
    have h0 := World.rowIs_alloc w zz.toArray 254 (fun _ => .int .u32 0) z16
    have h1 := World.rowIs_alloc (w.alloc (.cells zz.toArray 254)) zz.toArray 254 (fun j => if j < 0 then .int .u32 (hTab j) else .int .u32 0) z16'
    rw [show (w.alloc (.cells zz.toArray 254)).heap.size = w.heap.size + 1 from by simp] at h1
    exact ⟨0, rfl, rfl, h1, h0.alloc _, ((Below.refl _ _).alloc (Nat.le_refl _) _).alloc (by simp) _⟩
  case round =>
    obtain ⟨k, hk, rfl, hrow, hrow0, hb⟩ := hrel
    by_cases hlt : k < 16
    · have HR := Lib.hid hrow
      have HR0 := Lib.hid hrow0
      clear hrow hrow0
      obtain ⟨go, rfl⟩ : ∃ x, gk = x + 1 := ⟨gk - 1, by omega⟩
      go_wp2_with fail
      go_loopg [3, 9] 4 (fun r x j wq => ∃ n : Nat, n + r = 4 ∧ j = .int .i64 n ∧ x = .int .u32 (hn4 n k) ∧ wq = wr)
      case atStart => exact ⟨0, rfl, rfl, rfl, rfl⟩
      case round =>
        obtain ⟨n, hn, rfl, rfl, rfl⟩ := hrel
        by_cases hl4 : n < 4
        · obtain ⟨gj, rfl⟩ : ∃ x, gk = x + 1 := ⟨gk - 1, by omega⟩
          go_wp2_with fail
          go_roundg gj
          case measure => omega
          case rel => exact ⟨n + 1, by omega, by go_num, rfl, rfl⟩
        · obtain rfl : n = 4 := by omega
          have hf := HR.out.frozen k
          have hc := HR.out.cell hlt
          go_wp2_with fail
          go_roundg go
          case measure => omega
          case rel =>
            refine ⟨k + 1, by omega, by go_num, (HR.out.set k _).congr (fun i _ => ?_), HR0.out.setOther (by simp) _, hb.setCell (by simp) _⟩
            by_cases hik : i = k
            · subst hik; simp [hTab]
            · have : i < k + 1 ↔ i < k := by omega
              simp only [hik, this, if_false]
    · obtain rfl : k = 16 := by omega
      have c0 : wr.cell? ⟨w.heap.size + 1, 0, none⟩ = some (.int .u32 (hTab 0)) := hrow.cell (i := 0) (by omega)
      have c1 : wr.cell? ⟨w.heap.size + 1, 1, none⟩ = some (.int .u32 (hTab 1)) := hrow.cell (i := 1) (by omega)
      have c2 : wr.cell? ⟨w.heap.size + 1, 2, none⟩ = some (.int .u32 (hTab 2)) := hrow.cell (i := 2) (by omega)
      have c3 : wr.cell? ⟨w.heap.size + 1, 3, none⟩ = some (.int .u32 (hTab 3)) := hrow.cell (i := 3) (by omega)
      have c4 : wr.cell? ⟨w.heap.size + 1, 4, none⟩ = some (.int .u32 (hTab 4)) := hrow.cell (i := 4) (by omega)
      have c5 : wr.cell? ⟨w.heap.size + 1, 5, none⟩ = some (.int .u32 (hTab 5)) := hrow.cell (i := 5) (by omega)
      have c6 : wr.cell? ⟨w.heap.size + 1, 6, none⟩ = some (.int .u32 (hTab 6)) := hrow.cell (i := 6) (by omega)
      have c7 : wr.cell? ⟨w.heap.size + 1, 7, none⟩ = some (.int .u32 (hTab 7)) := hrow.cell (i := 7) (by omega)
      have c8 : wr.cell? ⟨w.heap.size + 1, 8, none⟩ = some (.int .u32 (hTab 8)) := hrow.cell (i := 8) (by omega)
      have c9 : wr.cell? ⟨w.heap.size + 1, 9, none⟩ = some (.int .u32 (hTab 9)) := hrow.cell (i := 9) (by omega)
      have c10 : wr.cell? ⟨w.heap.size + 1, 10, none⟩ = some (.int .u32 (hTab 10)) := hrow.cell (i := 10) (by omega)
      have c11 : wr.cell? ⟨w.heap.size + 1, 11, none⟩ = some (.int .u32 (hTab 11)) := hrow.cell (i := 11) (by omega)
      have c12 : wr.cell? ⟨w.heap.size + 1, 12, none⟩ = some (.int .u32 (hTab 12)) := hrow.cell (i := 12) (by omega)
      have c13 : wr.cell? ⟨w.heap.size + 1, 13, none⟩ = some (.int .u32 (hTab 13)) := hrow.cell (i := 13) (by omega)
      have c14 : wr.cell? ⟨w.heap.size + 1, 14, none⟩ = some (.int .u32 (hTab 14)) := hrow.cell (i := 14) (by omega)
      have c15 : wr.cell? ⟨w.heap.size + 1, 15, none⟩ = some (.int .u32 (hTab 15)) := hrow.cell (i := 15) (by omega)
      have d0 := hrow0.cell (i := 0) (by omega)
      have f0 := hrow0.frozen 0
      have d1 := hrow0.cell (i := 1) (by omega)
      have f1 := hrow0.frozen 1
      have d2 := hrow0.cell (i := 2) (by omega)
      have f2 := hrow0.frozen 2
      have d3 := hrow0.cell (i := 3) (by omega)
      have f3 := hrow0.frozen 3
      have d4 := hrow0.cell (i := 4) (by omega)
      have f4 := hrow0.frozen 4
      have d5 := hrow0.cell (i := 5) (by omega)
      have f5 := hrow0.frozen 5
      have d6 := hrow0.cell (i := 6) (by omega)
      have f6 := hrow0.frozen 6
      have d7 := hrow0.cell (i := 7) (by omega)
      have f7 := hrow0.frozen 7
      have d8 := hrow0.cell (i := 8) (by omega)
      have f8 := hrow0.frozen 8
      have d9 := hrow0.cell (i := 9) (by omega)
      have f9 := hrow0.frozen 9
      have d10 := hrow0.cell (i := 10) (by omega)
      have f10 := hrow0.frozen 10
      have d11 := hrow0.cell (i := 11) (by omega)
      have f11 := hrow0.frozen 11
      have d12 := hrow0.cell (i := 12) (by omega)
      have f12 := hrow0.frozen 12
      have d13 := hrow0.cell (i := 13) (by omega)
      have f13 := hrow0.frozen 13
      have d14 := hrow0.cell (i := 14) (by omega)
      have f14 := hrow0.frozen 14
      have d15 := hrow0.cell (i := 15) (by omega)
      have f15 := hrow0.frozen 15
      have HB := Lib.hid hb
      have HR0 := Lib.hid hrow0
      clear hb hrow hrow0
      go_wp2_with fail
      generalize hw : (((((((((((((((wr.setCell ⟨w.heap.size, 0, none⟩ (.int .u32 (hTab 0))).setCell ⟨w.heap.size, 1, none⟩ (.int .u32 (hTab 1))).setCell ⟨w.heap.size, 2, none⟩ (.int .u32 (hTab 2))).setCell ⟨w.heap.size, 3, none⟩ (.int .u32 (hTab 3))).setCell ⟨w.heap.size, 4, none⟩ (.int .u32 (hTab 4))).setCell ⟨w.heap.size, 5, none⟩ (.int .u32 (hTab 5))).setCell ⟨w.heap.size, 6, none⟩ (.int .u32 (hTab 6))).setCell ⟨w.heap.size, 7, none⟩ (.int .u32 (hTab 7))).setCell ⟨w.heap.size, 8, none⟩ (.int .u32 (hTab 8))).setCell ⟨w.heap.size, 9, none⟩ (.int .u32 (hTab 9))).setCell ⟨w.heap.size, 10, none⟩ (.int .u32 (hTab 10))).setCell ⟨w.heap.size, 11, none⟩ (.int .u32 (hTab 11))).setCell ⟨w.heap.size, 12, none⟩ (.int .u32 (hTab 12))).setCell ⟨w.heap.size, 13, none⟩ (.int .u32 (hTab 13))).setCell ⟨w.heap.size, 14, none⟩ (.int .u32 (hTab 14))).setCell ⟨w.heap.size, 15, none⟩ (.int .u32 (hTab 15)) = w3
      have hr := ((((((((((((((((HR0.out.set 0 (.int .u32 (hTab 0))).set 1 (.int .u32 (hTab 1))).set 2 (.int .u32 (hTab 2))).set 3 (.int .u32 (hTab 3))).set 4 (.int .u32 (hTab 4))).set 5 (.int .u32 (hTab 5))).set 6 (.int .u32 (hTab 6))).set 7 (.int .u32 (hTab 7))).set 8 (.int .u32 (hTab 8))).set 9 (.int .u32 (hTab 9))).set 10 (.int .u32 (hTab 10))).set 11 (.int .u32 (hTab 11))).set 12 (.int .u32 (hTab 12))).set 13 (.int .u32 (hTab 13))).set 14 (.int .u32 (hTab 14))).set 15 (.int .u32 (hTab 15)))
      have hbb := ((((((((((((((((HB.out.setCell (show w.heap.size ≤ (⟨w.heap.size, 0, none⟩ : Addr).block from Nat.le_refl _) (.int .u32 (hTab 0))).setCell (show w.heap.size ≤ (⟨w.heap.size, 1, none⟩ : Addr).block from Nat.le_refl _) (.int .u32 (hTab 1))).setCell (show w.heap.size ≤ (⟨w.heap.size, 2, none⟩ : Addr).block from Nat.le_refl _) (.int .u32 (hTab 2))).setCell (show w.heap.size ≤ (⟨w.heap.size, 3, none⟩ : Addr).block from Nat.le_refl _) (.int .u32 (hTab 3))).setCell (show w.heap.size ≤ (⟨w.heap.size, 4, none⟩ : Addr).block from Nat.le_refl _) (.int .u32 (hTab 4))).setCell (show w.heap.size ≤ (⟨w.heap.size, 5, none⟩ : Addr).block from Nat.le_refl _) (.int .u32 (hTab 5))).setCell (show w.heap.size ≤ (⟨w.heap.size, 6, none⟩ : Addr).block from Nat.le_refl _) (.int .u32 (hTab 6))).setCell (show w.heap.size ≤ (⟨w.heap.size, 7, none⟩ : Addr).block from Nat.le_refl _) (.int .u32 (hTab 7))).setCell (show w.heap.size ≤ (⟨w.heap.size, 8, none⟩ : Addr).block from Nat.le_refl _) (.int .u32 (hTab 8))).setCell (show w.heap.size ≤ (⟨w.heap.size, 9, none⟩ : Addr).block from Nat.le_refl _) (.int .u32 (hTab 9))).setCell (show w.heap.size ≤ (⟨w.heap.size, 10, none⟩ : Addr).block from Nat.le_refl _) (.int .u32 (hTab 10))).setCell (show w.heap.size ≤ (⟨w.heap.size, 11, none⟩ : Addr).block from Nat.le_refl _) (.int .u32 (hTab 11))).setCell (show w.heap.size ≤ (⟨w.heap.size, 12, none⟩ : Addr).block from Nat.le_refl _) (.int .u32 (hTab 12))).setCell (show w.heap.size ≤ (⟨w.heap.size, 13, none⟩ : Addr).block from Nat.le_refl _) (.int .u32 (hTab 13))).setCell (show w.heap.size ≤ (⟨w.heap.size, 14, none⟩ : Addr).block from Nat.le_refl _) (.int .u32 (hTab 14))).setCell (show w.heap.size ≤ (⟨w.heap.size, 15, none⟩ : Addr).block from Nat.le_refl _) (.int .u32 (hTab 15)))
      rw [hw] at hr hbb
      have e0 : w3.cell? ⟨w.heap.size, 0, none⟩ = some (.int .u32 (hTab 0)) := hr.cell (i := 0) (by omega)
      have e1 : w3.cell? ⟨w.heap.size, 1, none⟩ = some (.int .u32 (hTab 1)) := hr.cell (i := 1) (by omega)
      have e2 : w3.cell? ⟨w.heap.size, 2, none⟩ = some (.int .u32 (hTab 2)) := hr.cell (i := 2) (by omega)
      have e3 : w3.cell? ⟨w.heap.size, 3, none⟩ = some (.int .u32 (hTab 3)) := hr.cell (i := 3) (by omega)
      have e4 : w3.cell? ⟨w.heap.size, 4, none⟩ = some (.int .u32 (hTab 4)) := hr.cell (i := 4) (by omega)
      have e5 : w3.cell? ⟨w.heap.size, 5, none⟩ = some (.int .u32 (hTab 5)) := hr.cell (i := 5) (by omega)
      have e6 : w3.cell? ⟨w.heap.size, 6, none⟩ = some (.int .u32 (hTab 6)) := hr.cell (i := 6) (by omega)
      have e7 : w3.cell? ⟨w.heap.size, 7, none⟩ = some (.int .u32 (hTab 7)) := hr.cell (i := 7) (by omega)
      have e8 : w3.cell? ⟨w.heap.size, 8, none⟩ = some (.int .u32 (hTab 8)) := hr.cell (i := 8) (by omega)
      have e9 : w3.cell? ⟨w.heap.size, 9, none⟩ = some (.int .u32 (hTab 9)) := hr.cell (i := 9) (by omega)
      have e10 : w3.cell? ⟨w.heap.size, 10, none⟩ = some (.int .u32 (hTab 10)) := hr.cell (i := 10) (by omega)
      have e11 : w3.cell? ⟨w.heap.size, 11, none⟩ = some (.int .u32 (hTab 11)) := hr.cell (i := 11) (by omega)
      have e12 : w3.cell? ⟨w.heap.size, 12, none⟩ = some (.int .u32 (hTab 12)) := hr.cell (i := 12) (by omega)
      have e13 : w3.cell? ⟨w.heap.size, 13, none⟩ = some (.int .u32 (hTab 13)) := hr.cell (i := 13) (by omega)
      have e14 : w3.cell? ⟨w.heap.size, 14, none⟩ = some (.int .u32 (hTab 14)) := hr.cell (i := 14) (by omega)
      have e15 : w3.cell? ⟨w.heap.size, 15, none⟩ = some (.int .u32 (hTab 15)) := hr.cell (i := 15) (by omega)
      exact bodyPost_ret (v := .agg #[.int .u32 (hTab 0), .int .u32 (hTab 1), .int .u32 (hTab 2), .int .u32 (hTab 3), .int .u32 (hTab 4), .int .u32 (hTab 5), .int .u32 (hTab 6), .int .u32 (hTab 7), .int .u32 (hTab 8), .int .u32 (hTab 9), .int .u32 (hTab 10), .int .u32 (hTab 11), .int .u32 (hTab 12), .int .u32 (hTab 13), .int .u32 (hTab 14), .int .u32 (hTab 15)]) (by simp [results, Tryz.results201, go_sem, e0, e1, e2, e3, e4, e5, e6, e7, e8, e9, e10, e11, e12, e13, e14, e15]) rfl ⟨rfl, hbb⟩

def hNat (i : Nat) : Nat := (hTab i).toNat
set_option maxRecDepth 100000 in
theorem hTab_nat : ∀ i : Nat, i < 16 → hTab i = (hNat i : Int) ∧ hNat i < 4294967296 := by
  have h : ∀ i : Fin 16, hTab i.val = (hNat i.val : Int) ∧ hNat i.val < 4294967296 := by decide +kernel
  exact fun i hi => h ⟨i, hi⟩

def cS (s : Nat) : Nat := (s / 16) ^^^ hNat (s % 16)
theorem cS_lt (s : Nat) (h : s < 4294967296) : cS s < 4294967296 := Nat.xor_lt_two_pow (n := 32) (by omega) (hTab_nat _ (by omega)).2
def cB (s c : Nat) : Nat := cS (cS (s ^^^ c))
theorem cB_lt (s c : Nat) (h : s < 4294967296) (hc : c < 256) : cB s c < 4294967296 := cS_lt _ (cS_lt _ (Nat.xor_lt_two_pow (n := 32) h (by omega)))
def cRow (s : Nat) (xs : List Nat) : Nat := xs.foldl cB s
theorem cRow_snoc (s : Nat) (xs : List Nat) (c : Nat) : cRow s (xs ++ [c]) = cB (cRow s xs) c := by simp [cRow]
theorem cRow_lt (s : Nat) (xs : List Nat) (h : s < 4294967296) (hx : ∀ x ∈ xs, x < 256) : cRow s xs < 4294967296 := by
  induction xs generalizing s with
  | nil => exact h
  | cons c xs ih => exact ih _ (cB_lt s c h (hx c (by simp))) (fun x hm => hx x (by simp [hm]))
/-- The sum of a text, with what was ahead. -/
def crcF (s : Nat) (xs : List Nat) : Nat := 4294967295 - cRow (4294967295 - s) xs
theorem crcF_lt (s : Nat) (xs : List Nat) : crcF s xs < 4294967296 := by unfold crcF; omega

theorem and15 (s : Nat) (h : s < 4294967296) : bits .and .u32 (s : Int) 15 = ((s % 16 : Nat) : Int) := by
  have := and32 s 15 h (by omega)
  rw [show (15 : Nat) = 2 ^ 4 - 1 from rfl, Nat.and_two_pow_sub_one_eq_mod] at this
  exact this

theorem not32 (s : Nat) (h : s < 4294967296) : bits .xor .u32 IntKind.u32.max (s : Int) = ((4294967295 - s : Nat) : Int) := by
  have h1 := xor32 4294967295 s (by omega) h
  rw [show IntKind.u32.max = ((4294967295 : Nat) : Int) from by decide, h1]
  congr 1
  refine Nat.eq_of_testBit_eq fun i => ?_
  rw [show 4294967295 - s = 2 ^ 32 - (s + 1) from by omega, Nat.testBit_two_pow_sub_succ (by omega), show (4294967295 : Nat) = 2 ^ 32 - 1 from rfl, Nat.testBit_xor, Nat.testBit_two_pow_sub_one]
  by_cases hi : i < 32
  · simp [hi]
  · simp [hi, Nat.testBit_lt_two_pow (Nat.lt_of_lt_of_le (show s < 2 ^ 32 from h) (Nat.pow_le_pow_right (by omega) (Nat.le_of_not_lt hi)))]

theorem cS_eq (s j : Nat) (h : s < 4294967296) (hj : j = s % 16) : bits .xor .u32 ((s : Int) / 16) (hTab j) = (cS s : Int) := by
  subst hj
  rw [(hTab_nat _ (Nat.mod_lt _ (by omega))).1]
  exact xor32 (s / 16) (hNat (s % 16)) (by omega) (hTab_nat _ (by omega)).2

theorem slB_cell {w : World} {v : Value} {xs : List Nat} (h : SlB w v xs) {k : Nat} (hk : k < xs.length) : ∃ g off cap, v = .slice (some ⟨g, off, none⟩) xs.length cap ∧ g < w.heap.size ∧ w.cell? ⟨g, off + k, none⟩ = some (.int .u8 (xs[k] : Int)) := by
  rcases h with ⟨_, rfl⟩ | ⟨g, off, cap, hv, _, hg, hc⟩ | ⟨_, _, _, rfl⟩
  · simp at hk
  · exact ⟨g, off, cap, hv, hg, hc k _ (List.getElem?_eq_getElem hk)⟩
  · simp at hk

set_option maxRecDepth 100000 in
set_option maxHeartbeats 400000 in
theorem more_any (s : Nat) (hs : s < 4294967296) (v : Value) (xs : List Nat) (w : World) (h : SlB w v xs) (hx : ∀ x ∈ xs, x < 256) (hl : xs.length ≤ 1099511627776) :
    Calls Tryz.prog 176 #[.int .u32 s, v] w fun e w' => e = .returned (.int .u32 (crcF s xs)) ∧ Below w.heap.size w w' := by
  have H0 := Lib.hid h
  obtain ⟨va, vc, rfl, -⟩ := h.shape
  clear h
  go_enter Tryz.func176, Tryz.ntmps176
  go_wp2_with fail
  refine (halves_any _).mono ?_
  rintro e w1 ⟨rfl, hb1⟩
  have hw1 := hb1.size
  go_wp2_with fail
  go_loopg [0, 13] xs.length (fun r q i wr => ∃ k : Nat, k + r = xs.length ∧ i = .int .i64 k ∧ q = .int .u32 (cRow (4294967295 - s) (xs.take k)) ∧ wr.rowIs w1.heap.size 254 16 (fun j => .int .u32 (hTab j)) ∧ Below w.heap.size w wr)
  case atStart =>
    refine ⟨0, by omega, rfl, by rw [not32 s hs]; rfl, ?_, hb1.alloc hw1 _⟩
    exact World.rowIs_alloc w1 ((List.range 16).map fun j => Value.int .u32 (hTab j)).toArray 254 (fun j => .int .u32 (hTab j)) (fun i hi => by
      have hi' : i < 16 := hi
      simp [hi'])
  case round =>
    obtain ⟨k, hk, rfl, rfl, hrow, hb⟩ := hrel
    by_cases hlt : k < xs.length
    · obtain ⟨g, off, cap, hv, hg, hcell⟩ := slB_cell (H0.out.below hb rfl) hlt
      cases hv
      have hc : xs[k] < 256 := hx _ (List.getElem_mem hlt)
      have hs0 : cRow (4294967295 - s) (xs.take k) < 4294967296 := cRow_lt _ _ (by omega) (fun x hm => hx x (List.mem_of_mem_take hm))
      have hnext : cRow (4294967295 - s) (xs.take (k + 1)) = cB (cRow (4294967295 - s) (xs.take k)) xs[k] := by rw [List.take_add_one, List.getElem?_eq_getElem hlt]; exact cRow_snoc _ _ _
      generalize cRow (4294967295 - s) (xs.take k) = s0 at *
      generalize xs[k] = c at *
      obtain ⟨s1, hs1, hs1n, hs1l⟩ : ∃ s1 : Nat, bits .xor .u32 (s0 : Int) (c : Int) = (s1 : Int) ∧ s1 = s0 ^^^ c ∧ s1 < 4294967296 := ⟨_, xor32 s0 c hs0 (by omega), rfl, Nat.xor_lt_two_pow (n := 32) hs0 (by omega)⟩
      obtain ⟨j1, hj1, hj1n⟩ : ∃ j : Nat, bits .and .u32 (s1 : Int) 15 = (j : Int) ∧ j = s1 % 16 := ⟨_, and15 s1 hs1l, rfl⟩
      have hj1l : j1 < 16 := by omega
      obtain ⟨s2, hs2, hs2n, hs2l⟩ : ∃ s2 : Nat, bits .xor .u32 ((s1 : Int) / 16) (hTab j1) = (s2 : Int) ∧ s2 = cS s1 ∧ s2 < 4294967296 := ⟨_, cS_eq s1 j1 hs1l hj1n, rfl, cS_lt _ hs1l⟩
      obtain ⟨j2, hj2, hj2n⟩ : ∃ j : Nat, bits .and .u32 (s2 : Int) 15 = (j : Int) ∧ j = s2 % 16 := ⟨_, and15 s2 hs2l, rfl⟩
      have hj2l : j2 < 16 := by omega
      obtain ⟨s3, hs3, hs3n, hs3l⟩ : ∃ s3 : Nat, bits .xor .u32 ((s2 : Int) / 16) (hTab j2) = (s3 : Int) ∧ s3 = cS s2 ∧ s3 < 4294967296 := ⟨_, cS_eq s2 j2 hs2l hj2n, rfl, cS_lt _ hs2l⟩
      have t1 := hrow.cell hj1l
      have t2 := hrow.cell hj2l
      have i1 : (0 : Int) ≤ (j1 : Int) := by omega
      have i2 : (j1 : Int) < 16 := by omega
      have i3 : (0 : Int) ≤ (j2 : Int) := by omega
      have i4 : (j2 : Int) < 16 := by omega
      obtain ⟨gk, rfl⟩ : ∃ x, gk = x + 1 := ⟨gk - 1, by omega⟩
      have HR := Lib.hid hrow
      clear hrow
      have HN := Lib.hid hnext
      have HE : Hid (s3 = cB s0 c) := by show _ = _; rw [hs3n, hs2n, hs1n]; rfl
      clear hnext hs3n hs2n hs1n hj1n hj2n
      go_wp2_with fail
      go_roundg gk
      case measure => omega
      case rel => exact ⟨k + 1, by omega, by go_num, by rw [HN.out, ← HE.out], HR.out, hb⟩
    · obtain rfl : k = xs.length := by omega
      go_wp2_with fail
      go_ret
      exact ⟨by rw [List.take_length]; unfold crcF; rw [not32 _ (cRow_lt _ _ (by omega) hx)]; rfl, hb⟩

end Go.Proofs.YtncjffkpkmjgkaaGreatDoor.Sg

/-! SOf -/
namespace Go.Proofs.YtncjffkpkmjgkaaGreatDoor.Sg
open Go.RowKit

set_option maxRecDepth 100000 in
set_option maxHeartbeats 400000 in
theorem of_any (g cap : Nat) (v : Value) (xs : List Nat) (w : World) (hc : w.cell? ⟨g, 0, none⟩ = some v) (hg : g < w.heap.size) (h : SlB w v xs) (hx : ∀ x ∈ xs, x < 256) (hl : xs.length ≤ 1099511627776) :
    Calls Tryz.prog 145 #[.slice (some ⟨g, 0, none⟩) 1 cap] w fun e w' => e = .returned (.int .u32 (crcF 0 xs)) ∧ Below w.heap.size w w' := by
  have H0 := Lib.hid h
  clear h
  go_enter Tryz.func145, Tryz.ntmps145
  go_wp2_with fail
  go_loopg [3, 8] 1 (fun r q i wr => ((r = 1 ∧ i = .int .i64 0 ∧ q = .int .u32 0) ∨ (r = 0 ∧ i = .int .i64 1 ∧ q = .int .u32 (crcF 0 xs))) ∧ Below w.heap.size w wr)
  case atStart => exact ⟨.inl ⟨rfl, rfl, rfl⟩, Below.refl _ _⟩
  case round =>
    obtain ⟨⟨rfl, rfl, rfl⟩ | ⟨rfl, rfl, rfl⟩, hb⟩ := hrel
    · have hc' := (hb.cell (p := ⟨g, 0, none⟩) hg).trans hc
      have hy := H0.out.below hb rfl
      have HY := Lib.hid hy
      clear hy hc
      go_wp2_with fail
      refine (more_any 0 (by omega) v xs _ HY.out hx hl).mono ?_
      rintro e w1 ⟨rfl, hb1⟩
      have hb2 := hb.trans (hb1.mono hb.size)
      clear hb hb1
      go_wp2_with fail
      go_roundg 0
      case measure => omega
      case rel => exact ⟨.inr ⟨rfl, rfl, rfl⟩, hb2⟩
    · go_wp2_with fail
      go_ret
      exact ⟨rfl, hb⟩

/-- A number with a sign as one without. -/
def zig (z : Int) : Nat := if 0 ≤ z then (2 * z).toNat else (-2 * z - 1).toNat

theorem not64 (s : Nat) (h : s < 18446744073709551616) : bits .xor .u64 (s : Int) 18446744073709551615 = ((18446744073709551615 - s : Nat) : Int) := by
  have h1 := xor64 s 18446744073709551615 h (by omega)
  rw [show ((18446744073709551615 : Nat) : Int) = 18446744073709551615 from rfl] at h1
  rw [h1]
  congr 1
  refine Nat.eq_of_testBit_eq fun i => ?_
  rw [show 18446744073709551615 - s = 2 ^ 64 - (s + 1) from by omega, Nat.testBit_two_pow_sub_succ (by omega), show (18446744073709551615 : Nat) = 2 ^ 64 - 1 from rfl, Nat.testBit_xor, Nat.testBit_two_pow_sub_one]
  by_cases hi : i < 64
  · simp [hi]
  · simp [hi, Nat.testBit_lt_two_pow (Nat.lt_of_lt_of_le (show s < 2 ^ 64 from h) (Nat.pow_le_pow_right (by omega) (Nat.le_of_not_lt hi)))]

theorem zig_eq (z : Int) (hz : -4611686018427387904 ≤ z) (hz' : z < 4611686018427387904) :
    bits .xor .u64 (IntKind.u64.wrap (IntKind.u64.wrap z * 2)) (IntKind.u64.wrap (z / 9223372036854775808)) = (zig z : Int) := by
  unfold zig
  by_cases h : 0 ≤ z
  · rw [if_pos h, wraps_u64 z h (by omega), wraps_u64 (z * 2) (by omega) (by omega), wraps_u64 _ (by omega) (by omega), show z / 9223372036854775808 = ((0 : Nat) : Int) from by omega, show z * 2 = (((2 * z).toNat : Nat) : Int) from by omega, xor64 _ 0 (by omega) (by omega)]
    simp
  · rw [if_neg h, IntKind.wrap_u64 z, IntKind.wrap_u64, IntKind.wrap_u64, show z / 9223372036854775808 % 18446744073709551616 = 18446744073709551615 from by omega,
      show z % 18446744073709551616 * 2 % 18446744073709551616 = (((2 * z + 18446744073709551616).toNat : Nat) : Int) from by omega, not64 _ (by omega)]
    omega

theorem zig_lt (z : Int) (hz : -4611686018427387904 ≤ z) (hz' : z < 4611686018427387904) : zig z < 9223372036854775808 := by
  unfold zig; split <;> omega

set_option maxRecDepth 100000 in
set_option maxHeartbeats 400000 in
theorem putint_any (z : Int) (hz : -4611686018427387904 ≤ z) (hz' : z < 4611686018427387904) (v : Value) (xs : List Nat) (w : World) (h : SlB w v xs) (hl : xs.length ≤ 1099511627776) :
    Calls Tryz.prog 180 #[v, .int .i64 z] w fun e w' => (∃ v', e = .returned v' ∧ w'.ownsRow w.heap.size 5 1 v' (xs ++ vput (zig z)).length (bcells (xs ++ vput (zig z)))) ∧ Below w.heap.size w w' := by
  go_enter Tryz.func180, Tryz.ntmps180
  go_wp2_with fail
  rw [zig_eq z hz hz']
  refine (put_any (zig z) (by have := zig_lt z hz hz'; omega) v xs w h hl).mono ?_
  rintro e w1 ⟨⟨v1, rfl, hown⟩, hb1⟩
  go_wp2_with fail
  go_ret
  exact ⟨⟨_, rfl, hown⟩, hb1⟩

end Go.Proofs.YtncjffkpkmjgkaaGreatDoor.Sg

/-! SBa -/
namespace Go.Proofs.YtncjffkpkmjgkaaGreatDoor.Sg
open Go.RowKit

structure Rc where
  t : Int
  k : List Nat
  v : List Nat
structure Bt where
  b : Int
  e : Int
  r : List Rc

/-- A record in three cells. -/
def RcAt (w : World) (g o : Nat) (x : Rc) : Prop :=
  w.cell? ⟨g, o, none⟩ = some (.int .i64 x.t) ∧ ∃ kv vv, w.cell? ⟨g, o + 1, none⟩ = some kv ∧ SlB w kv x.k ∧ w.cell? ⟨g, o + 2, none⟩ = some vv ∧ SlB w vv x.v

theorem RcAt.below {B : Nat} {w w' : World} {g o : Nat} {x : Rc} (h : RcAt w g o x) (hb : Below B w w') (hB : B = w.heap.size) (hg : g < B) : RcAt w' g o x := by
  obtain ⟨a, kv, vv, b, c, d, e⟩ := h
  exact ⟨(hb.cell hg).trans a, kv, vv, (hb.cell hg).trans b, c.below hb hB, (hb.cell hg).trans d, e.below hb hB⟩

theorem RcAt.get {w : World} {g o : Nat} {x : Rc} (h : RcAt w g o x) : ∃ ka kc va vc, w.cell? ⟨g, o, none⟩ = some (.int .i64 x.t) ∧ w.cell? ⟨g, o + 1, none⟩ = some (.slice ka x.k.length kc) ∧ SlB w (.slice ka x.k.length kc) x.k ∧
    w.cell? ⟨g, o + 2, none⟩ = some (.slice va x.v.length vc) ∧ SlB w (.slice va x.v.length vc) x.v := by
  obtain ⟨a, kv, vv, b, c, d, e⟩ := h
  obtain ⟨ka, kc, rfl, -⟩ := c.shape
  obtain ⟨va, vc, rfl, -⟩ := e.shape
  exact ⟨ka, kc, va, vc, a, b, c, d, e⟩

/-- A slice of records. -/
def RcsV (w : World) (v : Value) (L : List Rc) : Prop :=
  (v = .slice none 0 0 ∧ L = []) ∨ (∃ g off cap, v = .slice (some ⟨g, off, none⟩) L.length cap ∧ L.length ≤ cap ∧ g < w.heap.size ∧ ∀ (k : Nat) x, L[k]? = some x → RcAt w g (off + k * 3) x) ∨ ∃ a cap, v = .slice (some a) 0 cap ∧ L = []

theorem RcsV.below {B : Nat} {w w' : World} {v : Value} {L : List Rc} (h : RcsV w v L) (hb : Below B w w') (hB : B = w.heap.size) : RcsV w' v L := by
  subst hB
  rcases h with h | ⟨g, off, cap, rfl, hc, hg, h⟩ | h
  · exact Or.inl h
  · exact Or.inr (Or.inl ⟨g, off, cap, rfl, hc, by have := hb.size; omega, fun k x hx => (h k x hx).below hb rfl hg⟩)
  · exact Or.inr (Or.inr h)

theorem RcsV.shape {w : World} {v : Value} {L : List Rc} (h : RcsV w v L) : ∃ a cap, v = .slice a L.length cap := by
  rcases h with ⟨rfl, rfl⟩ | ⟨g, off, cap, rfl, _⟩ | ⟨a, cap, rfl, rfl⟩
  · exact ⟨none, 0, rfl⟩
  · exact ⟨_, cap, rfl⟩
  · exact ⟨some a, cap, rfl⟩

theorem RcsV.at_ {w : World} {v : Value} {L : List Rc} (h : RcsV w v L) {k : Nat} (hk : k < L.length) : ∃ g off cap, v = .slice (some ⟨g, off, none⟩) L.length cap ∧ g < w.heap.size ∧ RcAt w g (off + k * 3) L[k] := by
  rcases h with ⟨_, rfl⟩ | ⟨g, off, cap, hv, _, hg, hc⟩ | ⟨_, _, _, rfl⟩
  · simp at hk
  · exact ⟨g, off, cap, hv, hg, hc k _ (List.getElem?_eq_getElem hk)⟩
  · simp at hk

/-- A batch as a value. -/
def BtV (w : World) (v : Value) (x : Bt) : Prop := ∃ rs, v = .agg #[.int .i64 x.b, .int .i64 x.e, rs] ∧ RcsV w rs x.r

theorem BtV.below {B : Nat} {w w' : World} {v : Value} {x : Bt} (h : BtV w v x) (hb : Below B w w') (hB : B = w.heap.size) : BtV w' v x := by
  obtain ⟨rs, hv, h⟩ := h
  exact ⟨rs, hv, h.below hb hB⟩

def rcOk (x : Rc) : Bool := decide (-1099511627776 ≤ x.t) && decide (x.t ≤ 1099511627776) && decide (x.k.length ≤ 64) && decide (x.v.length ≤ 512)
/-- What is amiss with a batch: 0: nothing. -/
def vcode (x : Bt) : Nat :=
  if x.r.length < 1 ∨ 64 < x.r.length then 104
  else if x.b < 0 ∨ 1099511627776 - (x.r.length : Int) < x.b ∨ x.e < 0 ∨ 1073741824 < x.e then 105
  else if x.r.all rcOk then 0 else 105
/-- A batch that may be. -/
structure BtOk (x : Bt) : Prop where
  n1 : 1 ≤ x.r.length
  n64 : x.r.length ≤ 64
  b0 : 0 ≤ x.b
  b1 : x.b + x.r.length ≤ 1099511627776
  e0 : 0 ≤ x.e
  e1 : x.e ≤ 1073741824
  rs : ∀ y ∈ x.r, -1099511627776 ≤ y.t ∧ y.t ≤ 1099511627776 ∧ y.k.length ≤ 64 ∧ y.v.length ≤ 512

theorem vcode_ok (x : Bt) (h : vcode x = 0) : BtOk x := by
  unfold vcode at h
  split at h
  · omega
  split at h
  · omega
  split at h
  case isFalse => omega
  rename_i h1 h2 h3
  refine ⟨by omega, by omega, by omega, by omega, by omega, by omega, fun y hy => ?_⟩
  have := List.all_eq_true.1 h3 y hy
  simpa [rcOk, and_assoc] using this
theorem BtOk.code {x : Bt} (h : BtOk x) : vcode x = 0 := by
  obtain ⟨h1, h2, h3, h4, h5, h6, h7⟩ := h
  unfold vcode
  rw [if_neg (by omega), if_neg (by omega), if_pos]
  refine List.all_eq_true.2 fun y hy => ?_
  have := h7 y hy
  simpa [rcOk, and_assoc] using this

theorem right_any (n a b : Int) (w : World) : Calls Tryz.prog 127 #[.int .i64 n, .int .i64 a, .int .i64 b] w fun e w' => e = .returned (.bool (decide (a ≤ n) && decide (n ≤ b))) ∧ w = w' := by
  by_cases h1 : a ≤ n
  · by_cases h2 : n ≤ b
    · have hr : (decide (a ≤ n) && decide (n ≤ b)) = true := by simp [h1, h2]
      rw [hr]
      go_enter Tryz.func127, Tryz.ntmps127
      go_wp2
      go_ret
      exact ⟨rfl, rfl⟩
    · have hr : (decide (a ≤ n) && decide (n ≤ b)) = false := by simp [h1, h2]
      rw [hr]
      go_enter Tryz.func127, Tryz.ntmps127
      go_wp2
      go_ret
      exact ⟨rfl, rfl⟩
  · have hr : (decide (a ≤ n) && decide (n ≤ b)) = false := by simp [h1]
    rw [hr]
    go_enter Tryz.func127, Tryz.ntmps127
    go_wp2
    go_ret
    exact ⟨rfl, rfl⟩

theorem next_any (x : Bt) (hb : -1099511627776 ≤ x.b) (hb2 : x.b ≤ 1099511627776) (hn : x.r.length ≤ 1099511627776) (v : Value) (w : World) (h : BtV w v x) :
    Calls Tryz.prog 111 #[v] w fun e w' => e = .returned (.int .i64 (x.b + x.r.length)) ∧ Below w.heap.size w w' := by
  obtain ⟨rs, rfl, h⟩ := h
  obtain ⟨va, vc, rfl⟩ := h.shape
  clear h
  go_enter Tryz.func111, Tryz.ntmps111
  go_wp2
  go_ret
  exact ⟨rfl, (Below.refl _ _).alloc (Nat.le_refl _) _⟩

/-- The greatest time. -/
def tmax (x : Bt) : Int := match x.r with | [] => 0 | y :: l => (y :: l).foldl (fun m z => max m z.t) y.t
def tgo (t : Int) (l : List Rc) : Int := l.foldl (fun m z => max m z.t) t
theorem tgo_snoc (t : Int) (l : List Rc) (x : Rc) : tgo t (l ++ [x]) = max (tgo t l) x.t := by simp [tgo]

set_option maxRecDepth 100000 in
set_option maxHeartbeats 400000 in
theorem time_any (x : Bt) (hn : x.r.length ≤ 1099511627776) (v : Value) (w : World) (h : BtV w v x) :
    Calls Tryz.prog 112 #[v] w fun e w' => e = .returned (.int .i64 (tmax x)) ∧ Below w.heap.size w w' := by
  obtain ⟨rs, rfl, h⟩ := h
  by_cases h0 : x.r.length = 0
  · obtain ⟨va, vc, rfl⟩ := h.shape
    have hr : x.r = [] := List.eq_nil_of_length_eq_zero h0
    clear h
    go_enter Tryz.func112, Tryz.ntmps112
    go_wp2
    go_ret
    exact ⟨by simp [tmax, hr], (Below.refl _ _).alloc (Nat.le_refl _) _⟩
  · have hlen : 0 < x.r.length := by omega
    have hrs : tmax x = tgo x.r[0].t x.r := by
      obtain ⟨bb, be, br⟩ := x
      cases br with
      | nil => simp at h0
      | cons y l => simp [tmax, tgo]
    have ha := (h.below ((Below.refl _ _).alloc (Nat.le_refl _) (.cells #[.int .i64 x.b, .int .i64 x.e, rs] 38)) rfl)
    obtain ⟨g, off, cap, rfl, hg, hat, -⟩ := ha.at_ hlen
    rw [Nat.zero_mul, Nat.add_zero] at hat
    have hz : 0 < x.r.length := hlen
    have hz' : (0 : Int) < (x.r.length : Int) := by omega
    have hz'' : ((x.r.length : Int) == 0) = false := beq_eq_false_iff_ne.2 (by omega)
    have HA := Lib.hid ha
    clear ha h
    rw [hrs]
    go_enter Tryz.func112, Tryz.ntmps112
    go_wp2_with fail
    go_loopg [3, 18] x.r.length (fun r q i wr => ∃ k : Nat, k + r = x.r.length ∧ i = .int .i64 k ∧ q = .int .i64 (tgo x.r[0].t (x.r.take k)) ∧ Below (w.heap.size + 1) (w.alloc (.cells #[.int .i64 x.b, .int .i64 x.e, .slice (some ⟨g, off, none⟩) x.r.length cap] 38)) wr)
    case atStart => exact ⟨0, by omega, rfl, rfl, Below.refl _ _⟩
    case round =>
      obtain ⟨k, hk, rfl, rfl, hb⟩ := hrel
      by_cases hlt : k < x.r.length
      · obtain ⟨g', off', cap', hv, hg', hat'⟩ := (HA.out.below hb (by simp)).at_ hlt
        obtain ⟨ka, kc, va, vc, c0, c1, -, c2, -⟩ := hat'.get
        clear hat'
        cases hv
        have hnext : tgo x.r[0].t (x.r.take (k + 1)) = max (tgo x.r[0].t (x.r.take k)) x.r[k].t := by rw [List.take_add_one, List.getElem?_eq_getElem hlt]; exact tgo_snoc _ _ _
        have HN := Lib.hid hnext
        clear hnext
        obtain ⟨gk, rfl⟩ : ∃ x, gk = x + 1 := ⟨gk - 1, by omega⟩
        have hbs := hb.size
        go_wp2_with fail
        all_goals
          go_roundg gk
          case measure => omega
          case rel => exact ⟨k + 1, by omega, by go_num, by rw [HN.out]; first | rw [Int.max_eq_right (by omega)] | rw [Int.max_eq_left (by omega)], hb.alloc (by simpa using hbs) _⟩
      · obtain rfl : k = x.r.length := by omega
        go_wp2_with fail
        go_ret
        exact ⟨by rw [List.take_length]; rfl, (((Below.refl _ _).alloc (Nat.le_refl _) _).trans (hb.mono (by omega)))⟩

end Go.Proofs.YtncjffkpkmjgkaaGreatDoor.Sg

/-! SVa -/
namespace Go.Proofs.YtncjffkpkmjgkaaGreatDoor.Sg
open Go.RowKit Er

/-- What a call leaves alone: the blocks that were there. -/
theorem below_box {w : World} {o : Obj} {B : Nat} {w' : World} (h : Below (w.heap.size + 1) (w.alloc o) w') (hB : B ≤ w.heap.size) : Below B w w' :=
  ((Below.refl _ _).alloc (Nat.le_refl _) _).trans (h.mono (by omega)) |>.mono hB

set_option maxRecDepth 100000 in
set_option maxHeartbeats 1000000 in
theorem valid_any {S : List Nat} {E : Nat → Addr} {B : Nat} (h3 : 3 ∈ S) (h4 : 4 ∈ S) (x : Bt) (hn : x.r.length ≤ 1099511627776) (v : Value) (w : World) (hE : Errs S w E B) (h : BtV w v x) :
    Calls Tryz.prog 87 #[v] w fun e w' => e = .returned (ev E (vcode x)) ∧ Below w.heap.size w w' := by
  obtain ⟨rs, rfl, h⟩ := h
  have hE1 := hE.below ((Below.refl _ _).alloc hE.hi (.cells #[.int .i64 x.b, .int .i64 x.e, rs] 38))
  have g3 := hE1.at_ 3 h3
  have g4 := hE1.at_ 4 h4
  rw [show gid 3 = 9 from rfl] at g3
  rw [show gid 4 = 0 from rfl] at g4
  obtain ⟨va, vc, rfl⟩ := h.shape
  have ha := (h.below ((Below.refl _ _).alloc (Nat.le_refl _) (.cells #[.int .i64 x.b, .int .i64 x.e, .slice va x.r.length vc] 38)) rfl)
  have HA := Lib.hid ha
  have HE1 := Lib.hid hE1
  have hgl : 0 < w.heap.size + 1 := by
    have := gid_lt 4 (by omega); have := hE.lo; have := hE.hi
    show gid 4 < _; omega
  clear ha h hE1 hE
  by_cases hA : x.r.length < 1 ∨ 64 < x.r.length
  · have hc : vcode x = 104 := by unfold vcode; rw [if_pos hA]
    rw [hc, ev_some E 3]
    rcases hA with hA | hA
    · have d1 : (x.r.length : Int) < 1 := by omega
      go_enter Tryz.func87, Tryz.ntmps87
      go_wp2_with fail
      go_ret
      exact ⟨rfl, (Below.refl _ _).alloc (Nat.le_refl _) _⟩
    · have d1 : ¬ (x.r.length : Int) < 1 := by omega
      have d2 : 64 < (x.r.length : Int) := by omega
      go_enter Tryz.func87, Tryz.ntmps87
      go_wp2_with fail
      go_ret
      exact ⟨rfl, (Below.refl _ _).alloc (Nat.le_refl _) _⟩
  · have d1 : ¬ (x.r.length : Int) < 1 := by omega
    have d2 : ¬ 64 < (x.r.length : Int) := by omega
    by_cases hB : x.b < 0 ∨ 1099511627776 - (x.r.length : Int) < x.b ∨ x.e < 0 ∨ 1073741824 < x.e
    · have hc : vcode x = 105 := by unfold vcode; rw [if_neg hA, if_pos hB]
      rw [hc, ev_some E 4]
      by_cases c1 : 0 ≤ x.b ∧ x.b ≤ 1099511627776 - (x.r.length : Int)
      · have hr : (decide (0 ≤ x.b) && decide (x.b ≤ 1099511627776 - (x.r.length : Int))) = true := by simp [c1]
        by_cases c2 : x.e < 0
        · go_enter Tryz.func87, Tryz.ntmps87
          go_wp2_with (go_at_call 127; refine (right_any _ _ _ _).mono ?_; rintro e w' ⟨rfl, rfl⟩; rw [hr])
          go_ret
          exact ⟨rfl, (Below.refl _ _).alloc (Nat.le_refl _) _⟩
        · have c3 : 1073741824 < x.e := by omega
          go_enter Tryz.func87, Tryz.ntmps87
          go_wp2_with (go_at_call 127; refine (right_any _ _ _ _).mono ?_; rintro e w' ⟨rfl, rfl⟩; rw [hr])
          go_ret
          exact ⟨rfl, (Below.refl _ _).alloc (Nat.le_refl _) _⟩
      · have hr : (decide (0 ≤ x.b) && decide (x.b ≤ 1099511627776 - (x.r.length : Int))) = false := by
          rw [Bool.and_eq_false_iff, decide_eq_false_iff_not, decide_eq_false_iff_not]; omega
        go_enter Tryz.func87, Tryz.ntmps87
        go_wp2_with (go_at_call 127; refine (right_any _ _ _ _).mono ?_; rintro e w' ⟨rfl, rfl⟩; rw [hr])
        go_ret
        exact ⟨rfl, (Below.refl _ _).alloc (Nat.le_refl _) _⟩
    · have hr : (decide (0 ≤ x.b) && decide (x.b ≤ 1099511627776 - (x.r.length : Int))) = true := by simp; omega
      have c2 : ¬ x.e < 0 := by omega
      have c3 : ¬ 1073741824 < x.e := by omega
      have hc : vcode x = if x.r.all rcOk then 0 else 105 := by unfold vcode; rw [if_neg hA, if_neg hB]
      have HC := Lib.hid hc
      clear hc hB hA
      go_enter Tryz.func87, Tryz.ntmps87
      go_wp2_with (go_at_call 127; refine (right_any _ _ _ _).mono ?_; rintro e w' ⟨rfl, rfl⟩; rw [hr])
      go_loopg [36] x.r.length (fun r i wr => ∃ k : Nat, k + r = x.r.length ∧ i = .int .i64 k ∧ (x.r.take k).all rcOk = true ∧ Below (w.heap.size + 1) (w.alloc (.cells #[.int .i64 x.b, .int .i64 x.e, .slice va x.r.length vc] 38)) wr)
      case atStart => exact ⟨0, by omega, rfl, rfl, Below.refl _ _⟩
      case round =>
        obtain ⟨k, hk, rfl, hall, hb⟩ := hrel
        by_cases hlt : k < x.r.length
        · obtain ⟨g', off', cap', hv, hg', hat'⟩ := (HA.out.below hb (by simp)).at_ hlt
          cases hv
          obtain ⟨ka, kc, ua, uc, c0, c1, -, c2, -⟩ := hat'.get
          clear hat'
          have hbs := hb.size
          have hgl3 : 0 < wr.heap.size := by simp at hbs; omega
          obtain ⟨gk, rfl⟩ : ∃ x, gk = x + 1 := ⟨gk - 1, by omega⟩
          have hnext : (x.r.take (k + 1)).all rcOk = rcOk x.r[k] := by rw [List.take_add_one, List.getElem?_eq_getElem hlt, List.all_append, hall]; simp
          by_cases q : -1099511627776 ≤ x.r[k].t ∧ x.r[k].t ≤ 1099511627776
          · have hq : (decide (-1099511627776 ≤ x.r[k].t) && decide (x.r[k].t ≤ 1099511627776)) = true := by simp [q]
            by_cases q2 : 64 < x.r[k].k.length
            · have q2' : (64 : Int) < (x.r[k].k.length : Int) := by omega
              have HN : Hid (vcode x = 105) := by
                show _ = _
                rw [HC.out, if_neg]
                intro hh
                have := List.all_eq_true.1 hh _ (List.getElem_mem hlt)
                simp [rcOk] at this; omega
              have g4' := (hb.cell (p := ⟨0, 0, none⟩) hgl).trans g4
              clear hnext hall
              go_wp2_with (go_at_call 127; refine (right_any _ _ _ _).mono ?_; rintro e w' ⟨rfl, rfl⟩; rw [hq])
              go_ret
              exact ⟨by rw [HN.out, ev_some E 4]; rfl, below_box (hb.alloc (by simpa using hbs) _) (Nat.le_refl _)⟩
            · by_cases q3 : 512 < x.r[k].v.length
              · have q2' : ¬ (64 : Int) < (x.r[k].k.length : Int) := by omega
                have q3' : (512 : Int) < (x.r[k].v.length : Int) := by omega
                have HN : Hid (vcode x = 105) := by
                  show _ = _
                  rw [HC.out, if_neg]
                  intro hh
                  have := List.all_eq_true.1 hh _ (List.getElem_mem hlt)
                  simp [rcOk] at this; omega
                have g4' := (hb.cell (p := ⟨0, 0, none⟩) hgl).trans g4
                clear hnext hall
                go_wp2_with (go_at_call 127; refine (right_any _ _ _ _).mono ?_; rintro e w' ⟨rfl, rfl⟩; rw [hq])
                go_ret
                exact ⟨by rw [HN.out, ev_some E 4]; rfl, below_box (hb.alloc (by simpa using hbs) _) (Nat.le_refl _)⟩
              · have HN : Hid ((x.r.take (k + 1)).all rcOk = true) := by show _ = _; rw [hnext]; simp [rcOk]; omega
                have q2' : ¬ (64 : Int) < (x.r[k].k.length : Int) := by omega
                have q3' : ¬ (512 : Int) < (x.r[k].v.length : Int) := by omega
                clear hnext hall
                go_wp2_with (go_at_call 127; refine (right_any _ _ _ _).mono ?_; rintro e w' ⟨rfl, rfl⟩; rw [hq])
                go_roundg gk
                case measure => omega
                case rel => exact ⟨k + 1, by omega, by go_num, HN.out, hb.alloc (by simpa using hbs) _⟩
          · have hq : (decide (-1099511627776 ≤ x.r[k].t) && decide (x.r[k].t ≤ 1099511627776)) = false := by
              rw [Bool.and_eq_false_iff, decide_eq_false_iff_not, decide_eq_false_iff_not]; omega
            have HN : Hid (vcode x = 105) := by
              show _ = _
              rw [HC.out, if_neg]
              intro hh
              have := List.all_eq_true.1 hh _ (List.getElem_mem hlt)
              simp [rcOk] at this; omega
            have g4' := (hb.cell (p := ⟨0, 0, none⟩) hgl).trans g4
            clear hnext hall
            go_wp2_with (go_at_call 127; refine (right_any _ _ _ _).mono ?_; rintro e w' ⟨rfl, rfl⟩; rw [hq])
            go_ret
            exact ⟨by rw [HN.out, ev_some E 4]; rfl, below_box (hb.alloc (by simpa using hbs) _) (Nat.le_refl _)⟩
        · obtain rfl : k = x.r.length := by omega
          rw [List.take_length] at hall
          go_wp2_with fail
          go_ret
          exact ⟨by rw [HC.out, if_pos hall]; rfl, below_box hb (Nat.le_refl _)⟩

end Go.Proofs.YtncjffkpkmjgkaaGreatDoor.Sg

/-! SBo -/
namespace Go.Proofs.YtncjffkpkmjgkaaGreatDoor.Sg
open Go.RowKit Er

/-- A record's bytes behind one whose time is known. -/
def rcB (last : Int) (x : Rc) : List Nat := vput (zig (x.t - last)) ++ vput x.k.length ++ x.k ++ vput x.v.length ++ x.v
def bodyR : Int → List Rc → List Nat
  | _, [] => []
  | l, x :: r => rcB l x ++ bodyR x.t r
def tEnd : Int → List Rc → Int
  | l, [] => l
  | _, x :: r => tEnd x.t r
theorem bodyR_snoc (l : Int) (r : List Rc) (x : Rc) : bodyR l (r ++ [x]) = bodyR l r ++ rcB (tEnd l r) x := by
  induction r generalizing l with
  | nil => simp [bodyR, tEnd]
  | cons y r ih => simp [bodyR, tEnd, ih, List.append_assoc]
theorem tEnd_snoc (l : Int) (r : List Rc) (x : Rc) : tEnd l (r ++ [x]) = x.t := by
  induction r generalizing l with
  | nil => rfl
  | cons y r ih => simp [tEnd, ih]
def t0 (x : Bt) : Int := match x.r with | [] => 0 | y :: _ => y.t
theorem t0_at (x : Bt) (h : 0 < x.r.length) : t0 x = x.r[0].t := by
  obtain ⟨b, e, r⟩ := x
  cases r with
  | nil => simp at h
  | cons y l => rfl
def headB (x : Bt) : List Nat := leB x.b.toNat 8 ++ leB x.e.toNat 4 ++ leB x.r.length 2
/-- What stands behind a batch's head. -/
def bodyB (x : Bt) : List Nat := headB x ++ vput (zig (t0 x)) ++ bodyR (t0 x) x.r

theorem rcB_len (l : Int) (x : Rc) (hl : -1099511627776 ≤ l ∧ l ≤ 1099511627776) (hx : -1099511627776 ≤ x.t ∧ x.t ≤ 1099511627776) (hk : x.k.length ≤ 64) (hv : x.v.length ≤ 512) : (rcB l x).length ≤ 606 := by
  have h1 := vput_len64 (zig (x.t - l)) (by have := zig_lt (x.t - l) (by omega) (by omega); omega)
  have h2 := vput_len64 x.k.length (by omega)
  have h3 := vput_len64 x.v.length (by omega)
  simp [rcB]; omega

theorem bodyR_len (l : Int) (r : List Rc) (hl : -1099511627776 ≤ l ∧ l ≤ 1099511627776) (h : ∀ y ∈ r, -1099511627776 ≤ y.t ∧ y.t ≤ 1099511627776 ∧ y.k.length ≤ 64 ∧ y.v.length ≤ 512) : (bodyR l r).length ≤ 606 * r.length := by
  induction r generalizing l with
  | nil => simp [bodyR]
  | cons y r ih =>
    obtain ⟨a, b, c, d⟩ := h y (by simp)
    have h1 := rcB_len l y hl ⟨a, b⟩ c d
    have h2 := ih y.t ⟨a, b⟩ (fun z hz => h z (by simp [hz]))
    simp [bodyR]; omega

theorem tEnd_in (l : Int) (r : List Rc) (hl : -1099511627776 ≤ l ∧ l ≤ 1099511627776) (h : ∀ y ∈ r, -1099511627776 ≤ y.t ∧ y.t ≤ 1099511627776 ∧ y.k.length ≤ 64 ∧ y.v.length ≤ 512) : -1099511627776 ≤ tEnd l r ∧ tEnd l r ≤ 1099511627776 := by
  induction r generalizing l with
  | nil => exact hl
  | cons y r ih =>
    obtain ⟨a, b, c, d⟩ := h y (by simp)
    exact ih y.t ⟨a, b⟩ (fun z hz => h z (by simp [hz]))

theorem t0_in (x : Bt) (h : BtOk x) : -1099511627776 ≤ t0 x ∧ t0 x ≤ 1099511627776 := by
  rw [t0_at x h.n1]
  have := h.rs _ (List.getElem_mem h.n1)
  exact ⟨this.1, this.2.1⟩

theorem bodyB_len (x : Bt) (h : BtOk x) : (bodyB x).length ≤ 38808 := by
  have h1 := bodyR_len (t0 x) x.r (t0_in x h) h.rs
  have h2 := vput_len64 (zig (t0 x)) (by have := t0_in x h; have := zig_lt (t0 x) (by omega) (by omega); omega)
  have := h.n64
  simp [bodyB, headB, leB_len]; omega

theorem World.alloc_size' (w : World) (o : Obj) : (w.alloc o).heap.size = w.heap.size + 1 := by simp

theorem grew_below {w w' : World} {v v' : Value} (h : Grew w v w' v') {B : Nat} (hB : B ≤ w.heap.size) (hv : ∀ k, v.ownBlock = some k → B ≤ k) : Below B w w' := h.below_of hB hv

/-- What of a record's key and value is laid after j rounds. -/
def partB (x : Rc) (j : Nat) : List Nat := if j = 0 then [] else if j = 1 then vput x.k.length ++ x.k else vput x.k.length ++ x.k ++ (vput x.v.length ++ x.v)
theorem partB_len (x : Rc) (j : Nat) (hk : x.k.length ≤ 64) (hv : x.v.length ≤ 512) : (partB x j).length ≤ 600 := by
  have h2 := vput_len64 x.k.length (by omega)
  have h3 := vput_len64 x.v.length (by omega)
  unfold partB
  split
  · simp
  split <;> simp <;> omega

/-- A cell of a block that is not one's own. -/
theorem own_cell {w w' : World} {u : Value} (hg : w.grownBy w' u.ownBlock) {b o : Nat} (hp : b < w.heap.size) (hne : u.ownBlock ≠ some b) : w'.cell? ⟨b, o, none⟩ = w.cell? ⟨b, o, none⟩ := by
  have := hg.block b hp (fun e => hne e.symm)
  simp only [World.cell?, this]

theorem owns_lt {w : World} {B : Nat} {e : TypeId} {size n : Nat} {v : Value} {xs : List Value} (h : w.ownsRow B e size v n xs) {g : Nat} (hg : w.heap.size ≤ g) : v.ownBlock ≠ some g := fun e' => by have := (World.ownsRow.lt h g e').2; omega

set_option maxRecDepth 100000 in
set_option maxHeartbeats 2000000 in
theorem body_any (x : Bt) (hok : BtOk x) (v : Value) (w : World) (h : BtV w v x) :
    Calls Tryz.prog 148 #[v] w fun e w' => (∃ v', e = .returned v' ∧ w'.ownsRow w.heap.size 5 1 v' (bodyB x).length (bcells (bodyB x))) ∧ Below w.heap.size w w' := by
  obtain ⟨rs, rfl, h⟩ := h
  have ha := (h.below ((Below.refl _ _).alloc (Nat.le_refl _) (.cells #[.int .i64 x.b, .int .i64 x.e, rs] 38)) rfl)
  obtain ⟨g, off, cap, rfl, hg, hat⟩ := ha.at_ hok.n1
  rw [Nat.zero_mul, Nat.add_zero] at hat
  have c0 := hat.1
  rw [← t0_at x hok.n1] at c0
  have hg' : g < w.heap.size := by
    rcases h with ⟨h, _⟩ | ⟨g1, o1, cap1, h1, _, hg1, _⟩ | ⟨_, _, _, h0⟩
    · cases h
    · cases h1; exact hg1
    · have := hok.n1; rw [h0] at this; simp at this
  have HA := Lib.hid ha
  have HK := Lib.hid hok
  obtain ⟨bn, hbn⟩ : ∃ n : Nat, x.b = (n : Int) := ⟨x.b.toNat, by have := hok.b0; omega⟩
  obtain ⟨en, hen⟩ : ∃ n : Nat, x.e = (n : Int) := ⟨x.e.toNat, by have := hok.e0; omega⟩
  have hb1 : bn ≤ 1099511627776 := by have := hok.b1; omega
  have he1 : en ≤ 1073741824 := by have := hok.e1; omega
  have hn1 := hok.n1
  have hn64 := hok.n64
  have hz' : (0 : Int) < (x.r.length : Int) := by omega
  obtain ⟨ht1, ht2⟩ := t0_in x hok
  have HHD : Hid (headB x = leB bn 8 ++ leB en 4 ++ leB x.r.length 2) := by
    show _ = _
    unfold headB
    rw [hbn, hen]; rfl
  rw [hbn, hen] at HA c0 ⊢
  clear ha h hat hok
  go_enter Tryz.func148, Tryz.ntmps148
  go_wp2_with fail
  refine (little_any bn 8 0 (w.heap.size + 1) [] _ (by omega) _ (World.ownsRow_nil _ _ _ _) (by simp) (by omega)).mono ?_
  rintro e w1 ⟨v1, rfl, hown1, hgr1⟩
  have hbl1 : Below (w.heap.size + 1) (w.alloc (.cells #[.int .i64 bn, .int .i64 en, .slice (some ⟨g, off, none⟩) x.r.length cap] 38)) w1 := grew_below hgr1 (by simp) (fun k hk => by simp [Value.ownBlock] at hk)
  have c1 := (hbl1.cell (p := ⟨w.heap.size, 1, none⟩) (by simp)).trans (show _ = some (Value.int .i64 (en : Int)) by go_simp)
  have s1 := hbl1.size
  simp only [World.alloc_size'] at s1
  have HO1 := Lib.hid hown1
  clear hown1 hgr1
  go_wp2_with fail
  refine (little_any en 4 _ (w.heap.size + 1) _ _ (by omega) _ HO1.out s1 (by omega)).mono ?_
  rintro e w2 ⟨v2, rfl, hown2, hgr2⟩
  have hbl2 := hbl1.trans (grew_below hgr2 s1 (own_fresh HO1.out))
  have c2 := (hbl2.cell (p := ⟨w.heap.size, 2, none⟩) (by simp)).trans (show _ = some (Value.slice (some ⟨g, off, none⟩) x.r.length cap) by go_simp)
  have s2 := hbl2.size
  simp only [World.alloc_size'] at s2
  have HO2 := Lib.hid hown2
  clear hown2 hgr2 hbl1 c1 s1 HO1
  go_wp2_with fail
  refine (little_any x.r.length 2 _ (w.heap.size + 1) _ _ (by omega) _ HO2.out s2 (by simp)).mono ?_
  rintro e w3 ⟨v3, rfl, hown3, hgr3⟩
  have hbl3 := hbl2.trans (grew_below hgr3 s2 (own_fresh HO2.out))
  have c2 := (hbl3.cell (p := ⟨w.heap.size, 2, none⟩) (by simp)).trans (show _ = some (Value.slice (some ⟨g, off, none⟩) x.r.length cap) by go_simp)
  have c3 := (hbl3.cell (p := ⟨g, off, none⟩) (by show g < _; omega)).trans c0
  have s3 := hbl3.size
  simp only [World.alloc_size'] at s3
  rw [List.nil_append, ← HHD.out] at hown3
  obtain ⟨hlen3, hsl3⟩ := owns_read hown3
  rw [hlen3] at hown3
  have HO3 := Lib.hid hown3
  have HS3 := Lib.hid hsl3
  clear hown3 hsl3 hgr3 hbl2 s2 HO2 hlen3
  go_wp2_with fail
  refine (putint_any (t0 x) (by omega) (by omega) _ _ _ HS3.out (by simp [headB, leB_len])).mono ?_
  rintro e w4 ⟨⟨v4, rfl, hown4⟩, hbl4'⟩
  have hbl4 := hbl3.trans (hbl4'.mono s3)
  have c2 := (hbl4.cell (p := ⟨w.heap.size, 2, none⟩) (by simp)).trans (show _ = some (Value.slice (some ⟨g, off, none⟩) x.r.length cap) by go_simp)
  have s4 := hbl4.size
  simp only [World.alloc_size'] at s4
  have HO4 := Lib.hid (owns_bound hown4 s3)
  clear hown4 hbl4' hbl3 s3 HO3 HS3
  go_wp2_with fail
  go_loopg [3, 4, 35] x.r.length (fun r u q i wr => ∃ k : Nat, k + r = x.r.length ∧ i = .int .i64 k ∧ q = .int .i64 (tEnd (t0 x) (x.r.take k)) ∧
    (∃ n, wr.ownsRow (w.heap.size + 1) 5 1 u n (bcells (headB x ++ vput (zig (t0 x)) ++ bodyR (t0 x) (x.r.take k)))) ∧ Below (w.heap.size + 1) (w.alloc (.cells #[.int .i64 bn, .int .i64 en, .slice (some ⟨g, off, none⟩) x.r.length cap] 38)) wr)
  case atStart => exact ⟨0, by omega, rfl, rfl, ⟨_, by simpa [bodyR] using HO4.out⟩, hbl4⟩
  case round =>
    obtain ⟨k, hk, rfl, rfl, ⟨n, hown⟩, hb⟩ := hrel
    by_cases hlt : k < x.r.length
    · obtain ⟨g', off', cap', hv, hg', hat'⟩ := HA.out.at_ hlt
      cases hv
      obtain ⟨ka, kc, va, vc, z0, z1, e1, z2, e2⟩ := hat'.get
      have d0 := (hb.cell (p := ⟨g, off + k * 3, none⟩) (by simpa using hg')).trans z0
      have d1 := (hb.cell (p := ⟨g, off + k * 3 + 1, none⟩) (by simpa using hg')).trans z1
      have d2 := (hb.cell (p := ⟨g, off + k * 3 + 2, none⟩) (by simpa using hg')).trans z2
      clear hat' z0 z1 z2
      have hbs := hb.size
      simp only [World.alloc_size'] at hbs
      obtain ⟨go, rfl⟩ : ∃ x, gk = x + 1 := ⟨gk - 1, by omega⟩
      obtain ⟨q1, q2, q3, q4⟩ := HK.out.rs _ (List.getElem_mem hlt)
      obtain ⟨q5, q6⟩ := tEnd_in (t0 x) (x.r.take k) ⟨ht1, ht2⟩ (fun y hy => HK.out.rs y (List.mem_of_mem_take hy))
      have hlen := bodyR_len (t0 x) (x.r.take k) ⟨ht1, ht2⟩ (fun y hy => HK.out.rs y (List.mem_of_mem_take hy))
      have hlt0 := vput_len64 (zig (t0 x)) (by have := zig_lt (t0 x) (by omega) (by omega); omega)
      have HNX : Hid (headB x ++ vput (zig (t0 x)) ++ bodyR (t0 x) (x.r.take (k + 1)) = headB x ++ vput (zig (t0 x)) ++ bodyR (t0 x) (x.r.take k) ++ rcB (tEnd (t0 x) (x.r.take k)) x.r[k]) := by
        show _ = _
        rw [List.take_add_one, List.getElem?_eq_getElem hlt, Option.toList_some, bodyR_snoc]
        simp only [List.append_assoc]
      have HTX : Hid (tEnd (t0 x) (x.r.take (k + 1)) = x.r[k].t) := by
        show _ = _
        rw [List.take_add_one, List.getElem?_eq_getElem hlt, Option.toList_some, tEnd_snoc]
      have hplen : (headB x ++ vput (zig (t0 x)) ++ bodyR (t0 x) (x.r.take k)).length ≤ 40000 := by
        have : (x.r.take k).length ≤ 64 := by simp; omega
        simp [headB, leB_len]; omega
      obtain ⟨hn, -⟩ := owns_read hown
      rw [← hn] at hplen
      generalize hpre : headB x ++ vput (zig (t0 x)) ++ bodyR (t0 x) (x.r.take k) = pre at *
      generalize hlast : tEnd (t0 x) (x.r.take k) = last at *
      have HP := Lib.hid hpre
      have HO := Lib.hid hown
      have HD := Lib.hid d0
      have HKY := Lib.hid e1
      have HVL := Lib.hid e2
      clear hpre hlast hown hlen hlt0 e1 e2 hn
      go_wp2_with fail
      refine (putint_any (x.r[k].t - last) (by omega) (by omega) _ _ _ (SlB.nil _) (by simp)).mono ?_
      rintro e w5 ⟨⟨v5, rfl, hown5⟩, hb5⟩
      have f0 := (hb5.cell (p := ⟨wr.heap.size, 0, none⟩) (by simp)).trans (show _ = some (Value.int .i64 x.r[k].t) by go_simp)
      have f1 := (hb5.cell (p := ⟨wr.heap.size, 1, none⟩) (by simp)).trans (show _ = some (Value.slice ka x.r[k].k.length kc) by go_simp)
      have f2 := (hb5.cell (p := ⟨wr.heap.size, 2, none⟩) (by simp)).trans (show _ = some (Value.slice va x.r[k].v.length vc) by go_simp)
      have hs5 := hb5.size
      simp only [World.alloc_size'] at hs5
      rw [List.nil_append] at hown5
      have HY5 := Lib.hid (owns_read hown5).2
      have HO5 := Lib.hid (owns_below (HO.out.alloc (.cells #[.int .i64 x.r[k].t, .slice ka x.r[k].k.length kc, .slice va x.r[k].v.length vc] 116)) hb5)
      have hl5 := vput_len64 (zig (x.r[k].t - last)) (by have := zig_lt (x.r[k].t - last) (by omega) (by omega); omega)
      have hbx := (hb.alloc hbs (.cells #[.int .i64 x.r[k].t, .slice ka x.r[k].k.length kc, .slice va x.r[k].v.length vc] 116)).trans (hb5.mono (by simp; omega))
      have neu := owns_lt HO.out (Nat.le_refl _)
      clear hown5 hb5
      go_wp2_with (at_builtin; refine wpList_append_bytes rfl _ _ rfl (w.heap.size + 1) _ _ _ rfl HO5.out _ _ rfl HY5.out ?c3 ?c5 ?_)
      case c3 => omega
      case c5 => omega
      intro v6 w6 hown6 hgr6 _ hat6
      have hb6 := hbx.grown hgr6 (by omega) (own_fresh HO.out)
      have hs6 := hgr6.size
      have p0 := (own_cell (o := 0) hgr6 (b := wr.heap.size) (by omega) neu).trans f0
      have p1 := (own_cell (o := 1) hgr6 (b := wr.heap.size) (by omega) neu).trans f1
      have p2 := (own_cell (o := 2) hgr6 (b := wr.heap.size) (by omega) neu).trans f2
      have HO6 := Lib.hid hown6
      have ne6 := owns_lt hown6 (Nat.le_refl _)
      clear hown6 hgr6 hat6 f0 f1 f2
      go_wp2_with fail
      go_loopg [3, 54] 2 (fun r u i wq => ∃ j : Nat, j + r = 2 ∧ i = .int .i64 j ∧ (∃ n, wq.ownsRow (w.heap.size + 1) 5 1 u n (bcells (pre ++ vput (zig (x.r[k].t - last)) ++ partB x.r[k] j))) ∧ u.ownBlock ≠ some w6.heap.size ∧
        wq.cell? ⟨w6.heap.size, 0, none⟩ = some (.slice ka x.r[k].k.length kc) ∧ wq.cell? ⟨w6.heap.size, 1, none⟩ = some (.slice va x.r[k].v.length vc) ∧ w6.heap.size < wq.heap.size ∧
        Below (w.heap.size + 1) (w.alloc (.cells #[.int .i64 bn, .int .i64 en, .slice (some ⟨g, off, none⟩) x.r.length cap] 38)) wq)
      case atStart => exact ⟨0, by omega, rfl, ⟨_, by simpa [partB] using HO6.out.alloc _⟩, ne6, by go_simp, by go_simp, by simp, hb6.alloc (by omega) _⟩
      case round =>
        obtain ⟨j, hj, rfl, ⟨nq, hownq⟩, neq, g0, g1, hq, hbq⟩ := hrel
        have hszq := hbq.size
        simp only [World.alloc_size'] at hszq
        have hnq := (owns_read hownq).1
        have hpq : (pre ++ vput (zig (x.r[k].t - last)) ++ partB x.r[k] j).length ≤ 50000 := by
          have := partB_len x.r[k] j q3 q4
          have : pre.length ≤ 40000 := by have := (owns_read HO.out).1; omega
          simp; omega
        have hpq' := hpq
        simp only [List.length_append] at hpq'
        rcases (show j = 0 ∨ j = 1 ∨ j = 2 by omega) with rfl | rfl | rfl
        · obtain ⟨gj, rfl⟩ : ∃ x, gk = x + 1 := ⟨gk - 1, by omega⟩
          have hx7 : (0 : Int) ≤ (x.r[k].k.length : Int) := by omega
          have hnn := (owns_read hownq).1
          have HOq := Lib.hid hownq
          clear hownq
          go_wp2_with fail
          refine (put_any x.r[k].k.length (by omega) _ _ _ (SlB.nil _) (by simp)).mono ?_
          rintro e w7 ⟨⟨v7, rfl, hown7⟩, hb7⟩
          rw [List.nil_append] at hown7
          have hbq7 := hbq.trans (hb7.mono hszq)
          have HY7 := Lib.hid (owns_read hown7).2
          have HO7 := Lib.hid (owns_below HOq.out hb7)
          have hl7 := vput_len64 x.r[k].k.length (by omega)
          have hs7 := hb7.size
          clear hown7
          go_wp2_with (at_builtin; refine wpList_append_bytes rfl _ _ rfl (w.heap.size + 1) _ _ _ rfl HO7.out _ _ rfl HY7.out ?c3 ?c5 ?_)
          case c3 => omega
          case c5 => omega
          intro v8 w8 hown8 hgr8 _ hat8
          have hb8 := hbq7.grown hgr8 (by omega) (own_fresh HOq.out)
          have hs8 := hgr8.size
          have ne8 : v8.ownBlock ≠ some w6.heap.size := by
            rcases hat8 with e' | e' <;> rw [e']
            · exact neq
            · intro e''; have := Option.some.inj e''; omega
          have g0' := (own_cell (o := 0) hgr8 (b := w6.heap.size) (by omega) neq).trans ((hb7.cell (p := ⟨w6.heap.size, 0, none⟩) hq).trans g0)
          have g1' := (own_cell (o := 1) hgr8 (b := w6.heap.size) (by omega) neq).trans ((hb7.cell (p := ⟨w6.heap.size, 1, none⟩) hq).trans g1)
          have HO8 := Lib.hid hown8
          have HY8 := Lib.hid (HKY.out.below hb8 (by simp))
          clear hown8 hgr8 hat8
          go_wp2_with (at_builtin; refine wpList_append_bytes rfl _ _ rfl (w.heap.size + 1) _ _ _ rfl HO8.out _ _ rfl HY8.out ?c3 ?c5 ?_)
          case c3 => omega
          case c5 => omega
          intro v9 w9 hown9 hgr9 _ hat9
          have hb9 := hb8.grown hgr9 (by omega) (own_fresh HO8.out)
          have ne9a : v9.ownBlock ≠ some w6.heap.size := by
            rcases hat9 with e' | e' <;> rw [e']
            · exact ne8
            · intro e''; have := Option.some.inj e''; omega
          have g0'' := (own_cell (o := 0) hgr9 (b := w6.heap.size) (by omega) ne8).trans g0'
          have g1'' := (own_cell (o := 1) hgr9 (b := w6.heap.size) (by omega) ne8).trans g1'
          have q9 : w6.heap.size < w9.heap.size := by have := hgr9.size; omega
          have HO9 := Lib.hid hown9
          clear hown9 hgr9 hat9
          go_wp2_with fail
          go_roundg gj
          case measure => omega
          case rel =>
            exact ⟨1, by omega, by go_num, ⟨_, by simpa [partB, List.append_assoc] using HO9.out⟩, ne9a, g0'', g1'', q9, hb9⟩
        · obtain ⟨gj, rfl⟩ : ∃ x, gk = x + 1 := ⟨gk - 1, by omega⟩
          have hx7 : (0 : Int) ≤ (x.r[k].v.length : Int) := by omega
          have hnn := (owns_read hownq).1
          have HOq := Lib.hid hownq
          clear hownq
          go_wp2_with fail
          refine (put_any x.r[k].v.length (by omega) _ _ _ (SlB.nil _) (by simp)).mono ?_
          rintro e w7 ⟨⟨v7, rfl, hown7⟩, hb7⟩
          rw [List.nil_append] at hown7
          have hbq7 := hbq.trans (hb7.mono hszq)
          have HY7 := Lib.hid (owns_read hown7).2
          have HO7 := Lib.hid (owns_below HOq.out hb7)
          have hl7 := vput_len64 x.r[k].v.length (by omega)
          have hs7 := hb7.size
          clear hown7
          go_wp2_with (at_builtin; refine wpList_append_bytes rfl _ _ rfl (w.heap.size + 1) _ _ _ rfl HO7.out _ _ rfl HY7.out ?c3 ?c5 ?_)
          case c3 => omega
          case c5 => omega
          intro v8 w8 hown8 hgr8 _ hat8
          have hb8 := hbq7.grown hgr8 (by omega) (own_fresh HOq.out)
          have hs8 := hgr8.size
          have ne8 : v8.ownBlock ≠ some w6.heap.size := by
            rcases hat8 with e' | e' <;> rw [e']
            · exact neq
            · intro e''; have := Option.some.inj e''; omega
          have g0' := (own_cell (o := 0) hgr8 (b := w6.heap.size) (by omega) neq).trans ((hb7.cell (p := ⟨w6.heap.size, 0, none⟩) hq).trans g0)
          have g1' := (own_cell (o := 1) hgr8 (b := w6.heap.size) (by omega) neq).trans ((hb7.cell (p := ⟨w6.heap.size, 1, none⟩) hq).trans g1)
          have HO8 := Lib.hid hown8
          have HY8 := Lib.hid (HVL.out.below hb8 (by simp))
          clear hown8 hgr8 hat8
          go_wp2_with (at_builtin; refine wpList_append_bytes rfl _ _ rfl (w.heap.size + 1) _ _ _ rfl HO8.out _ _ rfl HY8.out ?c3 ?c5 ?_)
          case c3 => omega
          case c5 => omega
          intro v9 w9 hown9 hgr9 _ hat9
          have hb9 := hb8.grown hgr9 (by omega) (own_fresh HO8.out)
          have ne9a : v9.ownBlock ≠ some w6.heap.size := by
            rcases hat9 with e' | e' <;> rw [e']
            · exact ne8
            · intro e''; have := Option.some.inj e''; omega
          have g0'' := (own_cell (o := 0) hgr9 (b := w6.heap.size) (by omega) ne8).trans g0'
          have g1'' := (own_cell (o := 1) hgr9 (b := w6.heap.size) (by omega) ne8).trans g1'
          have q9 : w6.heap.size < w9.heap.size := by have := hgr9.size; omega
          have HO9 := Lib.hid hown9
          clear hown9 hgr9 hat9
          go_wp2_with fail
          go_roundg gj
          case measure => omega
          case rel =>
            exact ⟨2, by omega, by go_num, ⟨_, by simpa [partB, List.append_assoc] using HO9.out⟩, ne9a, g0'', g1'', q9, hb9⟩
        · go_wp2_with fail
          go_roundg go
          case measure => omega
          case rel => exact ⟨k + 1, by omega, by go_num, by rw [HTX.out], ⟨nq, by rw [HNX.out]; simpa [partB, rcB, List.append_assoc] using hownq⟩, hbq⟩
    · obtain rfl : k = x.r.length := by omega
      go_wp2_with fail
      go_ret
      rw [List.take_length] at hown
      have hh := owns_read hown
      refine ⟨⟨_, rfl, ?_⟩, below_box hb (Nat.le_refl _)⟩
      rw [← show n = (bodyB x).length from hh.1]
      exact owns_bound hown (by omega)

end Go.Proofs.YtncjffkpkmjgkaaGreatDoor.Sg

/-! SRb -/
namespace Go.Proofs.YtncjffkpkmjgkaaGreatDoor.Sg
open Go.RowKit Er

/-- Keys and values are bytes. -/
def BtBy (x : Bt) : Prop := ∀ y ∈ x.r, (∀ b ∈ y.k, b < 256) ∧ (∀ b ∈ y.v, b < 256)

theorem leB_lt (n k : Nat) : ∀ b ∈ leB n k, b < 256 := by
  intro b hb
  simp only [leB, List.mem_map] at hb
  obtain ⟨i, _, rfl⟩ := hb
  exact Nat.mod_lt _ (by omega)

theorem bodyR_lt (l : Int) (r : List Rc) (h : ∀ y ∈ r, (∀ b ∈ y.k, b < 256) ∧ (∀ b ∈ y.v, b < 256)) : ∀ b ∈ bodyR l r, b < 256 := by
  induction r generalizing l with
  | nil => simp [bodyR]
  | cons y r ih =>
    intro b hb
    simp only [bodyR, rcB, List.mem_append] at hb
    rcases hb with ((((hb | hb) | hb) | hb) | hb) | hb
    · exact vput_lt _ b hb
    · exact vput_lt _ b hb
    · exact (h y (by simp)).1 b hb
    · exact vput_lt _ b hb
    · exact (h y (by simp)).2 b hb
    · exact ih y.t (fun z hz => h z (by simp [hz])) b hb

theorem bodyB_lt (x : Bt) (h : BtBy x) : ∀ b ∈ bodyB x, b < 256 := by
  intro b hb
  simp only [bodyB, headB, List.mem_append] at hb
  rcases hb with (((hb | hb) | hb) | hb) | hb
  · exact leB_lt _ _ b hb
  · exact leB_lt _ _ b hb
  · exact leB_lt _ _ b hb
  · exact vput_lt _ b hb
  · exact bodyR_lt _ _ h b hb

/-- A batch as bytes. -/
def batB (x : Bt) : List Nat := leB (bodyB x).length 4 ++ leB (crcF 0 (bodyB x)) 4 ++ bodyB x
theorem batB_len (x : Bt) : (batB x).length = 8 + (bodyB x).length := by simp [batB, leB_len]; omega

set_option maxRecDepth 100000 in
set_option maxHeartbeats 1000000 in
theorem bytes_ok {S : List Nat} {E : Nat → Addr} {B : Nat} (h3 : 3 ∈ S) (h4 : 4 ∈ S) (x : Bt) (hok : BtOk x) (hby : BtBy x) (v : Value) (w : World) (hE : Errs S w E B) (h : BtV w v x) :
    Calls Tryz.prog 129 #[v] w fun e w' => (∃ v', e = .returned (.tuple #[v', .nilIface]) ∧ w'.ownsRow w.heap.size 5 1 v' (batB x).length (bcells (batB x))) ∧ Below w.heap.size w w' := by
  obtain ⟨rs, hv, h⟩ := h
  have hBv : BtV w v x := ⟨rs, hv, h⟩
  obtain ⟨va, vc, rfl⟩ := h.shape
  subst hv
  have hbt := hBv.below ((Below.refl _ _).alloc (Nat.le_refl _) (.cells #[.int .i64 x.b, .int .i64 x.e, .slice va x.r.length vc] 38)) rfl
  have HB := Lib.hid hbt
  have hE1 := hE.below ((Below.refl _ _).alloc hE.hi (.cells #[.int .i64 x.b, .int .i64 x.e, .slice va x.r.length vc] 38))
  have HE1 := Lib.hid hE1
  have hlen := bodyB_len x hok
  have hn64 := hok.n64
  clear hbt h hE1 hE hBv
  go_enter Tryz.func129, Tryz.ntmps129
  go_wp2_with fail
  refine (valid_any h3 h4 x (by omega) _ _ HE1.out HB.out).mono ?_
  rintro e w1 ⟨rfl, hb1⟩
  rw [hok.code, ev_zero]
  have hb1' : Below (w.heap.size + 1) (w.alloc (.cells #[.int .i64 x.b, .int .i64 x.e, .slice va x.r.length vc] 38)) w1 := hb1.mono (by simp)
  have d0 := (hb1'.cell (p := ⟨w.heap.size, 0, none⟩) (by simp)).trans (show _ = some (Value.int .i64 x.b) by go_simp)
  have d1 := (hb1'.cell (p := ⟨w.heap.size, 1, none⟩) (by simp)).trans (show _ = some (Value.int .i64 x.e) by go_simp)
  have d2 := (hb1'.cell (p := ⟨w.heap.size, 2, none⟩) (by simp)).trans (show _ = some (Value.slice va x.r.length vc) by go_simp)
  have hs1 := hb1'.size
  simp only [World.alloc_size'] at hs1
  have HB1 := Lib.hid (HB.out.below hb1' (by simp))
  clear hb1
  go_wp2_with fail
  refine (body_any x hok _ _ HB1.out).mono ?_
  rintro e w2 ⟨⟨v2, rfl, hown2⟩, hb2⟩
  have hb2' := hb1'.trans (hb2.mono hs1)
  have hs2 := hb2'.size
  simp only [World.alloc_size'] at hs2
  have HO2 := Lib.hid hown2
  have HY2 := Lib.hid (owns_read hown2).2
  obtain ⟨va2, vc2, hv2, -⟩ := (owns_read hown2).2.shape
  subst hv2
  clear hown2 hb2 d0 d1 d2
  go_wp2_with fail
  refine (little_any (bodyB x).length 4 0 w2.heap.size [] _ (by omega) _ (World.ownsRow_nil _ _ _ _) (Nat.le_refl _) (by omega)).mono ?_
  rintro e w3 ⟨v3, rfl, hown3, hgr3⟩
  have hb3 : Below w2.heap.size w2 w3 := grew_below hgr3 (Nat.le_refl _) (fun k hk => by simp [Value.ownBlock] at hk)
  have hs3 := hb3.size
  have HO3 := Lib.hid hown3
  have HY3 := Lib.hid ((HY2.out.below hb3 rfl).below ((Below.refl _ _).alloc (Nat.le_refl _) (.cells #[.slice va2 (bodyB x).length vc2] 22)) rfl)
  clear hown3 hgr3
  go_wp2_with fail
  refine (of_any _ _ (.slice va2 (bodyB x).length vc2) (bodyB x) _ (by go_simp) (by simp) HY3.out (bodyB_lt x hby) (by omega)).mono ?_
  rintro e w4 ⟨rfl, hb4'⟩
  have hb34 : Below w3.heap.size w3 w4 := ((Below.refl _ _).alloc (Nat.le_refl _) _).trans (hb4'.mono (by simp))
  have hs4 := hb34.size
  have HO4 := Lib.hid (owns_below HO3.out hb34)
  have hcr := crcF_lt 0 (bodyB x)
  have hb4 := hb3.trans (hb34.mono hs3)
  clear hb4' HY3
  go_wp2_with fail
  refine (little_any (crcF 0 (bodyB x)) 4 _ w2.heap.size _ _ (by omega) _ HO4.out (by omega) (by omega)).mono ?_
  rintro e w5 ⟨v5, rfl, hown5, hgr5⟩
  have hb5 := hb4.trans (grew_below hgr5 (by omega) (own_fresh HO4.out))
  have hs5 := hb5.size
  have HO5 := Lib.hid hown5
  have HY5 := Lib.hid (HY2.out.below hb5 rfl)
  clear hown5 hgr5
  go_wp2_with (at_builtin; refine wpList_append_bytes rfl _ _ rfl w2.heap.size _ _ _ rfl HO5.out _ _ rfl HY5.out ?c3 ?c5 ?_)
  case c3 => omega
  case c5 => omega
  intro v6 w6 hown6 hgr6 _ _
  have hb6 := hb5.grown hgr6 (by omega) (own_fresh HO5.out)
  have HO6 := Lib.hid hown6
  clear hown6 hgr6
  go_wp2_with fail
  have hbw : Below w.heap.size w w6 := below_box (hb2'.trans (hb6.mono hs2)) (Nat.le_refl _)
  have hown : w6.ownsRow w2.heap.size 5 1 v6 (0 + 4 + 4 + (bodyB x).length) (bcells (batB x)) := by
    have := HO6.out
    simpa [batB, List.append_assoc] using this
  have hn := (owns_read hown).1
  rw [hn] at hown
  exact bodyPost_ret (v := .tuple #[v6, .nilIface]) (by simp [results, Tryz.results129, go_sem]) rfl ⟨⟨v6, rfl, owns_bound hown (by omega)⟩, hbw⟩

set_option maxRecDepth 100000 in
set_option maxHeartbeats 1000000 in
theorem bytes_bad {S : List Nat} {E : Nat → Addr} {B : Nat} (h3 : 3 ∈ S) (h4 : 4 ∈ S) (x : Bt) (hn : x.r.length ≤ 1099511627776) (hbad : vcode x ≠ 0) (v : Value) (w : World) (hE : Errs S w E B) (h : BtV w v x) :
    Calls Tryz.prog 129 #[v] w fun e w' => e = .returned (.tuple #[.slice none 0 0, ev E (vcode x)]) ∧ Below w.heap.size w w' := by
  obtain ⟨rs, hv, h⟩ := h
  have hBv : BtV w v x := ⟨rs, hv, h⟩
  obtain ⟨va, vc, rfl⟩ := h.shape
  subst hv
  have hbt := hBv.below ((Below.refl _ _).alloc (Nat.le_refl _) (.cells #[.int .i64 x.b, .int .i64 x.e, .slice va x.r.length vc] 38)) rfl
  have HB := Lib.hid hbt
  have hE1 := hE.below ((Below.refl _ _).alloc hE.hi (.cells #[.int .i64 x.b, .int .i64 x.e, .slice va x.r.length vc] 38))
  have HE1 := Lib.hid hE1
  obtain ⟨a, ha⟩ : ∃ a, ev E (vcode x) = .iface 289 (.pointer (some a)) := ⟨_, by unfold ev; rw [if_neg hbad]⟩
  have HA := Lib.hid ha
  clear hbt h hE1 hE hBv ha
  go_enter Tryz.func129, Tryz.ntmps129
  go_wp2_with fail
  refine (valid_any h3 h4 x hn _ _ HE1.out HB.out).mono ?_
  rintro e w1 ⟨rfl, hb1⟩
  rw [HA.out]
  go_wp2_with fail
  exact bodyPost_ret (v := .tuple #[.slice none 0 0, .iface 289 (.pointer (some a))]) (by simp [results, Tryz.results129, go_sem]) rfl ⟨by rw [HA.out], below_box (hb1.mono (by simp)) (Nat.le_refl _)⟩

/-- How many bytes a batch has; 0: it may not be. -/
def sizeB (x : Bt) : Nat := if vcode x = 0 then (batB x).length else 0

set_option maxRecDepth 100000 in
set_option maxHeartbeats 1000000 in
theorem size_any {S : List Nat} {E : Nat → Addr} {B : Nat} (h3 : 3 ∈ S) (h4 : 4 ∈ S) (x : Bt) (hn : x.r.length ≤ 1099511627776) (hby : BtBy x) (v : Value) (w : World) (hE : Errs S w E B) (h : BtV w v x) :
    Calls Tryz.prog 89 #[v] w fun e w' => e = .returned (.int .i64 (sizeB x)) ∧ Below w.heap.size w w' := by
  obtain ⟨rs, hv, h⟩ := h
  have hBv : BtV w v x := ⟨rs, hv, h⟩
  obtain ⟨va, vc, rfl⟩ := h.shape
  subst hv
  have hbt := hBv.below ((Below.refl _ _).alloc (Nat.le_refl _) (.cells #[.int .i64 x.b, .int .i64 x.e, .slice va x.r.length vc] 38)) rfl
  have HB := Lib.hid hbt
  have hE1 := hE.below ((Below.refl _ _).alloc hE.hi (.cells #[.int .i64 x.b, .int .i64 x.e, .slice va x.r.length vc] 38))
  have HE1 := Lib.hid hE1
  clear hbt h hE1 hE hBv
  by_cases hbad : vcode x = 0
  · have hok := vcode_ok x hbad
    have hlen := bodyB_len x hok
    have hlen' : (batB x).length ≤ 38816 := by rw [batB_len]; omega
    clear hlen
    have HS : Hid (sizeB x = (batB x).length) := by show _ = _; unfold sizeB; rw [if_pos hbad]
    go_enter Tryz.func89, Tryz.ntmps89
    go_wp2_with fail
    refine (bytes_ok h3 h4 x hok hby _ _ HE1.out HB.out).mono ?_
    rintro e w1 ⟨⟨v1, rfl, hown⟩, hb1⟩
    obtain ⟨va1, vc1, hv1, -⟩ := (owns_read hown).2.shape
    subst hv1
    clear hown
    go_wp2_with fail
    go_ret
    exact ⟨by rw [HS.out]; rfl, below_box (hb1.mono (by simp)) (Nat.le_refl _)⟩
  · obtain ⟨a, ha⟩ : ∃ a, ev E (vcode x) = .iface 289 (.pointer (some a)) := ⟨_, by unfold ev; rw [if_neg hbad]⟩
    have HA := Lib.hid ha
    have HS : Hid (sizeB x = 0) := by show _ = _; unfold sizeB; rw [if_neg hbad]
    clear ha
    go_enter Tryz.func89, Tryz.ntmps89
    go_wp2_with fail
    refine (bytes_bad h3 h4 x hn hbad _ _ HE1.out HB.out).mono ?_
    rintro e w1 ⟨rfl, hb1⟩
    rw [HA.out]
    go_wp2_with fail
    go_ret
    exact ⟨by rw [HS.out]; rfl, below_box (hb1.mono (by simp)) (Nat.le_refl _)⟩

end Go.Proofs.YtncjffkpkmjgkaaGreatDoor.Sg

/-! SGe -/
namespace Go.Proofs.YtncjffkpkmjgkaaGreatDoor.Sg
open Go.RowKit Er

theorem or_add (a d k : Nat) (ha : a < 2 ^ k) : a ||| d * 2 ^ k = a + d * 2 ^ k := by
  have := Nat.two_pow_add_eq_or_of_lt (i := k) ha d
  rw [Nat.or_comm, Nat.mul_comm d, ← this, Nat.add_comm]

theorem getG (acc m i : Nat) (hm : m < 256) (hacc : acc < 2 ^ (7 * i)) (h : acc + m % 128 * 2 ^ (7 * i) < 18446744073709551616) :
    bits .or .u64 (acc : Int) (IntKind.u64.wrap (IntKind.u64.wrap (bits .and .u8 (m : Int) 127) * 2 ^ (7 * i))) = ((acc + m % 128 * 2 ^ (7 * i) : Nat) : Int) := by
  have h1 := and8 m 127 hm (by omega)
  rw [show (127 : Nat) = 2 ^ 7 - 1 from rfl, Nat.and_two_pow_sub_one_eq_mod] at h1
  rw [show (127 : Int) = ((2 ^ 7 - 1 : Nat) : Int) from rfl, h1, wraps_u64 ((m % 2 ^ 7 : Nat) : Int) (by omega) (by omega)]
  rw [show (((m % 2 ^ 7 : Nat) : Int) * 2 ^ (7 * i)) = ((m % 128 * 2 ^ (7 * i) : Nat) : Int) from by push_cast; rfl]
  rw [wraps_u64 _ (by omega) (by omega), or64 _ _ (by omega) (by omega), or_add _ _ _ hacc]

set_option maxRecDepth 100000 in
set_option maxHeartbeats 1000000 in
theorem get_ok (N : Nat) (hN : N < 18446744073709551616) (v : Value) (xs rest : List Nat) (w : World) (h : SlB w v xs) (hx : xs = vput N ++ rest) (hl : xs.length ≤ 1099511627776) :
    Calls Tryz.prog 222 #[v] w fun e w' => e = .returned (.tuple #[.int .u64 N, .int .i64 (vput N).length, .nilIface]) ∧ w = w' := by
  have H0 := Lib.hid h
  obtain ⟨va, vc, rfl, -⟩ := h.shape
  clear h
  go_enter Tryz.func222, Tryz.ntmps222
  go_wp2_with fail
  go_loopg [5, 8] 10 (fun r q j wr => ∃ (i acc m : Nat) (pre : List Nat), i + r = 10 ∧ i ≤ 9 ∧ j = .int .i64 i ∧ q = .int .u64 acc ∧ wr = w ∧ pre.length = i ∧ vput N = pre ++ vput m ∧ N = acc + m * 2 ^ (7 * i) ∧ acc < 2 ^ (7 * i) ∧ (0 < i → 0 < m))
  case atStart => exact ⟨0, 0, N, [], rfl, by omega, rfl, rfl, rfl, rfl, rfl, by simp, by simp, by omega⟩
  case round =>
    obtain ⟨i, acc, m, pre, hi, hi9, rfl, rfl, rfl, hpl, hv, hsum, hacc, hpos⟩ := hrel
    have hm : m < 128 ∨ 128 ≤ m := by omega
    have hm9 : i = 9 → m ≤ 1 := by rintro rfl; omega
    rcases hm with hm | hm
    · have hxi : xs = pre ++ m :: rest := by rw [hx, hv, vput_small m hm]; simp
      have hlt : i < xs.length := by rw [hxi]; simp; omega
      obtain ⟨g, off, cap, hvv, hg, hc⟩ := slB_cell H0.out hlt
      have hxe : xs[i] = m := by subst hpl; simp [hxi]
      rw [hxe] at hc
      cases hvv
      have hmm : m % 128 = m := Nat.mod_eq_of_lt hm
      have hG := getG acc m i (by omega) hacc (by rw [hmm, ← hsum]; exact hN)
      rw [hmm, ← hsum] at hG
      have hL : ((vput N).length : Int) = (i : Int) + 1 := by rw [hv, vput_small m hm]; simp; omega
      have HL := Lib.hid hL
      clear hv hsum hacc hxi hx hxe hmm hL
      by_cases h9 : i = 9
      · subst h9
        have hm1 : m ≤ 1 := hm9 rfl
        have hm1' : ¬ (1 : Int) < (m : Int) := by omega
        have hm0 : 0 < m := hpos (by omega)
        have hm0' : ((m : Int) == 0) = false := beq_eq_false_iff_ne.2 (by omega)
        rw [show (2 : Int) ^ (7 * 9) = 9223372036854775808 from rfl] at hG
        have HG := Lib.hid hG
        clear hm9 hpos hG
        go_wp2_with fail
        exact bodyPost_ret (v := .tuple #[.int .u64 N, .int .i64 (vput N).length, .nilIface]) (by simp [results, Tryz.results222, go_sem, HG.out, HL.out]) rfl ⟨rfl, rfl⟩
      · have h9' : ((i : Int) == 9) = false := beq_eq_false_iff_ne.2 (by omega)
        by_cases h0 : i = 0
        · subst h0
          clear hpos hm9 h9
          rw [Nat.add_zero] at hc
          have hne : xs ≠ [] := fun e => by rw [e] at hlt; simp at hlt
          rw [show (2 : Int) ^ (7 * 0) = 1 from rfl, Int.mul_one] at hG
          have HG := Lib.hid hG
          clear hG
          go_wp2_with fail
          exact bodyPost_ret (v := .tuple #[.int .u64 N, .int .i64 (vput N).length, .nilIface]) (by simp [results, Tryz.results222, go_sem, HG.out, HL.out]) rfl ⟨rfl, rfl⟩
        · have hm0 : 0 < m := hpos (by omega)
          have hm0' : ((m : Int) == 0) = false := beq_eq_false_iff_ne.2 (by omega)
          have h00 : (0 : Int) < (i : Int) := by omega
          have HG := Lib.hid hG
          clear hpos hm9 hG
          go_wp2_with fail
          exact bodyPost_ret (v := .tuple #[.int .u64 N, .int .i64 (vput N).length, .nilIface]) (by simp [results, Tryz.results222, go_sem, HG.out, HL.out]) rfl ⟨rfl, rfl⟩
    · have hi8 : i ≤ 8 := by
        rcases Nat.lt_or_ge 8 i with h8 | h8
        · have := hm9 (by omega); omega
        · exact h8
      have hvm := vput_big m (by omega)
      have hxi : xs = pre ++ (m % 128 + 128) :: (vput (m / 128) ++ rest) := by rw [hx, hv, hvm]; simp
      have hlt : i < xs.length := by rw [hxi]; simp; omega
      obtain ⟨g, off, cap, hvv, hg, hc⟩ := slB_cell H0.out hlt
      have hxe : xs[i] = m % 128 + 128 := by subst hpl; simp [hxi]
      rw [hxe] at hc
      cases hvv
      have hp2 : 2 ^ (7 * (i + 1)) = 128 * 2 ^ (7 * i) := by rw [Nat.mul_add, Nat.pow_add]; omega
      have hdm : m % 128 * 2 ^ (7 * i) + m / 128 * (128 * 2 ^ (7 * i)) = m * 2 ^ (7 * i) := by
        rw [← Nat.mul_assoc, ← Nat.add_mul]; congr 1; omega
      have hd : m % 128 ≤ 127 := by omega
      have hdb : m % 128 * 2 ^ (7 * i) ≤ 127 * 2 ^ (7 * i) := Nat.mul_le_mul_right _ hd
      obtain ⟨c, hce⟩ : ∃ c, c = m % 128 + 128 := ⟨_, rfl⟩
      rw [← hce] at hc
      have hcm : c % 128 = m % 128 := by omega
      have hG := getG acc c i (by omega) hacc (by rw [hcm]; omega)
      rw [hcm] at hG
      have HX := Lib.hid (show ∃ pre' : List Nat, pre'.length = i + 1 ∧ vput N = pre' ++ vput (m / 128) from ⟨pre ++ [m % 128 + 128], by simp [hpl], by rw [hv, hvm]; simp⟩)
      have HS : Hid (N = acc + m % 128 * 2 ^ (7 * i) + m / 128 * 2 ^ (7 * (i + 1)) ∧ acc + m % 128 * 2 ^ (7 * i) < 2 ^ (7 * (i + 1))) := by
        show _ ∧ _
        rw [hp2]
        omega
      have HG := Lib.hid hG
      have c1 : (128 : Int) ≤ (c : Int) := by omega
      have c2 : c < 256 := by omega
      have h9' : ((i : Int) == 9) = false := beq_eq_false_iff_ne.2 (by omega)
      have hm2 : 0 < m / 128 := by omega
      clear hG hv hvm hsum hacc hxi hx hxe hp2 hdm hdb hcm hce hd hm9 hpos
      obtain ⟨gj, rfl⟩ : ∃ x, gk = x + 1 := ⟨gk - 1, by omega⟩
      go_wp2_with fail
      go_roundg gj
      case measure => omega
      case rel =>
        obtain ⟨pre', hl', hv'⟩ := HX.out
        exact ⟨i + 1, _, m / 128, pre', by omega, by omega, by go_num, by rw [HG.out], rfl, hl', hv', HS.out.1, HS.out.2, fun _ => hm2⟩

end Go.Proofs.YtncjffkpkmjgkaaGreatDoor.Sg

/-! SRd -/
namespace Go.Proofs.YtncjffkpkmjgkaaGreatDoor.Sg
open Go.RowKit Er

theorem xor_i64_m1 (x : Nat) (hx : x < 9223372036854775808) : bits .xor .i64 (x : Int) (-1) = -(x : Int) - 1 := by
  rw [← Lib.i64_not x hx]
  show IntKind.i64.wrap ((BitVec.ofInt 64 (x : Int) ^^^ BitVec.ofInt 64 (-1)).toNat : Int) = IntKind.i64.wrap ((BitVec.ofInt 64 (-1) ^^^ BitVec.ofInt 64 (x : Int)).toNat : Int)
  rw [BitVec.xor_comm]
theorem xor_i64_0 (x : Nat) (hx : x < 9223372036854775808) : bits .xor .i64 (x : Int) 0 = (x : Int) := by
  show IntKind.i64.wrap ((BitVec.ofInt 64 (x : Int) ^^^ BitVec.ofInt 64 0).toNat : Int) = _
  have h2 : (BitVec.ofInt 64 (x : Int)).toNat = x := by
    rw [BitVec.ofInt_natCast, BitVec.toNat_ofNat]; exact Nat.mod_eq_of_lt (by omega)
  rw [show BitVec.ofInt 64 0 = 0#64 from by decide, BitVec.xor_zero, h2, IntKind.wrap_i64]
  omega

theorem zag (z : Int) (hz : -4611686018427387904 ≤ z) (hz' : z < 4611686018427387904) :
    bits .xor .i64 ((zig z : Int) / 2) (-((zig z : Int) % 2)) = z := by
  unfold zig
  split
  · rw [show (((2 * z).toNat : Nat) : Int) / 2 = ((z.toNat : Nat) : Int) from by omega, show -((((2 * z).toNat : Nat) : Int) % 2) = 0 from by omega, xor_i64_0 _ (by omega)]
    omega
  · rw [show (((-2 * z - 1).toNat : Nat) : Int) / 2 = (((-z - 1).toNat : Nat) : Int) from by omega, show -((((-2 * z - 1).toNat : Nat) : Int) % 2) = -1 from by omega, xor_i64_m1 _ (by omega)]
    omega

set_option maxRecDepth 100000 in
set_option maxHeartbeats 400000 in
theorem getint_ok (z : Int) (hz : -4611686018427387904 ≤ z) (hz' : z < 4611686018427387904) (v : Value) (xs rest : List Nat) (w : World) (h : SlB w v xs) (hx : xs = vput (zig z) ++ rest) (hl : xs.length ≤ 1099511627776) :
    Calls Tryz.prog 202 #[v] w fun e w' => e = .returned (.tuple #[.int .i64 z, .int .i64 (vput (zig z)).length, .nilIface]) ∧ w = w' := by
  have hzl := zig_lt z hz hz'
  obtain ⟨m, hm, hm1, hA, hZ⟩ : ∃ m : Int, 0 ≤ m ∧ m ≤ 1 ∧ bits .and .u64 ((zig z : Nat) : Int) 1 = m ∧ bits .xor .i64 ((zig z : Int) / 2) (-m) = z :=
    ⟨_, by omega, by omega, Lib.u64_and1 (zig z) (by omega) (by omega), zag z hz hz'⟩
  have HZ := Lib.hid hZ
  clear hZ
  go_enter Tryz.func202, Tryz.ntmps202
  go_wp2_with fail
  refine (get_ok (zig z) (by omega) _ _ _ _ h hx hl).mono ?_
  rintro e w1 ⟨rfl, rfl⟩
  go_wp2_with fail
  exact bodyPost_ret (v := .tuple #[.int .i64 z, .int .i64 (vput (zig z)).length, .nilIface]) (by simp [results, Tryz.results202, go_sem, HZ.out]) rfl ⟨rfl, rfl⟩

/-- Of the blocks that were there only those of M may have changed. -/
structure Upd (M : List Nat) (w w' : World) : Prop where
  os : w'.os = w.os
  tape : w'.tape = w.tape
  output : w'.output = w.output
  size : w.heap.size ≤ w'.heap.size
  block : ∀ k, k < w.heap.size → k ∉ M → w'.heap[k]? = w.heap[k]?

theorem Upd.refl (M : List Nat) (w : World) : Upd M w w := ⟨rfl, rfl, rfl, Nat.le_refl _, fun _ _ _ => rfl⟩
theorem Upd.trans {M : List Nat} {a b c : World} (h : Upd M a b) (h' : Upd M b c) : Upd M a c :=
  ⟨h'.os.trans h.os, h'.tape.trans h.tape, h'.output.trans h.output, Nat.le_trans h.size h'.size, fun k hk hm => (h'.block k (Nat.lt_of_lt_of_le hk h.size) hm).trans (h.block k hk hm)⟩
theorem Upd.mono {M M' : List Nat} {a b : World} (h : Upd M a b) (hm : ∀ k, k ∈ M → k ∈ M') : Upd M' a b := ⟨h.os, h.tape, h.output, h.size, fun k hk hn => h.block k hk (fun e => hn (hm k e))⟩
/-- New blocks count for nothing. -/
theorem Upd.trans' {M M' : List Nat} {a b c : World} (h : Upd M a b) (h' : Upd M' b c) (hm : ∀ k, k ∈ M' → k ∈ M ∨ a.heap.size ≤ k) : Upd M a c :=
  ⟨h'.os.trans h.os, h'.tape.trans h.tape, h'.output.trans h.output, Nat.le_trans h.size h'.size, fun k hk hn => (h'.block k (Nat.lt_of_lt_of_le hk h.size) (fun e => by rcases hm k e with h1 | h1; exact hn h1; omega)).trans (h.block k hk hn)⟩
theorem Upd.of_below {M : List Nat} {w w' : World} {B : Nat} (h : Below B w w') (hB : w.heap.size ≤ B) : Upd M w w' := ⟨h.os, h.tape, h.output, h.size, fun k hk _ => h.block k (by omega)⟩
theorem Upd.to_below {M : List Nat} {w w' : World} {B : Nat} (h : Upd M w w') (hB : B ≤ w.heap.size) (hM : ∀ k, k ∈ M → B ≤ k) : Below B w w' :=
  ⟨h.os, h.tape, h.output, h.size, fun k hk => h.block k (by omega) (fun e => by have := hM k e; omega)⟩
theorem Upd.setCell {M : List Nat} {w w' : World} (h : Upd M w w') (b o : Nat) (v : Value) (hb : b ∈ M ∨ w.heap.size ≤ b) : Upd M w (w'.setCell ⟨b, o, none⟩ v) :=
  ⟨h.os, h.tape, h.output, by simpa [World.setCell] using h.size, fun k hk hn => (Deep.blk_setCell_other _ _ _ _ (fun e => by rcases hb with h1 | h1; exact hn (by rw [e]; exact h1); have : k = b := e; omega)).trans (h.block k hk hn)⟩
theorem Upd.alloc {M : List Nat} {w w' : World} (h : Upd M w w') (o : Obj) : Upd M w (w'.alloc o) :=
  ⟨h.os, h.tape, h.output, by have := h.size; simp; omega, fun k hk hn => (Deep.blk_alloc_lt _ _ _ (Nat.lt_of_lt_of_le hk h.size)).trans (h.block k hk hn)⟩
theorem Upd.drewN {M : List Nat} {w w' : World} (h : Upd M w w') (n : Nat) : Upd M w (w'.drewN n) := ⟨h.os, h.tape, h.output, h.size, h.block⟩
theorem Upd.grown {M : List Nat} {w w1 w' : World} (h : Upd M w w1) {row : Option Nat} (hg : w1.grownBy w' row) (hr : ∀ k, row = some k → k ∈ M ∨ w.heap.size ≤ k) : Upd M w w' :=
  h.trans' (M' := row.toList) ⟨hg.os, hg.tape, hg.output, hg.size, fun k hk hn => hg.block k hk (fun e => hn (by rw [← e]; simp))⟩ (fun k hk => hr k (by simpa using hk))
theorem Upd.cell {M : List Nat} {w w' : World} (h : Upd M w w') {b o : Nat} (hb : b < w.heap.size) (hn : b ∉ M) : w'.cell? ⟨b, o, none⟩ = w.cell? ⟨b, o, none⟩ := by
  have := h.block b hb hn
  simp only [World.cell?, this]
theorem SlB.upd {M : List Nat} {w w' : World} {v : Value} {xs : List Nat} (h : SlB w v xs) (hu : Upd M w w') (hne : ∀ k, k ∈ M → v.ownBlock ≠ some k) : SlB w' v xs := by
  rcases h with h | ⟨g, off, cap, rfl, hc, hgl, h⟩ | h
  · exact Or.inl h
  · exact Or.inr (Or.inl ⟨g, off, cap, rfl, hc, by have := hu.size; omega, fun i x hx => (hu.cell hgl (fun e => hne g e rfl)).trans (h i x hx)⟩)
  · exact Or.inr (Or.inr h)

theorem grownBy_set1 (w : World) (b o : Nat) (v : Value) : w.grownBy (w.setCell ⟨b, o, none⟩ v) (some b) :=
  ⟨rfl, rfl, rfl, by simp [World.setCell], fun k _ hne => Deep.blk_setCell_other _ _ _ _ (fun e => hne (by rw [e]))⟩

/-- A reader's cells. -/
def rdF (v : Value) (p : Nat) (i : Nat) : Value := if i = 0 then v else if i = 1 then .int .i64 p else .nilIface
/-- A reader of bytes, at a place, nothing amiss. -/
structure RdV (w : World) (r : Nat) (v : Value) (xs : List Nat) (p : Nat) : Prop where
  row : w.rowIs r 228 3 (rdF v p)
  sl : SlB w v xs
  ne : v.ownBlock ≠ some r
  le : p ≤ xs.length
  lt : xs.length ≤ 1099511627776

theorem RdV.c0 {w : World} {r p : Nat} {v : Value} {xs : List Nat} (h : RdV w r v xs p) : w.cell? ⟨r, 0, none⟩ = some v := h.row.cell (i := 0) (by omega)
theorem RdV.c1 {w : World} {r p : Nat} {v : Value} {xs : List Nat} (h : RdV w r v xs p) : w.cell? ⟨r, 1, none⟩ = some (.int .i64 p) := h.row.cell (i := 1) (by omega)
theorem RdV.c2 {w : World} {r p : Nat} {v : Value} {xs : List Nat} (h : RdV w r v xs p) : w.cell? ⟨r, 2, none⟩ = some .nilIface := h.row.cell (i := 2) (by omega)

theorem SlB.grown {w w' : World} {v : Value} {xs : List Nat} {row : Option Nat} (h : SlB w v xs) (hg : w.grownBy w' row) (hne : ∀ k, row = some k → v.ownBlock ≠ some k) : SlB w' v xs := by
  rcases h with h | ⟨g, off, cap, rfl, hc, hgl, h⟩ | h
  case inr.inr => exact Or.inr (Or.inr h)
  · exact Or.inl h
  · refine Or.inr (Or.inl ⟨g, off, cap, rfl, hc, by have := hg.size; omega, fun i x hx => ?_⟩)
    have hb := hg.block g hgl (fun e => hne g e.symm rfl)
    have := h i x hx
    simp only [World.cell?, hb] at this ⊢
    exact this

theorem RdV.set {w : World} {r p : Nat} {v : Value} {xs : List Nat} (h : RdV w r v xs p) (q : Nat) (hq : q ≤ xs.length) : RdV (w.setCell ⟨r, 1, none⟩ (.int .i64 q)) r v xs q :=
  ⟨(h.row.set 1 _).congr (fun i _ => by unfold rdF; by_cases h0 : i = 0 <;> by_cases h1 : i = 1 <;> simp_all), h.sl.grown (grownBy_set1 w r 1 _) (fun k hk => by cases hk; exact h.ne), h.ne, hq, h.lt⟩

theorem RdV.upd {M : List Nat} {w w' : World} {r p : Nat} {v : Value} {xs : List Nat} (h : RdV w r v xs p) (hu : Upd M w w') (hr : r ∉ M) (hne : ∀ k, k ∈ M → v.ownBlock ≠ some k) : RdV w' r v xs p :=
  ⟨h.row.of_block (hu.block r h.row.lt hr), h.sl.upd hu hne, h.ne, h.le, h.lt⟩
theorem RdV.below {B : Nat} {w w' : World} {r p : Nat} {v : Value} {xs : List Nat} (h : RdV w r v xs p) (hb : Below B w w') (hB : w.heap.size ≤ B) : RdV w' r v xs p :=
  h.upd (Upd.of_below (M := []) hb hB) (by simp) (by simp)

set_option maxRecDepth 100000 in
set_option maxHeartbeats 400000 in
theorem newreader_any (v : Value) (xs : List Nat) (w : World) (h : SlB w v xs) (hl : xs.length ≤ 1099511627776) :
    Calls Tryz.prog 143 #[v] w fun e w' => (∃ r v', e = .returned (.pointer (some ⟨r, 0, none⟩)) ∧ w.heap.size ≤ r ∧ RdV w' r v' xs 0) ∧ Below w.heap.size w w' := by
  go_enter Tryz.func143, Tryz.ntmps143
  go_wp2_with fail
  refine (clone_any v xs w h hl).mono ?_
  rintro e w1 ⟨⟨v1, rfl, hown, -⟩, hb1⟩
  have hsl := (owns_read hown).2
  have hne := owns_lt hown (Nat.le_refl _)
  obtain ⟨va, vc, hv, -⟩ := hsl.shape
  subst hv
  have HSL := Lib.hid hsl
  have hw1 := hb1.size
  clear hown hsl
  go_wp2_with fail
  go_ret
  refine ⟨⟨_, _, rfl, hw1, ?_, HSL.out.below ((Below.refl _ _).alloc (Nat.le_refl _) _) rfl, hne, by omega, hl⟩, hb1.alloc hw1 _⟩
  exact World.rowIs_alloc w1 #[.slice va xs.length vc, .int .i64 0, .nilIface] 228 (rdF (.slice va xs.length vc) 0) (fun i hi => by
    have hi' : i < 3 := hi
    rcases (show i = 0 ∨ i = 1 ∨ i = 2 by omega) with rfl | rfl | rfl <;> rfl)

set_option maxRecDepth 100000 in
set_option maxHeartbeats 400000 in
theorem left_ok (r p : Nat) (v : Value) (xs : List Nat) (w : World) (h : RdV w r v xs p) :
    Calls Tryz.prog 174 #[.pointer (some ⟨r, 0, none⟩)] w fun e w' => e = .returned (.int .i64 ((xs.length - p : Nat) : Int)) ∧ Below w.heap.size w w' := by
  obtain ⟨va, vc, rfl, -⟩ := h.sl.shape
  have c0 := h.c0
  have c1 := h.c1
  have hle := h.le
  have hlt := h.lt
  have HL : Hid (((xs.length - p : Nat) : Int) = (xs.length : Int) - p) := by show _ = _; omega
  clear h
  rw [HL.out]
  go_enter Tryz.func174, Tryz.ntmps174
  go_wp2_with fail
  go_quiet (fail)
  go_wp2_with fail
  go_ret
  exact ⟨rfl, below_drewN (Below.refl _ _) _⟩

set_option maxRecDepth 100000 in
theorem err_ok (r p : Nat) (v : Value) (xs : List Nat) (w : World) (h : RdV w r v xs p) :
    Calls Tryz.prog 178 #[.pointer (some ⟨r, 0, none⟩)] w fun e w' => e = .returned .nilIface ∧ w = w' := by
  have c2 := h.c2
  clear h
  go_enter Tryz.func178, Tryz.ntmps178
  go_wp2_with fail
  go_ret
  exact ⟨rfl, rfl⟩

/-- What stands behind a place of bytes that are read. -/
theorem SlB.drop {w : World} {g off n cap : Nat} {xs : List Nat} (h : SlB w (.slice (some ⟨g, off, none⟩) n cap) xs) {p : Nat} (hp : p ≤ xs.length) {m : Nat} (hm : p + m ≤ xs.length) (cap' : Nat) (hc : m ≤ cap') : SlB w (.slice (some ⟨g, off + p, none⟩) m cap') ((xs.drop p).take m) := by
  rcases h with ⟨h, _⟩ | ⟨g', off', c, h1, h2, h3, h4⟩ | ⟨_, _, _, h0⟩
  · cases h
  case inr.inr =>
    subst h0
    have h5 : m = 0 := by simp at hm; omega
    subst h5
    exact Or.inr (Or.inr ⟨_, cap', rfl, by simp⟩)
  · cases h1
    have hl : ((xs.drop p).take m).length = m := by simp; omega
    refine Or.inr (Or.inl ⟨g, off + p, cap', by rw [hl], by rw [hl]; exact hc, h3, fun i x hx => ?_⟩)
    have hi : i < m := by have := (List.getElem?_eq_some_iff.1 hx).1; rw [hl] at this; exact this
    rw [List.getElem?_take_of_lt hi, List.getElem?_drop] at hx
    rw [Nat.add_assoc]
    exact h4 _ x hx

theorem getint_at (z : Int) (hz : -4611686018427387904 ≤ z) (hz' : z < 4611686018427387904) (vz : List Nat) (hvz : Hid (vput (zig z) = vz)) (v : Value) (xs rest : List Nat) (w : World) (h : SlB w v xs) (hx : xs = vz ++ rest) (hl : xs.length ≤ 1099511627776) :
    Calls Tryz.prog 202 #[v] w fun e w' => e = .returned (.tuple #[.int .i64 z, .int .i64 vz.length, .nilIface]) ∧ w = w' := by
  have := hvz.out
  subst this
  exact getint_ok z hz hz' v xs rest w h hx hl

set_option maxRecDepth 100000 in
set_option maxHeartbeats 400000 in
theorem int_ok (z a b : Int) (hz : -4611686018427387904 ≤ z) (hz' : z < 4611686018427387904) (ha : a ≤ z) (hb : z ≤ b) (vz : List Nat) (hvz : Hid (vput (zig z) = vz)) (r p : Nat) (v : Value) (xs rest : List Nat) (w : World) (h : RdV w r v xs p) (hx : xs.drop p = vz ++ rest) :
    Calls Tryz.prog 177 #[.pointer (some ⟨r, 0, none⟩), .int .i64 a, .int .i64 b] w fun e w' => e = .returned (.int .i64 z) ∧ RdV w' r v xs (p + vz.length) ∧ Upd [r] w w' := by
  have hp : 0 < vz.length := by rw [← hvz.out]; exact vput_pos (zig z)
  have hlen : p + vz.length ≤ xs.length := by
    have := congrArg List.length hx
    simp at this; omega
  have HR := Lib.hid h
  obtain ⟨g, off, cap, hv, hg, -⟩ := slB_cell h.sl (k := p) (by omega)
  subst hv
  have c0 := h.c0
  have c1 := h.c1
  have c2 := h.c2
  have hcap := h.sl.shape
  obtain ⟨a0, cap0, hcc, hcap⟩ := hcap
  cases hcc
  have hlt := h.lt
  have hf := h.row.frozen 1
  have hsl : SlB w (.slice (some ⟨g, off + p, none⟩) (xs.length - p) (cap - p)) (xs.drop p) := by
    have := h.sl.drop h.le (m := xs.length - p) (by omega) (cap - p) (by omega)
    rwa [List.take_of_length_le (by simp)] at this
  have HSL := Lib.hid hsl
  have HX := Lib.hid hx
  have hdl : (xs.drop p).length ≤ 1099511627776 := by simp; omega
  have HDL := Lib.hid hdl
  have HLEN := Lib.hid hlen
  have i1 : (0 : Int) ≤ (p : Int) := by omega
  have i2 : (p : Int) ≤ (xs.length : Int) := by omega
  have i3 : (xs.length : Int) ≤ (cap : Int) := by omega
  have i4 : ¬ cap = p := by omega
  have HS : ∀ wz, Below w.heap.size w wz → SlB wz (.slice (some ⟨g, off + p, none⟩) (xs.length - p) (cap - p)) (xs.drop p) := fun wz hz => HSL.out.below hz rfl
  have HS := Lib.hid HS
  clear h hsl hx hdl hcap
  go_enter Tryz.func177, Tryz.ntmps177
  go_wp2_with fail
  go_region_held3 (fun w' => w'.cell? ⟨r, 0, none⟩ = some (.slice (some ⟨g, off, none⟩) xs.length cap) ∧ w'.cell? ⟨r, 1, none⟩ = some (.int .i64 p)) (go_keep)
    (first
      | (with_reducible refine (getint_at z hz hz' vz hvz _ _ _ _ ?_ HX.out HDL.out).mono ?_
         · exact HS.out _ (below_drewN (Below.refl _ _) _)
         rintro e w' ⟨rfl, rfl⟩))
  go_wp2_with fail
  go_ret
  rw [show ((p : Int) + (vz.length : Int)) = ((p + vz.length : Nat) : Int) from by omega]
  exact ⟨rfl, (HR.out.below (below_drewN (Below.refl _ _) _) (Nat.le_refl _)).set _ HLEN.out, ((Upd.refl _ _).drewN _).setCell _ _ _ (.inl (by simp))⟩

end Go.Proofs.YtncjffkpkmjgkaaGreatDoor.Sg

/-! SRe -/
namespace Go.Proofs.YtncjffkpkmjgkaaGreatDoor.Sg
open Go.RowKit Er

theorem get_at (n : Nat) (hn : n < 18446744073709551616) (vz : List Nat) (hvz : Hid (vput n = vz)) (v : Value) (xs rest : List Nat) (w : World) (h : SlB w v xs) (hx : xs = vz ++ rest) (hl : xs.length ≤ 1099511627776) :
    Calls Tryz.prog 222 #[v] w fun e w' => e = .returned (.tuple #[.int .u64 n, .int .i64 vz.length, .nilIface]) ∧ w = w' := by
  have := hvz.out
  subst this
  exact get_ok n hn v xs rest w h hx hl

set_option maxRecDepth 100000 in
set_option maxHeartbeats 400000 in
theorem num_ok (n most : Nat) (hn : n < 18446744073709551616) (hm : n ≤ most) (vz : List Nat) (hvz : Hid (vput n = vz)) (r p : Nat) (v : Value) (xs rest : List Nat) (w : World) (h : RdV w r v xs p) (hx : xs.drop p = vz ++ rest) :
    Calls Tryz.prog 203 #[.pointer (some ⟨r, 0, none⟩), .int .u64 most] w fun e w' => e = .returned (.int .u64 n) ∧ RdV w' r v xs (p + vz.length) ∧ Upd [r] w w' := by
  have hp : 0 < vz.length := by rw [← hvz.out]; exact vput_pos n
  have hlen : p + vz.length ≤ xs.length := by
    have := congrArg List.length hx
    simp at this; omega
  have HR := Lib.hid h
  obtain ⟨g, off, cap, hv, hg, -⟩ := slB_cell h.sl (k := p) (by omega)
  subst hv
  have c0 := h.c0
  have c1 := h.c1
  have c2 := h.c2
  have hcap := h.sl.shape
  obtain ⟨a0, cap0, hcc, hcap⟩ := hcap
  cases hcc
  have hlt := h.lt
  have hf := h.row.frozen 1
  have hsl : SlB w (.slice (some ⟨g, off + p, none⟩) (xs.length - p) (cap - p)) (xs.drop p) := by
    have := h.sl.drop h.le (m := xs.length - p) (by omega) (cap - p) (by omega)
    rwa [List.take_of_length_le (by simp)] at this
  have HSL := Lib.hid hsl
  have HX := Lib.hid hx
  have hdl : (xs.drop p).length ≤ 1099511627776 := by simp; omega
  have HDL := Lib.hid hdl
  have HLEN := Lib.hid hlen
  have i1 : (0 : Int) ≤ (p : Int) := by omega
  have i2 : (p : Int) ≤ (xs.length : Int) := by omega
  have i3 : (xs.length : Int) ≤ (cap : Int) := by omega
  have i4 : ¬ cap = p := by omega
  have i5 : ¬ (most : Int) < (n : Int) := by omega
  have HS : ∀ wz, Below w.heap.size w wz → SlB wz (.slice (some ⟨g, off + p, none⟩) (xs.length - p) (cap - p)) (xs.drop p) := fun wz hz => HSL.out.below hz rfl
  have HS := Lib.hid HS
  clear h hsl hx hdl hcap
  go_enter Tryz.func203, Tryz.ntmps203
  go_wp2_with fail
  go_region_held3 (fun w' => w'.cell? ⟨r, 0, none⟩ = some (.slice (some ⟨g, off, none⟩) xs.length cap) ∧ w'.cell? ⟨r, 1, none⟩ = some (.int .i64 p)) (go_keep)
    (first
      | (with_reducible refine (get_at n hn vz hvz _ _ _ _ ?_ HX.out HDL.out).mono ?_
         · exact HS.out _ (below_drewN (Below.refl _ _) _)
         rintro e w' ⟨rfl, rfl⟩))
  go_wp2_with fail
  go_ret
  rw [show ((p : Int) + (vz.length : Int)) = ((p + vz.length : Nat) : Int) from by omega]
  exact ⟨rfl, (HR.out.below (below_drewN (Below.refl _ _) _) (Nat.le_refl _)).set _ HLEN.out, ((Upd.refl _ _).drewN _).setCell _ _ _ (.inl (by simp))⟩

set_option maxRecDepth 100000 in
set_option maxHeartbeats 400000 in
theorem rbytes_ok (ys : List Nat) (most : Nat) (hn : ys.length ≤ most) (hmm : most ≤ 1099511627776) (vz : List Nat) (hvz : Hid (vput ys.length = vz)) (r p : Nat) (v : Value) (xs rest : List Nat) (w : World) (h : RdV w r v xs p) (hx : xs.drop p = vz ++ (ys ++ rest)) :
    Calls Tryz.prog 179 #[.pointer (some ⟨r, 0, none⟩), .int .i64 most] w fun e w' => (∃ v', e = .returned v' ∧ w'.ownsRow w.heap.size 5 1 v' ys.length (bcells ys)) ∧ RdV w' r v xs (p + vz.length + ys.length) ∧ Upd [r] w w' := by
  have hp : 0 < vz.length := by rw [← hvz.out]; exact vput_pos _
  have hlen : p + vz.length + ys.length ≤ xs.length := by
    have := congrArg List.length hx
    simp at this; omega
  have HR := Lib.hid h
  obtain ⟨g, off, cap, hv, hg, -⟩ := slB_cell h.sl (k := p) (by omega)
  subst hv
  have c0 := h.c0
  have c1 := h.c1
  obtain ⟨a0, cap0, hcc, hcap⟩ := h.sl.shape
  cases hcc
  have hlt := h.lt
  have hne := h.ne
  have HX := Lib.hid hx
  have hys : (xs.drop (p + vz.length)).take ys.length = ys := by
    rw [← List.drop_drop, hx, List.drop_left, List.take_left]
  have HYS := Lib.hid hys
  clear h hx hys
  go_enter Tryz.func179, Tryz.ntmps179
  go_wp2_with fail
  refine (num_ok ys.length most (by omega) hn vz hvz r p _ xs (ys ++ rest) w HR.out HX.out).mono ?_
  rintro e w1 ⟨rfl, hr1, hu1⟩
  obtain ⟨q, hq⟩ : ∃ q, q = p + vz.length := ⟨_, rfl⟩
  rw [← hq] at hr1 HYS
  have hqle : q + ys.length ≤ xs.length := by omega
  have HQ := Lib.hid hq
  clear hq hlen
  have HR1 := Lib.hid hr1
  have d0 := hr1.c0
  have d1 := hr1.c1
  have d2 := hr1.c2
  clear hr1 c0 c1
  go_wp2_with fail
  refine (left_ok r q _ xs w1 HR1.out).mono ?_
  rintro e w2 ⟨rfl, hb2⟩
  have hr2 := HR1.out.below hb2 (Nat.le_refl _)
  have HR2 := Lib.hid hr2
  have e0 := hr2.c0
  have e1 := hr2.c1
  have e2 := hr2.c2
  have hf2 := hr2.row.frozen 1
  have hu2 := hu1.trans (Upd.of_below hb2 (Nat.le_refl _))
  have i5 : ¬ ((xs.length - q : Nat) : Int) < (ys.length : Int) := by omega
  have i6 : ((xs.length - q : Nat) : Int) ≤ 1099511627776 := by omega
  clear hr2 d0 d1 d2 hb2 hu1
  go_upto_region 8 with fail
  have hset := HR2.out.set (q + ys.length) (by omega)
  rw [show ((q + ys.length : Nat) : Int) = (q : Int) + (ys.length : Int) from by omega] at hset
  have hu3 := hu2.setCell r 1 (.int .i64 ((q : Int) + (ys.length : Int))) (.inl (by simp))
  generalize hw3 : w2.setCell ⟨r, 1, none⟩ (.int .i64 ((q : Int) + (ys.length : Int))) = w3
  rw [hw3] at hset hu3
  have HR3 := Lib.hid hset
  have HU : Hid (p + vz.length = q) := by show _ = _; rw [HQ.out]
  have e0 := hset.c0
  have e1 := hset.c1
  rw [show ((q + ys.length : Nat) : Int) = (q : Int) + (ys.length : Int) from by omega] at e1
  have hr3 := hset.row.lt
  have hsz3 := hu3.size
  have i0 : (0 : Int) ≤ (q : Int) + (ys.length : Int) := by omega
  have i1 : (0 : Int) ≤ (q : Int) := by omega
  have i2 : (q : Int) ≤ (q : Int) + (ys.length : Int) := by omega
  have i7 : (q : Int) + (ys.length : Int) ≤ (cap : Int) := by omega
  have i9 : IntKind.i64.wrap (q : Int) = (q : Int) := by rw [IntKind.wrap_i64]; omega
  have i10 : IntKind.i64.wrap (ys.length : Int) = (ys.length : Int) := by rw [IntKind.wrap_i64]; omega
  have i8 : ((q : Int) + (ys.length : Int)).toNat = q + ys.length := by omega
  have hsl3 := hset.sl
  clear hset hu2 HR2 hw3
  by_cases hcq : cap = q
  · obtain rfl : ys = [] := List.eq_nil_of_length_eq_zero (by omega)
    subst hcq
    simp only [List.length_nil, Int.natCast_zero, Int.add_zero] at e1
    clear i0 i1 i2 i7 i8 i10 hcap hqle i5 i6
    have j1 : (0 : Int) ≤ (cap : Int) := by omega
    have j2 : IntKind.i64.wrap 0 = 0 := by decide
    have HS : ∀ wz, Below w3.heap.size w3 wz → SlB wz (.slice (some ⟨g, off, none⟩) 0 0) [] := fun wz hz => Or.inr (Or.inr ⟨_, 0, rfl, rfl⟩)
    have HS := Lib.hid HS
    clear hsl3
    go_region_held3 (fun w' => w'.cell? ⟨r, 0, none⟩ = some (.slice (some ⟨g, off, none⟩) xs.length cap) ∧ w'.cell? ⟨r, 1, none⟩ = some (.int .i64 (cap : Int)))
      (first
        | go_keep
        | (go_split_ands
           exact ⟨(hb4.cell (p := ⟨r, 0, none⟩) (by simpa using hr3)).trans (by assumption), (hb4.cell (p := ⟨r, 1, none⟩) (by simpa using hr3)).trans (by assumption)⟩))
      (first
        | (with_reducible refine (clone_any _ [] _ ?_ ?_).mono ?_
           · exact HS.out _ (below_drewN (Below.refl _ _) _)
           · simp
           rintro e w4 ⟨⟨v4, rfl, hown4, -⟩, hb4⟩))
    go_wp2_with fail
    go_ret
    refine ⟨⟨_, rfl, owns_bound hown4 (by simpa using hsz3)⟩, ?_, ?_⟩
    · rw [HU.out]; exact HR3.out.below ((Below.refl _ _).drew.trans (hb4.mono (by simp))) (Nat.le_refl _)
    · exact hu3.trans (Upd.of_below ((Below.refl _ _).drew.trans (hb4.mono (by simp))) (Nat.le_refl _))
  · have hsl : SlB w3 (.slice (some ⟨g, off + q, none⟩) ys.length (cap - q)) ys := by
      have := hsl3.drop (p := q) (by omega) (m := ys.length) (by omega) (cap - q) (by omega)
      rwa [HYS.out] at this
    have HSL := Lib.hid hsl
    clear hsl hsl3
    have HS : ∀ wz, Below w3.heap.size w3 wz → SlB wz (.slice (some ⟨g, off + q, none⟩) ys.length (cap - q)) ys := fun wz hz => HSL.out.below hz rfl
    have HS := Lib.hid HS
    go_region_held3 (fun w' => w'.cell? ⟨r, 0, none⟩ = some (.slice (some ⟨g, off, none⟩) xs.length cap) ∧ w'.cell? ⟨r, 1, none⟩ = some (.int .i64 ((q : Int) + (ys.length : Int))))
      (first
        | go_keep
        | (go_split_ands
           exact ⟨(hb4.cell (p := ⟨r, 0, none⟩) (by simpa using hr3)).trans (by assumption), (hb4.cell (p := ⟨r, 1, none⟩) (by simpa using hr3)).trans (by assumption)⟩))
      (first
        | (with_reducible refine (clone_any _ ys _ ?_ ?_).mono ?_
           · exact HS.out _ (below_drewN (Below.refl _ _) _)
           · omega
           rintro e w4 ⟨⟨v4, rfl, hown4, -⟩, hb4⟩))
    go_wp2_with fail
    go_ret
    refine ⟨⟨_, rfl, owns_bound hown4 (by simpa using hsz3)⟩, ?_, ?_⟩
    · rw [HU.out]; exact HR3.out.below ((Below.refl _ _).drew.trans (hb4.mono (by simp))) (Nat.le_refl _)
    · exact hu3.trans (Upd.of_below ((Below.refl _ _).drew.trans (hb4.mono (by simp))) (Nat.le_refl _))

end Go.Proofs.YtncjffkpkmjgkaaGreatDoor.Sg

/-! SRf -/
namespace Go.Proofs.YtncjffkpkmjgkaaGreatDoor.Sg
open Go.RowKit Er

/-- The number of bytes, the lowest first. -/
def leV : List Nat → Nat
  | [] => 0
  | y :: l => y + 256 * leV l
theorem leV_snoc (l : List Nat) (y : Nat) : leV (l ++ [y]) = leV l + y * 2 ^ (8 * l.length) := by
  induction l with
  | nil => simp [leV]
  | cons z l ih =>
    simp only [List.cons_append, leV, ih, List.length_cons]
    rw [Nat.mul_add 8, Nat.pow_add, Nat.mul_add]
    simp only [Nat.mul_one]
    rw [show y * (2 ^ (8 * l.length) * 2 ^ 8) = 256 * (y * 2 ^ (8 * l.length)) from by rw [← Nat.mul_assoc]; omega]
    omega
theorem leV_lt (l : List Nat) (h : ∀ y ∈ l, y < 256) : leV l < 2 ^ (8 * l.length) := by
  induction l with
  | nil => simp [leV]
  | cons z l ih =>
    have h1 := h z (by simp)
    have h2 := ih (fun y hy => h y (by simp [hy]))
    simp only [leV, List.length_cons, Nat.mul_add, Nat.pow_add]
    omega
theorem leV_leB (n k : Nat) : leV (leB n k) = n % 2 ^ (8 * k) := by
  induction k with
  | zero => simp [leB, leV, Nat.mod_one]
  | succ k ih =>
    rw [leB_snoc, leV_snoc, ih, leB_len, Nat.mul_add 8, Nat.pow_add]
    rw [Nat.mod_mul, Nat.mul_comm (n / _ % _)]

theorem fixG (acc c k : Nat) (hacc : acc < 2 ^ (8 * k)) (h : acc + c * 2 ^ (8 * k) < 18446744073709551616) :
    bits .or .u64 (acc : Int) (IntKind.u64.wrap ((c : Int) * 2 ^ (8 * k))) = ((acc + c * 2 ^ (8 * k) : Nat) : Int) := by
  rw [show ((c : Int) * 2 ^ (8 * k)) = ((c * 2 ^ (8 * k) : Nat) : Int) from by rw [Int.natCast_mul, Int.natCast_pow]; rfl]
  rw [wraps_u64 _ (by omega) (by omega), or64 _ _ (by omega) (by omega), or_add _ _ _ hacc]

set_option maxRecDepth 100000 in
set_option maxHeartbeats 400000 in
theorem fixed_ok (ys : List Nat) (hy8 : ys.length ≤ 8) (hy0 : 0 < ys.length) (hyb : ∀ y ∈ ys, y < 256) (r p : Nat) (v : Value) (xs rest : List Nat) (w : World) (h : RdV w r v xs p) (hx : xs.drop p = ys ++ rest) :
    Calls Tryz.prog 144 #[.pointer (some ⟨r, 0, none⟩), .int .i64 ys.length] w fun e w' => e = .returned (.int .u64 (leV ys)) ∧ RdV w' r v xs (p + ys.length) ∧ Upd [r] w w' := by
  have hlen : p + ys.length ≤ xs.length := by
    have := congrArg List.length hx
    simp at this; omega
  have HR := Lib.hid h
  obtain ⟨g, off, cap, hv, hg, -⟩ := slB_cell h.sl (k := p) (by omega)
  subst hv
  have c0 := h.c0
  have c1 := h.c1
  have c2 := h.c2
  obtain ⟨a0, cap0, hcc, hcap⟩ := h.sl.shape
  cases hcc
  have hlt := h.lt
  have hys : (xs.drop p).take ys.length = ys := by rw [hx, List.take_left]
  have HX := Lib.hid hx
  have HYS := Lib.hid hys
  have i5 : ¬ ((xs.length - p : Nat) : Int) < (ys.length : Int) := by omega
  have i6 : ((xs.length - p : Nat) : Int) ≤ 1099511627776 := by omega
  clear h hx hys
  go_enter Tryz.func144, Tryz.ntmps144
  go_wp2_with fail
  refine (left_ok r p _ xs w HR.out).mono ?_
  rintro e w2 ⟨rfl, hb2⟩
  have hr2 := HR.out.below hb2 (Nat.le_refl _)
  have HR2 := Lib.hid hr2
  have e0 := hr2.c0
  have e1 := hr2.c1
  have e2 := hr2.c2
  have hu2 := Upd.of_below (M := [r]) hb2 (Nat.le_refl _)
  have hsl : SlB w2 (.slice (some ⟨g, off + p, none⟩) ys.length (cap - p)) ys := by
    have := hr2.sl.drop (p := p) (by omega) (m := ys.length) (by omega) (cap - p) (by omega)
    rwa [HYS.out] at this
  have HSL := Lib.hid hsl
  have hne2 := hr2.ne
  clear hr2 c0 c1 c2 hb2 hsl
  have i0 : (0 : Int) ≤ (p : Int) + (ys.length : Int) := by omega
  have i1 : (0 : Int) ≤ (p : Int) := by omega
  have i2 : (p : Int) ≤ (p : Int) + (ys.length : Int) := by omega
  have i7 : (p : Int) + (ys.length : Int) ≤ (cap : Int) := by omega
  have i9 : IntKind.i64.wrap ((p : Int) + (ys.length : Int)) = (p : Int) + (ys.length : Int) := by rw [IntKind.wrap_i64]; omega
  have i8 : ((p : Int) + (ys.length : Int)).toNat = p + ys.length := by omega
  have i10 : ¬ cap = p := by omega
  go_upto_region 7 with fail
  go_quiet (fail)
  go_wp2_with fail
  go_loopg [5, 48] ys.length (fun m q j wr => ∃ k : Nat, k + m = ys.length ∧ j = .int .i64 k ∧ q = .int .u64 (leV (ys.take k)) ∧ wr = w2.drewN nq)
  case atStart => exact ⟨0, by omega, rfl, rfl, rfl⟩
  case round =>
    obtain ⟨k, hk, rfl, rfl, rfl⟩ := hrel
    by_cases hlt : k < ys.length
    · obtain ⟨g1, off1, cap1, hv1, -, hc⟩ := slB_cell HSL.out hlt
      cases hv1
      have hc256 : ys[k] < 256 := hyb _ (List.getElem_mem hlt)
      have hacc := leV_lt (ys.take k) (fun y hy => hyb y (List.mem_of_mem_take hy))
      rw [show (ys.take k).length = k by simp; omega] at hacc
      have hnx : leV (ys.take (k + 1)) = leV (ys.take k) + ys[k] * 2 ^ (8 * k) := by
        rw [List.take_add_one, List.getElem?_eq_getElem hlt, Option.toList_some, leV_snoc, show (ys.take k).length = k by simp; omega]
      have hb64 := leV_lt (ys.take (k + 1)) (fun y hy => hyb y (List.mem_of_mem_take hy))
      rw [show (ys.take (k + 1)).length = k + 1 by simp; omega, hnx] at hb64
      have h64 : (2 : Nat) ^ (8 * (k + 1)) ≤ 2 ^ 64 := Nat.pow_le_pow_right (by omega) (by omega)
      have hG := fixG (leV (ys.take k)) ys[k] k hacc (by omega)
      rw [← hnx] at hG
      have HG := Lib.hid hG
      clear hG hnx hacc hb64 h64
      have i11 : (k : Int) < 8 := by omega
      obtain ⟨gj, rfl⟩ : ∃ x, gk = x + 1 := ⟨gk - 1, by omega⟩
      go_wp2_with fail
      go_roundg gj
      case measure => omega
      case rel => exact ⟨k + 1, by omega, by go_num, by rw [HG.out], rfl⟩
    · obtain rfl : k = ys.length := by omega
      have hrd := HR2.out.below (below_drewN (Below.refl _ _) nq) (Nat.le_refl _)
      have hf := hrd.row.frozen 1
      have HRD := Lib.hid (hrd.set (p + ys.length) hlen)
      clear hrd
      go_wp2_with fail
      go_ret
      rw [show ((p : Int) + (ys.length : Int)) = ((p + ys.length : Nat) : Int) from by omega]
      exact ⟨by rw [List.take_length]; rfl, HRD.out, (hu2.drewN _).setCell _ _ _ (.inl (by simp))⟩

end Go.Proofs.YtncjffkpkmjgkaaGreatDoor.Sg
