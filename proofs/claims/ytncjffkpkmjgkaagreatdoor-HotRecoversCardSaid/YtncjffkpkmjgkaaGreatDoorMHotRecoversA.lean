/- rec.Read of a batch's bytes that are torn. hot.Open of a disk on which the last segment's tail is torn. A log behind a crash: what was not synced of its last segment may be torn. Plain. Up to which batch a segment is synced. Plain. How far a log is synced for good; what its files have in all. Plain. hot.Append when the power may go. A log behind a crash at which a new segment was waiting. Plain. A log behind a crash: torn, and what was synced is there. Plain. A log that is cut while the power may go, behind a crash: plain. A log whose power may have gone, ahead of a crash; and what is there behind it. Plain. cordwoodlaw10.all, joined; Row's batches of at most thirty numbers; the segments' triples. hot.Open of a bad config; Log.Begin of a log that has a segment; Log.Flush, Log.Synced. disk.Arm, disk.Down; cordwoodlaw10.at; Flush, once more. Log.Synced of a log in order. Flush of a log when the power may go. -/
import Derived.Test.YtncjffkpkmjgkaaGreatDoorMg
import Derived.Test.YtncjffkpkmjgkaaGreatDoorMl
import Derived.Test.YtncjffkpkmjgkaaGreatDoorMq
import Derived.Test.YtncjffkpkmjgkaaGreatDoorMn
import Derived.Test.YtncjffkpkmjgkaaGreatDoorMi
import Derived.Test.YtncjffkpkmjgkaaGreatDoorMk
import Derived.Test.YtncjffkpkmjgkaaGreatDoorMe
import Derived.ChangeKeysEq

/-! Ta -/
namespace Go.Proofs.YtncjffkpkmjgkaaGreatDoor.Sg
open Go.RowKit Er Go.Maps

section
variable {S : List Nat} {E : Nat → Addr} {B : Nat}
set_option maxRecDepth 100000 in
set_option maxHeartbeats 1000000 in
theorem short_a (t : List Nat) (h8 : t.length < 8) : RdBad S E B t := by
  intro P F w v C hH h
  obtain ⟨a, cap, rfl, hcap⟩ := h.shape
  obtain ⟨n, hn⟩ : ∃ n, t.length = n := ⟨_, rfl⟩
  rw [hn] at h8 ⊢
  have hb1 : Below w.heap.size w (w.alloc (.cells #[.int .i64 0, .int .i64 0, .slice none 0 0] 38)) := (Below.refl _ _).alloc (Nat.le_refl _) _
  have hH1 := hH.below hb1 (Nat.le_refl _)
  have c0 : w.cell? ⟨10, 0, none⟩ = some (.iface 289 (.pointer (some (E 0)))) := (hH.use C.errs).at_ 0 (C.all 0 (by decide))
  have c1 : (w.alloc (.cells #[.int .i64 0, .int .i64 0, .slice none 0 0] 38)).cell? ⟨10, 0, none⟩ = some (.iface 289 (.pointer (some (E 0)))) := (hH1.use C.errs).at_ 0 (C.all 0 (by decide))
  have i1 : (n : Int) < 8 := by omega
  have H1 := Lib.hid hH1
  have H0 := Lib.hid hH
  have hrow0 : (w.alloc (.cells #[.int .i64 0, .int .i64 0, .slice none 0 0] 38)).rowIs w.heap.size 38 3 (btF 0 0 (.slice none 0 0)) :=
    World.rowIs_alloc w #[.int .i64 0, .int .i64 0, .slice none 0 0] _ _ (fun i hi => by
      have hi' : i < 3 := hi
      rcases (show i = 0 ∨ i = 1 ∨ i = 2 by omega) with rfl | rfl | rfl <;> rfl)
  have hg8 : 10 < w.heap.size := World.block_lt_of_cell? _ _ ((hH.use C.errs).at_ 0 (C.all 0 (by decide)))
  have hg9 : ¬ 10 = w.heap.size := by omega
  have e0 := hrow0.cell (i := 0) (by omega)
  have e1 := hrow0.cell (i := 1) (by omega)
  have e2 := hrow0.cell (i := 2) (by omega)
  have f0 := hrow0.frozen 0
  have f1 := hrow0.frozen 1
  have f2 := hrow0.frozen 2
  have HB1 : Hid (Below (w.heap.size + 1) (w.alloc (.cells #[.int .i64 0, .int .i64 0, .slice none 0 0] 38)) (w.alloc (.cells #[.int .i64 0, .int .i64 0, .slice none 0 0] 38))) := Below.refl _ _
  have hsz1 : w.heap.size < (w.alloc (.cells #[.int .i64 0, .int .i64 0, .slice none 0 0] 38)).heap.size := by simp
  clear hH hH1 hb1 h hcap hn
  go_enter Tryz.func110, Tryz.ntmps110
  go_wp2_with fail
  go_region_held3 (fun w' => w'.cell? ⟨10, 0, none⟩ = some (.iface 289 (.pointer (some (E 0)))))
    (first
      | go_keep
      | assumption)
    (fail)
  go_wp2_with fail
  have z0 : (w.alloc (.cells #[.int .i64 0, .int .i64 0, .slice none 0 0] 38)).drew.cell? ⟨w.heap.size, 0, none⟩ = some (.int .i64 0) := e0
  have z1 : (w.alloc (.cells #[.int .i64 0, .int .i64 0, .slice none 0 0] 38)).drew.cell? ⟨w.heap.size, 1, none⟩ = some (.int .i64 0) := e1
  have z2 : (w.alloc (.cells #[.int .i64 0, .int .i64 0, .slice none 0 0] 38)).drew.cell? ⟨w.heap.size, 2, none⟩ = some (.slice none 0 0) := e2
  exact bodyPost_ret (v := .tuple #[.agg #[.int .i64 0, .int .i64 0, .slice none 0 0], .int .i64 0, .iface 289 (.pointer (some (E 0)))]) (by simp [results, Tryz.results110, go_sem, z0, z1, z2]) rfl ⟨0, P, rfl, Sub.refl P, H1.out.drew⟩
set_option maxRecDepth 100000 in
set_option maxHeartbeats 1000000 in
theorem short_b (bd : List Nat) (hbl : bd.length ≤ 65536) (m : Nat) (hm : m < bd.length) : RdBad S E B (leB bd.length 4 ++ (leB (crcF 0 bd) 4 ++ bd.take m)) := by
  intro P F w v C hH h
  obtain ⟨xs, hxs⟩ : ∃ xs, leB bd.length 4 ++ (leB (crcF 0 bd) 4 ++ bd.take m) = xs := ⟨_, rfl⟩
  have hlen : xs.length = 8 + m := by rw [← hxs]; simp [leB_len]; omega
  have ht8 : (xs.drop 0).take 8 = leB bd.length 4 ++ leB (crcF 0 bd) 4 := by
    rw [← hxs, List.drop_zero, ← List.append_assoc]
    exact List.take_left' (by simp [leB_len])
  rw [hxs] at h
  obtain ⟨g, off, cap, hv, hg, -⟩ := slB_cell h (k := 0) (by omega)
  subst hv
  obtain ⟨a0, cap0, hcc, hcap⟩ := h.shape
  cases hcc
  have hs8 : SlB w (.slice (some ⟨g, off, none⟩) 8 cap) (leB bd.length 4 ++ leB (crcF 0 bd) 4) := by
    have := h.drop (p := 0) (by omega) (m := 8) (by omega) cap (by omega)
    rwa [ht8, Nat.add_zero] at this
  obtain ⟨n, hn⟩ : ∃ n, bd.length = n := ⟨_, rfl⟩
  obtain ⟨c, hc⟩ : ∃ c, crcF 0 bd = c := ⟨_, rfl⟩
  have hclt : c < 4294967296 := by rw [← hc]; exact crcF_lt 0 bd
  rw [hn, hc] at hs8
  rw [hn] at hbl hm
  have l4 : leV (leB n 4) = n := by rw [leV_leB]; omega
  have l4c : leV (leB c 4) = c := by rw [leV_leB]; omega
  have L4 := Lib.hid l4
  have L4C := Lib.hid l4c
  have HX0 : Hid ((leB n 4 ++ leB c 4).drop 0 = leB n 4 ++ leB c 4) := List.drop_zero
  have HX4 : Hid ((leB n 4 ++ leB c 4).drop 4 = leB c 4 ++ []) := by show _ = _; rw [List.append_nil]; exact drop_len _ _ _ (leB_len _ _)
  have HLN : Hid ((leB n 4 ++ leB c 4).length ≤ 1099511627776) := by show _ ≤ _; simp [leB_len]
  have HS8 := Lib.hid (hs8.below ((Below.refl _ _).alloc (Nat.le_refl _) (.cells #[.int .i64 0, .int .i64 0, .slice none 0 0] 38)) rfl)
  obtain ⟨q, hq⟩ : ∃ q, xs.length = q := ⟨_, rfl⟩
  rw [hq] at hlen hcap
  rw [hq]
  have i1 : ¬ (q : Int) < 8 := by omega
  have i2 : (8 : Int) ≤ (cap : Int) := by omega
  have i3 : ¬ cap = 0 := by omega
  have i4 : ¬ (65536 : Int) < (n : Int) := by omega
  have i5 : ((q : Int) - 8) < (n : Int) := by omega
  have H0 := Lib.hid hH
  clear h hs8 hn hc l4 l4c hxs ht8 hq hlen hm
  go_enter Tryz.func110, Tryz.ntmps110
  go_wp2_with fail
  refine (newreader_any _ (leB n 4 ++ leB c 4) _ HS8.out HLN.out).mono ?_
  rintro e w1 ⟨⟨r, v1, rfl, hr, hrd⟩, hb1⟩
  simp only [World.alloc_size'] at hr
  have hb1' : Below (w.heap.size + 1) (w.alloc (.cells #[.int .i64 0, .int .i64 0, .slice none 0 0] 38)) w1 := hb1.mono (by simp)
  clear hb1
  go_wp2_with fail
  refine (fixed_at 4 (leB n 4) (leB_len _ _) (by omega) (by omega) (leB_lt _ _) n L4.out r 0 v1 _ _ w1 hrd HX0.out).mono ?_
  rintro e w2 ⟨rfl, hrd2, hup2⟩
  have hb2 := hb1'.trans (hup2.to_below (B := w.heap.size + 1) (by have := hb1'.size; simpa using this) (fun b hb => by simp at hb; omega))
  clear hrd hup2 hb1'
  go_wp2_with fail
  refine (fixed_at 4 (leB c 4) (leB_len _ _) (by omega) (by omega) (leB_lt _ _) c L4C.out r _ v1 _ [] w2 hrd2 HX4.out).mono ?_
  rintro e w3 ⟨rfl, hrd3, hup3⟩
  have hb3 := hb2.trans (hup3.to_below (B := w.heap.size + 1) (by have := hb2.size; simpa using this) (fun b hb => by simp at hb; omega))
  have hH3 := H0.out.below (below_box hb3 (Nat.le_refl _)) (Nat.le_refl _)
  have c3 : w3.cell? ⟨10, 0, none⟩ = some (.iface 289 (.pointer (some (E 0)))) := (hH3.use C.errs).at_ 0 (C.all 0 (by decide))
  have hrow0 : (w.alloc (.cells #[.int .i64 0, .int .i64 0, .slice none 0 0] 38)).rowIs w.heap.size 38 3 (btF 0 0 (.slice none 0 0)) :=
    World.rowIs_alloc w #[.int .i64 0, .int .i64 0, .slice none 0 0] _ _ (fun i hi => by
      have hi' : i < 3 := hi
      rcases (show i = 0 ∨ i = 1 ∨ i = 2 by omega) with rfl | rfl | rfl <;> rfl)
  have hrow3 := hrow0.of_block (hb3.block w.heap.size (by omega))
  have hg8 : 10 < w.heap.size := World.block_lt_of_cell? _ _ ((hH.use C.errs).at_ 0 (C.all 0 (by decide)))
  have hg9 : ¬ 10 = w.heap.size := by omega
  have e0 := hrow3.cell (i := 0) (by omega)
  have e1 := hrow3.cell (i := 1) (by omega)
  have e2 := hrow3.cell (i := 2) (by omega)
  have f0 := hrow3.frozen 0
  have f1 := hrow3.frozen 1
  have f2 := hrow3.frozen 2
  have hrF := ((hrow3.set 0 (.int .i64 0)).set 1 (.int .i64 0)).set 2 (.slice none 0 0)
  have huF : Upd [w.heap.size] w3 (((w3.setCell ⟨w.heap.size, 0, none⟩ (.int .i64 0)).setCell ⟨w.heap.size, 1, none⟩ (.int .i64 0)).setCell ⟨w.heap.size, 2, none⟩ (.slice none 0 0)) :=
    (((Upd.refl _ _).setCell _ _ _ (.inl (by simp))).setCell _ _ _ (.inl (by simp))).setCell _ _ _ (.inl (by simp))
  have hbF : Below w.heap.size w (((w3.setCell ⟨w.heap.size, 0, none⟩ (.int .i64 0)).setCell ⟨w.heap.size, 1, none⟩ (.int .i64 0)).setCell ⟨w.heap.size, 2, none⟩ (.slice none 0 0)) := (below_box hb3 (Nat.le_refl _)).trans (huF.to_below (by have := hb3.size; simp at this; omega) (fun b hb => by simp at hb; omega))
  have hHF := H0.out.below hbF (Nat.le_refl _)
  have c8 : (((w3.setCell ⟨w.heap.size, 0, none⟩ (.int .i64 0)).setCell ⟨w.heap.size, 1, none⟩ (.int .i64 0)).setCell ⟨w.heap.size, 2, none⟩ (.slice none 0 0)).cell? ⟨10, 0, none⟩ = some (.iface 289 (.pointer (some (E 0)))) := (hHF.use C.errs).at_ 0 (C.all 0 (by decide))
  have HHF := Lib.hid hHF
  have HRF := Lib.hid hrF
  clear hrF huF hHF hbF
  have HB3 := Lib.hid hb3
  clear hrd2 hrd3 hup3 hb2 hb3 hH3 hrow0 hH
  go_wp2_with fail
  go_region_held3 (fun w' => w'.cell? ⟨10, 0, none⟩ = some (.iface 289 (.pointer (some (E 0)))))
    (first
      | go_keep
      | exact c3
      | exact c8)
    (fail)
  go_wp2_with fail
  have g0 : (((w3.setCell ⟨w.heap.size, 0, none⟩ (.int .i64 0)).setCell ⟨w.heap.size, 1, none⟩ (.int .i64 0)).setCell ⟨w.heap.size, 2, none⟩ (.slice none 0 0)).drew.cell? ⟨w.heap.size, 0, none⟩ = some (.int .i64 0) := HRF.out.cell (i := 0) (by omega)
  have g1 : (((w3.setCell ⟨w.heap.size, 0, none⟩ (.int .i64 0)).setCell ⟨w.heap.size, 1, none⟩ (.int .i64 0)).setCell ⟨w.heap.size, 2, none⟩ (.slice none 0 0)).drew.cell? ⟨w.heap.size, 1, none⟩ = some (.int .i64 0) := HRF.out.cell (i := 1) (by omega)
  have g2 : (((w3.setCell ⟨w.heap.size, 0, none⟩ (.int .i64 0)).setCell ⟨w.heap.size, 1, none⟩ (.int .i64 0)).setCell ⟨w.heap.size, 2, none⟩ (.slice none 0 0)).drew.cell? ⟨w.heap.size, 2, none⟩ = some (.slice none 0 0) := HRF.out.cell (i := 2) (by omega)
  exact bodyPost_ret (v := .tuple #[.agg #[.int .i64 0, .int .i64 0, .slice none 0 0], .int .i64 0, .iface 289 (.pointer (some (E 0)))]) (by simp [results, Tryz.results110, go_sem, g0, g1, g2]) rfl ⟨0, P, rfl, Sub.refl P, HHF.out.drew⟩
/-- A batch's bytes that are torn read as no batch. -/
theorem torn (x : Bt) (hok : BtOk x) (m : Nat) (hm : m < (batB x).length) : RdBad S E B ((batB x).take m) := by
  by_cases h8 : m < 8
  · exact short_a _ (by rw [List.length_take]; omega)
  · have e : (batB x).take m = leB (bodyB x).length 4 ++ (leB (crcF 0 (bodyB x)) 4 ++ (bodyB x).take (m - 8)) := by
      have hl : (leB (bodyB x).length 4 ++ leB (crcF 0 (bodyB x)) 4).length = 8 := by simp [leB_len]
      rw [show batB x = (leB (bodyB x).length 4 ++ leB (crcF 0 (bodyB x)) 4) ++ bodyB x from rfl, List.take_append, List.take_of_length_le (by omega), hl, List.append_assoc]
    rw [e]
    exact short_b _ (by have := bodyB_len x hok; omega) _ (by have := batB_len x; omega)

/-- A file of batches, cut anywhere: whole batches, and what reads as no batch. -/
theorem flat_cut : ∀ (l : List Bt) (p : Nat), (∀ x, x ∈ l → BtOk x ∧ BtBy x) → p ≤ sizes l → ∃ k t, k ≤ l.length ∧ (flatB l).take p = flatB (l.take k) ++ t ∧ (t = [] ∨ RdBad S E B t) ∧ sizes (l.take k) ≤ p ∧ (∀ j, j ≤ l.length → sizes (l.take j) ≤ p → j ≤ k)
  | [], p, _, _ => ⟨0, [], by simp, by simp [flatB], .inl rfl, by simp [sizes], fun j hj _ => by simpa using hj⟩
  | x :: l, p, hok, hp => by
    have e : flatB (x :: l) = batB x ++ flatB l := rfl
    have hz : sizes (x :: l) = szB x + sizes l := by simp [sizes]
    by_cases h : p < szB x
    · refine ⟨0, (batB x).take p, by simp, ?_, .inr (torn x (hok x List.mem_cons_self).1 p h), by simp [sizes], fun j hj hjp => ?_⟩
      · rw [e, List.take_append_of_le_length (by unfold szB at h; omega)]; rfl
      · cases j with
        | zero => omega
        | succ j =>
          have h2 : sizes ((x :: l).take (j + 1)) = szB x + sizes (l.take j) := by simp [sizes]
          omega
    · obtain ⟨k, t, h1, h2, h3, h4, h5⟩ := flat_cut l (p - szB x) (fun y hy => hok y (List.mem_cons_of_mem _ hy)) (by omega)
      refine ⟨k + 1, t, by simpa using h1, ?_, h3, ?_, fun j hj hjp => ?_⟩
      · rw [e, List.take_append, List.take_of_length_le (by unfold szB at h; omega)]
        show _ = (batB x ++ flatB (l.take k)) ++ t
        rw [List.append_assoc, ← h2]
        rfl
      · have h6 : sizes ((x :: l).take (k + 1)) = szB x + sizes (l.take k) := by simp [sizes]
        omega
      · cases j with
        | zero => omega
        | succ j =>
          have h6 : sizes ((x :: l).take (j + 1)) = szB x + sizes (l.take j) := by simp [sizes]
          have := h5 j (by simpa using hj) (by omega)
          omega
end
end Go.Proofs.YtncjffkpkmjgkaaGreatDoor.Sg

/-! Yd -/
namespace Go.Proofs.YtncjffkpkmjgkaaGreatDoor.Sg
open Go.RowKit Er Go.Maps

/-- A disk with a file cut. -/
def Dk.trim (D : Dk) (nm : Nam) (m : Nat) : Dk := match D.look nm with | none => D | some f => D.withF { f with b := f.b.take m, s := m } D.calls
theorem trim_eq {D : Dk} {nm : Nam} {f : Fl} (h : D.look nm = some f) (m : Nat) : D.trim nm m = D.withF { f with b := f.b.take m, s := m } D.calls := by unfold Dk.trim; rw [h]
theorem trim_look {D : Dk} (hI : DkI D) {nm : Nam} {f : Fl} (h : D.look nm = some f) (m : Nat) (s' : Nam) : (D.trim nm m).look s' = if s' = nm then some { f with b := f.b.take m, s := m } else D.look s' := by
  rw [trim_eq h]
  exact withF_look hI h { f with b := f.b.take m, s := m } rfl _ _
theorem trim_I {D : Dk} (hI : DkI D) {nm : Nam} {f : Fl} (h : D.look nm = some f) (m : Nat) : DkI (D.trim nm m) := by rw [trim_eq h]; exact withF_I hI _ _
theorem trim_used {D : Dk} (hI : DkI D) {nm : Nam} {f : Fl} (h : D.look nm = some f) (m : Nat) (hm : m ≤ f.b.length) : (D.trim nm m).used + f.b.length = D.used + m := by
  have := withF_used hI h { f with b := f.b.take m, s := m } rfl D.calls
  rw [trim_eq h]
  simp only [List.length_take, Nat.min_eq_left hm] at this
  exact this
theorem trim_same {D : Dk} {nm : Nam} {f : Fl} (h : D.look nm = some f) (m : Nat) : (D.trim nm m).room = D.room ∧ (D.trim nm m).nm = D.nm ∧ (D.trim nm m).kp = D.kp ∧ (D.trim nm m).ch = D.ch ∧ (D.trim nm m).n = D.n := by
  rw [trim_eq h]; exact ⟨rfl, rfl, rfl, rfl, rfl⟩

/-- The last segment's file: its batches, and what is torn. -/
def Torn (S : List Nat) (E : Nat → Addr) (B : Nat) (D : Dk) (nm : Nam) (m : Nat) (t : List Nat) (L : List (Nat × Sg)) : Prop :=
  ∃ K sl Gl, L = K ++ [(sl, Gl)] ∧ Gl.nm = nm ∧ sizes Gl.l = m ∧ ∃ f, D.look nm = some f ∧ f.b = flatB Gl.l ++ t ∧ (t = [] ∨ RdBad S E B t)
theorem Torn.turn {S : List Nat} {E : Nat → Addr} {B : Nat} {D D' : Dk} {nm : Nam} {m : Nat} {t : List Nat} {L Ln : List (Nat × Sg)} (h : Torn S E B D nm m t L) {k n : Nat} {x : Nat × Sg} (hd : L.drop k = x :: L.drop (k + 1)) (_ : Ln.length = k) (hl : D'.look nm = D.look nm) (_ : L.length = n) :
    Torn S E B D' nm m t (Ln ++ x :: L.drop (k + 1)) := by
  obtain ⟨K, sl, Gl, e, e1, e2, e3⟩ := h
  rw [← hd]
  refine ⟨Ln ++ K.drop k, sl, Gl, ?_, e1, e2, by rw [hl]; exact e3⟩
  rw [e, List.drop_append_of_le_length, List.append_assoc]
  have h1 := congrArg List.length hd
  rw [e] at h1
  simp at h1
  omega

section
variable {S : List Nat} {E : Nat → Addr} {B : Nat} {P : Pm} {d seg every : Nat} {D : Dk} {L0 : List (Nat × Sg)} {Ad F : Mm} {w : World} {b0 : Int} {l : List Bt}

/-- What seg.Open makes of a segment of such a log. -/
theorem hop_torn {D8 : Dk} (C : Ctx S E B P) (hD : DkM P d D8 Ad) (hI : DkI D8) (hu : D8.used ≤ D8.room) (nm : Nam) (m : Nat) (t : List Nat) (Ln L2 : List (Nat × Sg)) (s0 : Nat) (G : Sg) (hO : HotOn (D8.trim nm m) ⟨d, seg, every, Ln ++ (s0, G) :: L2⟩ b0 l) (hT : Torn S E B D8 nm m t (Ln ++ (s0, G) :: L2)) (hH : Hp w P (Ad ++ F)) :
    Calls Tryz.prog 16 #[ptr d, .int .i64 G.base, .int .i64 every] w fun e w' => ∃ s P' As A' D' cut, e = .returned (.tuple #[ptr s, .int .i64 cut, .nilIface]) ∧ Sub P P' ∧ SgM s G.syn As ∧ DkM P' d D' A' ∧ DkI D' ∧ D'.used ≤ D'.room ∧ D'.room = D8.room ∧ D'.n = D8.n ∧
      (L2 ≠ [] → HotOn (D'.trim nm m) ⟨d, seg, every, Ln ++ (s0, G.syn) :: L2⟩ b0 l ∧ D'.used = D8.used ∧ D'.look nm = D8.look nm) ∧ (L2 = [] → HotOn D' ⟨d, seg, every, Ln ++ (s0, G.syn) :: L2⟩ b0 l ∧ D'.used + t.length = D8.used) ∧ Hp w' P' (As ++ (A' ++ F)) := by
  have e1 := hO.e1
  have e2 := hO.e2
  dsimp only at e1 e2
  have hLe : Hl.L ⟨d, seg, every, Ln ++ (s0, G) :: L2⟩ = Ln ++ (s0, G) :: L2 := rfl
  obtain ⟨hSG, g2, g3, g4⟩ := hO.sg (s0, G) (by simp)
  dsimp only at hSG g2 g3 g4
  have hch := hO.chain hLe
  have hGeq : G = ⟨d, segNm G.base, G.base, every, G.l, G.kept⟩ := by rw [← g4, ← g2, ← g3]
  obtain ⟨K, sl, Gl, hK, k1, k2, f, f1, f2, f3⟩ := hT
  have hml : m ≤ f.b.length := by rw [f2, List.length_append, flatB_len, k2]; omega
  obtain ⟨t1, t2, t3, t4, t5⟩ := trim_same f1 m
  have hroom : D8.room ≤ 4194304 := by rw [← t1]; exact hO.room
  have hGsyn : (⟨d, segNm G.base, G.base, every, G.l, sizes G.l⟩ : Sg) = G.syn := by
    show _ = { G with kept := sizes G.l }
    rw [← g4, ← g2, ← g3]
  have hkk : Lk b0 ((Ln ++ (s0, G.syn) :: L2).map (·.2)) := by
    have h1 := hO.lk
    rw [hLe, List.map_append, List.map_cons] at h1
    rw [List.map_append, List.map_cons]
    refine Lk.join h1.left (fun _ => h1.full (by simp)) ?_
    have h2 := h1.app
    exact ⟨h2.1, fun hne => ⟨(h2.2.1 hne).1, rfl⟩, h2.2.2⟩
  have hfl : ((Ln ++ (s0, G.syn) :: L2).map (·.2.l)).flatten = l := by
    have := hO.fl
    rw [← this]
    simp [Sg.syn]
  by_cases h2 : L2 = []
  · -- the last one
    have hGl : G = Gl := by
      rw [h2] at hK
      have := (List.append_inj' hK rfl).2
      simp at this
      exact this.2
    have hnm : G.nm = nm := by rw [hGl]; exact k1
    rw [← hGl] at k2 f2
    have hlk : D8.look (segNm G.base) = some f := by rw [← g4, hnm]; exact f1
    refine (sopen_ok C hD hI G.base hSG.base every e1 e2 f hlk hroom hu G.l t f2 (fun x hx => ⟨hSG.ok x hx, hSG.by_ x hx⟩) f3 hH).mono ?_
    rintro e w' ⟨s, P', As, A', rfl, hs, hG, hD', hH'⟩
    rw [folN_chain G.l G.base 0 hch] at hG hD' ⊢
    rw [hGsyn] at hG
    obtain ⟨o1, o2, o3, o4⟩ := opened_ok hI hlk (sizes G.l) (by rw [f2, List.length_append, flatB_len]; omega)
    have hfb : f.b.length = sizes G.l + t.length := by rw [f2, List.length_append, flatB_len]
    have hSo : SegOn (D8.opened f (sizes G.l)) G.syn := by
      refine ⟨o1, fun x hx => hSG.ok x hx, fun x hx => hSG.by_ x hx, hSG.base, hSG.nm, ⟨{ f with b := f.b.take (sizes G.l), s := sizes G.l }, ?_, ?_, rfl⟩, by rw [o4.room]; exact hroom, by rw [o4.room]; omega⟩
      · show Dk.look _ G.nm = _
        rw [o2, if_pos g4]
      · show f.b.take (sizes G.l) = flatB G.l
        rw [f2, ← flatB_len]
        exact List.take_left
    have htu := trim_used hI f1 m hml
    have hsm : DkSame (D8.trim nm m) (D8.opened f (sizes G.l)) := ⟨by rw [t1]; exact o4.room, by rw [t2]; exact o4.nml, by rw [t5]; exact o4.n, by rw [t4]; exact o4.ch, by rw [t2]; exact o4.nmq, fun h => o4.kpq (by rw [t3, t2] at h; exact h)⟩
    have hO2 := hO.turn hLe G.syn rfl rfl rfl rfl hSo hsm hSo.used (fun s' hs' => by
      rw [o2, trim_look hI f1, if_neg (by rw [← g4]; exact hs'), if_neg (by rw [← hnm]; exact hs')]) l hfl hO.ch hkk (by have := hO.sz; omega)
    refine ⟨s, P', As, A', _, _, rfl, hs, hG, hD', o1, hSo.used, o4.room, o4.n, fun h => absurd h2 h, fun _ => ⟨hO2, by omega⟩, hH'⟩
  · have hin : (sl, Gl) ∈ L2 := by
      rcases snoc_cases L2 with h | ⟨L2', x, h⟩
      · exact absurd h h2
      · rw [h] at hK ⊢
        have : Ln ++ (s0, G) :: (L2' ++ [x]) = (Ln ++ (s0, G) :: L2') ++ [x] := by simp
        rw [this] at hK
        have := (List.append_inj' hK rfl).2
        simp at this
        rw [this]; simp
    have hne : nm ≠ G.nm := by
      have := hO.names hLe (sl, Gl) (.inr hin)
      rw [← k1]; exact this
    have hlook : (D8.trim nm m).look G.nm = D8.look G.nm := by rw [trim_look hI f1, if_neg (fun e => hne e.symm)]
    have hS8 : SegOn D8 G := hSG.keep hI hroom hu hlook.symm
    have hS8' : SegOn D8 ⟨d, segNm G.base, G.base, every, G.l, G.kept⟩ := by rw [← hGeq]; exact hS8
    refine (sopen_on C hD G.base every e1 e2 G.l G.kept hS8' hch hH).mono ?_
    rintro e w' ⟨s, P', As, A', D', rfl, hs, hG, hD', hO', hsm, hu', hl', hH'⟩
    rw [hGsyn] at hG hO'
    have hl1 : D'.look nm = some f := by rw [hl' nm (by rw [← g4]; exact hne)]; exact f1
    obtain ⟨u1, u2, u3, u4, u5⟩ := trim_same hl1 m
    have htu := trim_used hI f1 m hml
    have htu' := trim_used hO'.I hl1 m hml
    have hru : D'.used ≤ D'.room := by rw [hu', hsm.room]; exact hu
    have htr : (D'.trim nm m).used ≤ (D'.trim nm m).room := by rw [u1]; omega
    have hSo : SegOn (D'.trim nm m) G.syn := hO'.keep (trim_I hO'.I hl1 m) (by rw [u1, hsm.room]; exact hroom) htr (by show (D'.trim nm m).look G.nm = D'.look G.nm; rw [trim_look hO'.I hl1, if_neg (fun e => hne e.symm)])
    have hsm2 : DkSame (D8.trim nm m) (D'.trim nm m) := ⟨by rw [u1, t1]; exact hsm.room, by rw [u2, t2]; exact hsm.nml, by rw [u5, t5]; exact hsm.n, by rw [u4, t4]; exact hsm.ch, by rw [u2, t2]; exact hsm.nmq, fun h => by rw [u3, u2]; exact hsm.kpq (by rw [t3, t2] at h; exact h)⟩
    have hO2 := hO.turn hLe G.syn rfl rfl rfl rfl hSo hsm2 htr (fun s' hs' => by
      rw [trim_look hO'.I hl1, trim_look hI f1]
      split
      · rfl
      · exact hl' s' (by rw [← g4]; exact hs')) l hfl hO.ch hkk (by have := hO.sz; omega)
    exact ⟨s, P', As, A', D', _, rfl, hs, hG, hD', hO'.I, hru, hsm.room, hsm.n, fun _ => ⟨hO2, hu', hl' nm (by rw [← g4]; exact hne)⟩, fun h => absurd h h2, hH'⟩

/-- What holds at the head of Open's loop. -/
def HoRelT (P : Pm) (Z F : Mm) (d seg every h n : Nat) (L0 : List (Nat × Sg)) (D : Dk) (nm : Nam) (m : Nat) (t : List Nat) (b0 : Int) (l : List Bt) (mm : Nat) (vb vi : Value) (wr : World) : Prop :=
  ∃ (k : Nat) (Ln : List (Nat × Sg)) (P' : Pm) (Ah Ad : Mm) (D' : Dk), k + mm = n ∧ vi = .int .i64 k ∧ vb = .slice none 0 0 ∧ Sub P P' ∧ HlM h ⟨d, seg, every, Ln⟩ Ah ∧ DkM P' d D' Ad ∧ DkI D' ∧ D'.used ≤ D'.room ∧ D'.room = D.room ∧ D'.n = D.n ∧
    (k < n → HotOn (D'.trim nm m) ⟨d, seg, every, Ln ++ L0.drop k⟩ b0 l ∧ D'.used = D.used ∧ D'.look nm = D.look nm) ∧ (k = n → HotOn D' ⟨d, seg, every, Ln⟩ b0 l ∧ D'.used + t.length = D.used) ∧
    Ln.length = k ∧ Ln.map (·.2) = (L0.take k).map (·.2.syn) ∧ Hp wr P' (Ah ++ (Ad ++ (Z ++ F)))
theorem ho_stepT {P7 P10 : Pm} {Z F A14 As0 As Ad10 : Mm} {d seg every h n s s0 k gj : Nat} {L0 Ln : List (Nat × Sg)} {D D8 D10 : Dk} {nm : Nam} {m : Nat} {t : List Nat} {G : Sg} {b0 : Int} {l : List Bt} {v vi : Value} {wz : World} (hk : k + (gj + 1) = n) (hn : L0.length = n) (hs : Sub P7 P10) (hLn : Ln.length = k)
    (hr : RowM 41 1 v (k + 1) (ptrsL Ln ++ (#[ptr s] : Array Value).toList) A14) (hS : SgsM Ln As0) (hG : SgM s G.syn As) (hD : DkM P10 d D10 Ad10) (hI : DkI D10)
    (hOa : L0.drop (k + 1) ≠ [] → HotOn (D10.trim nm m) ⟨d, seg, every, Ln ++ (s0, G.syn) :: L0.drop (k + 1)⟩ b0 l ∧ D10.used = D8.used ∧ D10.look nm = D8.look nm) (hOb : L0.drop (k + 1) = [] → HotOn D10 ⟨d, seg, every, Ln ++ (s0, G.syn) :: L0.drop (k + 1)⟩ b0 l ∧ D10.used + t.length = D8.used)
    (h8 : D8.used = D.used ∧ D8.room = D.room ∧ D8.n = D.n ∧ D8.look nm = D.look nm)
    (hm : Ln.map (·.2) = (L0.take k).map (·.2.syn)) (hm1 : (L0.take (k + 1)).map (·.2.syn) = (L0.take k).map (·.2.syn) ++ [G.syn]) (hx : D10.used ≤ D10.room ∧ D10.room = D.room ∧ D10.n = D.n) (hvi : vi = .int .i64 ((k + 1 : Nat) : Int))
    (hH : Hp wz P10 ((h, .cells #[ptr d, .int .i64 seg, .int .i64 every, v] 119 (0, 0)) :: (A14 ++ (As0 ++ (As ++ (Ad10 ++ (Z ++ F))))))) :
    HoRelT P7 Z F d seg every h n L0 D nm m t b0 l gj (.slice none 0 0) vi wz := by
  have hdl : (L0.drop (k + 1)).length = n - (k + 1) := by rw [List.length_drop, hn]
  refine ⟨k + 1, Ln ++ [(s, G.syn)], P10, _, Ad10, D10, by omega, hvi, rfl, hs, HlM.pushed (h := h) (s := s) (H := ⟨d, seg, every, Ln⟩) hLn.symm hr hS hG, hD, hI, hx.1, hx.2.1, hx.2.2, fun hlt => ?_, fun he => ?_, by rw [List.length_append, hLn]; rfl, ?_, ?_⟩
  · obtain ⟨a1, a2, a3⟩ := hOa (fun e => by rw [e] at hdl; simp at hdl; omega)
    exact ⟨a1.congr rfl rfl (by simp), a2.trans h8.1, a3.trans h8.2.2.2⟩
  · have he2 : L0.drop (k + 1) = [] := List.eq_nil_of_length_eq_zero (by omega)
    obtain ⟨a1, a2⟩ := hOb he2
    exact ⟨a1.congr rfl rfl (by rw [he2]; simp), by rw [a2]; exact h8.1⟩
  · rw [List.map_append, hm, hm1]; rfl
  · simpa [hlCells, List.append_assoc] using hH

set_option maxRecDepth 100000 in
set_option maxHeartbeats 4000000 in
theorem hopen_torn (C : Ctx S E B P) (hD : DkM P d D Ad) (hI : DkI D) (hus : D.used ≤ D.room) (nm : Nam) (m : Nat) (t : List Nat) (hO : HotOn (D.trim nm m) ⟨d, seg, every, L0⟩ b0 l) (hlast : Torn S E B D nm m t L0) (hs1 : 1 ≤ seg) (hs2 : seg ≤ 1048576) (hH : Hp w P (Ad ++ F)) :
    Calls Tryz.prog 31 #[ptr d, .agg #[.int .i64 seg, .int .i64 every]] w fun e w' => ∃ h P' Ah Ad' D' Ln, e = .returned (.tuple #[ptr h, .nilIface]) ∧ Sub P P' ∧ HlM h ⟨d, seg, every, Ln⟩ Ah ∧ DkM P' d D' Ad' ∧ HotOn D' ⟨d, seg, every, Ln⟩ b0 l ∧
      Ln.map (·.2) = L0.map (·.2.syn) ∧ D'.used + t.length = D.used ∧ D'.room = D.room ∧ D'.n = D.n ∧ Hp w' P' (Ah ++ (Ad' ++ F)) := by
  have e1 := hO.e1
  have e2 := hO.e2
  dsimp only at e1 e2
  have hsm := hO.small.2
  dsimp only at hsm
  have htn : (D.trim nm m).nm = D.nm := by
    obtain ⟨K, sl, Gl, -, -, -, f, f1, -⟩ := hlast
    exact (trim_same f1 m).2.1
  have hnm : D.nm.length = L0.length := by have := hO.nml; rw [htn] at this; exact this
  have hL0n : L0 ≠ [] := by obtain ⟨K, sl, Gl, e, -⟩ := hlast; rw [e]; simp
  have hsorted := hO.sorted
  rw [htn] at hsorted
  dsimp only at hsorted
  obtain ⟨n, hn⟩ : ∃ n, L0.length = n := ⟨_, rfl⟩
  have hH4 : Hp ((((w.alloc (.cells #[ptr d] 25)).alloc (.cells #[.int .i64 seg, .int .i64 every] 65)).alloc (.cells #[.pointer none] 53)).alloc (.cells #[.nilIface] 27)) P (Ad ++ (zBl w.heap.size d seg every ++ F)) := by
    have h4 := (((hH.alloc (.cells #[ptr d] 25)).alloc (.cells #[.int .i64 seg, .int .i64 every] 65)).alloc (.cells #[.pointer none] 53)).alloc (.cells #[.nilIface] 27)
    simp only [World.alloc_size'] at h4
    exact Hp.mid (A := zBl w.heap.size d seg every) (B := Ad) (C := F) h4
  obtain ⟨w4, hw4⟩ : ∃ w4, (((w.alloc (.cells #[ptr d] 25)).alloc (.cells #[.int .i64 seg, .int .i64 every] 65)).alloc (.cells #[.pointer none] 53)).alloc (.cells #[.nilIface] 27) = w4 := ⟨_, rfl⟩
  rw [hw4] at hH4
  obtain ⟨bx, hbx⟩ : ∃ bx, bx = w.heap.size := ⟨_, rfl⟩
  rw [← hbx] at hH4
  have HZ : Hid (∀ w' P' M, Hp w' P' M → (∀ y, y ∈ zBl bx d seg every → y ∈ M) → w'.cell? ⟨bx, 0, none⟩ = some (ptr d) ∧ w'.cell? ⟨bx + 1, 0, none⟩ = some (.int .i64 seg) ∧ w'.cell? ⟨bx + 1, 1, none⟩ = some (.int .i64 every)) := fun w' P' M hx hm =>
    ⟨hx.cell (hm (bx, .cells #[ptr d] 25 (0, 0)) (by simp [zBl])) rfl, hx.cell (hm (bx + 1, .cells #[.int .i64 seg, .int .i64 every] 65 (0, 0)) (by simp [zBl])) rfl, hx.cell (hm (bx + 1, .cells #[.int .i64 seg, .int .i64 every] 65 (0, 0)) (by simp [zBl])) rfl⟩
  have H4 := Lib.hid hH4
  have HD := Lib.hid hD
  have HO := Lib.hid hO
  have HLA := Lib.hid hlast
  have HI0 := Lib.hid hI
  have hn0 : 0 < n := by rw [← hn]; exact List.length_pos_iff.2 hL0n
  have HSO := Lib.hid hsorted
  have HN := Lib.hid hn
  have HW4 := Lib.hid hw4
  have HBX := Lib.hid hbx
  have j1 : ¬ (seg : Int) < 1 := by omega
  have j2 : ¬ (1048576 : Int) < (seg : Int) := by omega
  rw [hn] at hnm hsm
  clear hH hH4 hD hO hsorted hn hw4 hbx hlast hI hL0n
  refine (callsIn_wide (n := 6)).1 ?_
  refine callsIn_of_wp_marks Tryz.func31 rfl trivial ?_ rfl
  simp only [Tryz.ntmps31, List.size_toArray, List.length_cons, List.length_nil, Nat.reduceAdd, Nat.reduceSub, Array.replicate_succ, Array.replicate_zero, List.push_toArray, List.append_toArray, List.nil_append, List.cons_append]
  refine wpIn_wide.2 ?_
  go_wp2_with fail
  rw [HW4.out, ← HBX.out]
  obtain ⟨z0, z1, z2⟩ := HZ.out _ _ _ H4.out memZ2
  go_wp2_with fail
  refine (ixnew_ok every e1 e2).mono ?_
  rintro e w5 ⟨rfl, rfl⟩
  have hH5 := (H4.out.alloc (.cells (ixCells every) 170)).tail
  obtain ⟨z0, z1, z2⟩ := HZ.out _ _ _ hH5 memZ2
  obtain ⟨w5, hw5⟩ : ∃ w5, w4.alloc (.cells (ixCells every) 170) = w5 := ⟨_, rfl⟩
  rw [hw5] at hH5 z0 z1 z2 ⊢
  have hM6 : HlM w5.heap.size ⟨d, seg, every, []⟩ [(w5.heap.size, .cells #[ptr d, .int .i64 seg, .int .i64 every, .slice none 0 0] 119 (0, 0))] := ⟨.slice none 0 0, [], [], rfl, rowM_nil _ _, rfl⟩
  have hH6 := hH5.alloc (.cells #[ptr d, .int .i64 seg, .int .i64 every, .slice none 0 0] 119)
  obtain ⟨h, hh⟩ : ∃ h, h = w5.heap.size := ⟨_, rfl⟩
  rw [← hh] at hM6 hH6
  have hH6' : Hp (w5.alloc (.cells #[ptr d, .int .i64 seg, .int .i64 every, .slice none 0 0] 119)) P ([(h, .cells #[ptr d, .int .i64 seg, .int .i64 every, .slice none 0 0] 119 (0, 0))] ++ (Ad ++ (zBl bx d seg every ++ F))) := hH6
  obtain ⟨y0, y1, y2⟩ := HZ.out _ _ _ hH6' memZ3
  obtain ⟨w6, hw6⟩ : ∃ w6, w5.alloc (.cells #[ptr d, .int .i64 seg, .int .i64 every, .slice none 0 0] 119) = w6 := ⟨_, rfl⟩
  rw [hw6] at hH6'
  have H6 := Lib.hid hH6'
  have HM6 := Lib.hid hM6
  have HH := Lib.hid hh
  have HW6 := Lib.hid hw6
  clear hH5 hw5 hH6 hM6 hh hH6' hw6
  go_wp2_with fail
  rw [HW6.out, ← HH.out]
  clear y0 y1 y2
  refine (dlist_ok HD.out (by rw [hnm]; omega) (Hp.mid H6.out)).mono ?_
  rintro e w7 ⟨v7, P7, rfl, hs7, hp7, hH7⟩
  rw [HSO.out] at hp7
  obtain ⟨va, vc, hva, hvc⟩ := (hH7.use hp7).shape
  rw [List.length_map, HN.out] at hva hvc
  subst hva
  have H7 := Lib.hid (Hp.mid hH7)
  have HP7 := Lib.hid hp7
  have HS7 := Lib.hid hs7
  clear hH7 hp7 hs7
  have HSTART : Hid (HoRelT P7 (zBl bx d seg every) F d seg every h n L0 D nm m t b0 l n (.slice none 0 0) (.int .i64 ((0 : Nat) : Int)) w7) :=
    ⟨0, [], P7, _, Ad, D, by omega, rfl, rfl, Sub.refl _, HM6.out, HD.out.sub HS7.out, HI0.out, hus, rfl, rfl, fun _ => ⟨HO.out, rfl, rfl⟩, fun h => absurd h (by omega), rfl, rfl, H7.out⟩
  go_wp2_with fail
  go_loopg [9, 46] n (fun mm vb vi wr => HoRelT P7 (zBl bx d seg every) F d seg every h n L0 D nm m t b0 l mm vb vi wr)
  case atStart => exact HSTART.out
  case round =>
    obtain ⟨k, Ln, P8, Ah, Ad8, D8, hk, rfl, rfl, hs8, hM8, hD8, hI8, hu8, hr8, hn8, hOa, hOb, hLn, hmap, hH8⟩ := hrel
    by_cases hlt : k < n
    · obtain ⟨gj, rfl⟩ : ∃ x, gk = x + 1 := ⟨gk - 1, by omega⟩
      have hk0 : k < L0.length := by rw [HN.out]; exact hlt
      have hnk : k < (L0.map (·.2.nm)).length := by rw [List.length_map]; exact hk0
      obtain ⟨g, cc, hvv, hck⟩ := ((hH8.use (HP7.out.sub hs8))).at_ hnk
      rw [List.length_map, HN.out] at hvv
      simp only [Value.slice.injEq] at hvv
      obtain ⟨rfl, -, rfl⟩ := hvv
      obtain ⟨s0, hs0⟩ : ∃ s, (L0[k]).1 = s := ⟨_, rfl⟩
      obtain ⟨G, hG⟩ : ∃ G, (L0[k]).2 = G := ⟨_, rfl⟩
      have hdr : L0.drop k = (s0, G) :: L0.drop (k + 1) := by rw [List.drop_eq_getElem_cons hk0, ← hs0, ← hG]
      obtain ⟨hO8, hx8, hy8⟩ := hOa hlt
      rw [hdr] at hO8
      have hL8 : Hl.L ⟨d, seg, every, Ln ++ (s0, G) :: L0.drop (k + 1)⟩ = Ln ++ (s0, G) :: L0.drop (k + 1) := rfl
      obtain ⟨hGO, hGd, hGe, hGn⟩ := hO8.sg (s0, G) (by simp)
      dsimp only at hGO hGd hGe hGn
      have hGeq : G = ⟨d, segNm G.base, G.base, every, G.l, G.kept⟩ := by rw [← hGn, ← hGd, ← hGe]
      have hop0 := fun (hHx : Hp wr P8 (Ad8 ++ (Ah ++ (zBl bx d seg every ++ F)))) => hop_torn ((C.sub HS7.out).sub hs8) hD8 hI8 hu8 nm m t Ln (L0.drop (k + 1)) s0 G hO8 (HLA.out.turn hdr hLn hy8 HN.out) hHx
      have hchG := hO8.chain hL8
      have hbs := hGO.base
      simp only [List.getElem_map] at hck
      rw [hG, hGn] at hck
      have hmap1 : (L0.take (k + 1)).map (·.2.syn) = (L0.take k).map (·.2.syn) ++ [G.syn] := by rw [take_next L0 k hk0, List.map_append, List.map_singleton, hG]
      obtain ⟨z0, z1, z2⟩ := HZ.out _ _ _ hH8 memZ3
      have j3 : (k : Int) < (n : Int) := by omega
      have j4 : (0 : Int) ≤ (k : Int) := by omega
      have H8 := Lib.hid hH8
      have HM8 := Lib.hid hM8
      have HD8 := Lib.hid hD8
      have HO8 := Lib.hid hO8
      have HGEQ := Lib.hid hGeq
      have HGO := Lib.hid hGO
      have HCH := Lib.hid hchG
      have HMAP := Lib.hid hmap
      have HMAP1 := Lib.hid hmap1
      have HX8 := Lib.hid (show D8.used = D.used ∧ D8.room = D.room ∧ D8.n = D.n ∧ D8.look nm = D.look nm from ⟨hx8, hr8, hn8, hy8⟩)
      have HOP := Lib.hid hop0
      have HLN := Lib.hid hLn
      have HS8 := Lib.hid hs8
      have HK := Lib.hid hk
      obtain ⟨base, hbase⟩ : ∃ base, G.base = base := ⟨_, rfl⟩
      rw [hbase] at hck hbs
      have HBS := Lib.hid hbase
      clear hH8 hM8 hD8 hO8 hGeq hGO hchG hmap hmap1 hu8 hr8 hn8 hLn hs8 hk hs0 hG hdr hGd hGe hGn hL8 hbase hop0 hx8 hy8 hOa hOb hI8
      go_wp2_with fail
      refine (nbase_ok base hbs _).mono ?_
      rintro e w9 ⟨rfl, rfl⟩
      go_wp2_with fail
      have hop := HOP.out (Hp.mid H8.out)
      rw [HBS.out] at hop
      refine hop.mono ?_
      rintro e w10 ⟨s, P10, As, Ad10, D10, cut, rfl, hs10, hG10, hD10, hI10, hu10, hr10, hn10, hOa10, hOb10, hH10⟩
      have HLL12 : Hid (Hid True) := trivial
      have hH11 : Hp w10 P10 (Ah ++ (As ++ (Ad10 ++ (zBl bx d seg every ++ F)))) := by
        have := perm_mid (As ++ Ad10) Ah (zBl bx d seg every ++ F)
        exact hH10.perm (by simpa [List.append_assoc] using this)
      have HOA10 := Lib.hid hOa10
      have HOB10 := Lib.hid hOb10
      have HI10 := Lib.hid hI10
      have HG10 := Lib.hid hG10
      have HD10 := Lib.hid hD10
      have H11 := Lib.hid hH11
      have HX10 := Lib.hid (show D10.used ≤ D10.room ∧ D10.room = D.room ∧ D10.n = D.n from ⟨hu10, hr10.trans HX8.out.2.1, hn10.trans HX8.out.2.2.1⟩)
      have HS10 := Lib.hid (HS8.out.trans hs10)
      have hLkK := hOa10
      obtain ⟨Dz, bz, hOz⟩ : ∃ Dz b, HotOn Dz ⟨d, seg, every, (Ln ++ [(s, G.syn)]) ++ L0.drop (k + 1)⟩ b l := by
        by_cases h2 : L0.drop (k + 1) = []
        · exact ⟨_, _, (hOb10 h2).1.congr rfl rfl (by rw [h2]; simp)⟩
        · exact ⟨_, _, (hOa10 h2).1.congr rfl rfl (by simp)⟩
      have HO12 := Lib.hid hOz
      clear hop hs10 hG10 hD10 hI10 hu10 hr10 hn10 hOa10 hOb10 hH10 hH11 hLkK hOz HLL12
      obtain ⟨lv, Al, As0, hAh, hr8, hS8⟩ := id HM8.out
      obtain ⟨la, lc, rfl⟩ := hr8.shape
      have hLL : (Hl.L ⟨d, seg, every, Ln⟩).length = k := HLN.out
      rw [hLL] at hAh hr8
      have c3 : w10.cell? ⟨h, 3, none⟩ = some (.slice la k lc) := H11.out.cell (b := h) (c := hlCells ⟨d, seg, every, Ln⟩ (.slice la k lc)) (t := 119) (fr := (0, 0)) (by rw [hAh]; simp) rfl
      have HAH := Lib.hid hAh
      have HR8 := Lib.hid hr8
      have HS80 := Lib.hid hS8
      clear hAh hr8 hS8 z0 z1 z2
      have hcase : k = 0 ∨ 0 < k := by omega
      rcases hcase with hk0' | hk0'
      case' inl =>
        subst hk0'
        have H12 := H11
        clear c3
        have c3 : w10.cell? ⟨h, 3, none⟩ = some (.slice la 0 lc) := H11.out.cell (b := h) (c := hlCells ⟨d, seg, every, Ln⟩ (.slice la 0 lc)) (t := 119) (fr := (0, 0)) (by rw [HAH.out]; simp) rfl
        have hH13 : Hp w10 P10 (Al ++ ((h, Obj.cells (hlCells ⟨d, seg, every, Ln⟩ (.slice la 0 lc)) 119 (0, 0)) :: (As0 ++ (As ++ (Ad10 ++ (zBl bx d seg every ++ F)))))) := by
          have h1 := H12.out
          rw [HAH.out] at h1
          have := perm_mid [(h, Obj.cells (hlCells ⟨d, seg, every, Ln⟩ (.slice la 0 lc)) 119 (0, 0))] Al (As0 ++ (As ++ (Ad10 ++ (zBl bx d seg every ++ F))))
          exact h1.perm (by simpa [List.append_assoc] using this)
        have H13 := Lib.hid hH13
        clear hH13
        go_wp2_with (at_builtin; refine wpList_push_hp rfl _ _ _ rfl 41 _ 1 8 Tryz.underlying117 infoSp rfl (by omega) (.slice la 0 lc) 0 (ptrsL Ln) rfl H13.out HR8.out #[ptr s] rfl rfl (by intro u hu; simp at hu; subst hu; rfl) (by omega) (by omega) ?_)
      case' inr =>
        have j5 : (0 : Int) < (k : Int) := by omega
        go_wp2_with fail
        obtain ⟨K0, sp, Gp, hKp⟩ : ∃ K0 sp Gp, Ln = K0 ++ [(sp, Gp)] := by
          rcases lastHl Ln with h0 | h0
          · have := HLN.out; rw [h0] at this; simp at this; omega
          · exact h0
        have hfol : follB Gp G.syn = true := HO12.out.foll (L1 := K0) (s1 := sp) (s2 := s) (L2 := L0.drop (k + 1)) (by show (Ln ++ [(s, G.syn)]) ++ L0.drop (k + 1) = _; rw [hKp]; simp)
        have hK0 : K0.length ≤ 1000000 := by have := HLN.out; rw [hKp] at this; simp at this; omega
        have hpm : (sp, Gp) ∈ (Ln ++ [(s, G.syn)]) ++ L0.drop (k + 1) := by rw [hKp]; simp
        have hGpW : SgW Gp := (HO12.out.W).g (sp, Gp) hpm
        have hGsW : SgW G.syn := (HO12.out.W).g (s, G.syn) (by simp)
        have HKP := Lib.hid hKp
        have HFOL := Lib.hid hfol
        clear hKp hfol hpm
        refine (hlast_ok HM8.out HKP.out hK0 H11.out).mono ?_
        rintro e w11 ⟨rfl, hHa⟩
        obtain ⟨Ap, Rp, hGp, hpp, -⟩ := HM8.out.focus (l2 := []) HKP.out
        have hHb : Hp w11 P10 (Ap ++ (As ++ (Rp ++ (Ad10 ++ (zBl bx d seg every ++ F))))) := (hHa.perm (hpp _)).perm (List.Perm.append_left Ap (perm_mid Rp As _))
        have HA := Lib.hid hHb
        have HPP := Lib.hid hpp
        clear hHa hHb hpp
        go_wp2_with fail
        refine (hfollows_ok hGp hGpW HG10.out hGsW HA.out).mono ?_
        rintro e w12 ⟨rfl, hHc⟩
        rw [HFOL.out]
        have hHd : Hp w12 P10 (Ah ++ (As ++ (Ad10 ++ (zBl bx d seg every ++ F)))) := (hHc.perm (List.Perm.append_left Ap (perm_mid As Rp _))).perm (HPP.out _).symm
        have c3 : w12.cell? ⟨h, 3, none⟩ = some (.slice la k lc) := hHd.cell (b := h) (c := hlCells ⟨d, seg, every, Ln⟩ (.slice la k lc)) (t := 119) (fr := (0, 0)) (by rw [HAH.out]; simp) rfl
        have H12 := Lib.hid hHd
        clear hHc hHd
        have hH13 : Hp w12 P10 (Al ++ ((h, Obj.cells (hlCells ⟨d, seg, every, Ln⟩ (.slice la k lc)) 119 (0, 0)) :: (As0 ++ (As ++ (Ad10 ++ (zBl bx d seg every ++ F)))))) := by
          have h1 := H12.out
          rw [HAH.out] at h1
          have := perm_mid [(h, Obj.cells (hlCells ⟨d, seg, every, Ln⟩ (.slice la k lc)) 119 (0, 0))] Al (As0 ++ (As ++ (Ad10 ++ (zBl bx d seg every ++ F))))
          exact h1.perm (by simpa [List.append_assoc] using this)
        have H13 := Lib.hid hH13
        clear hH13
        go_wp2_with (at_builtin; refine wpList_push_hp rfl _ _ _ rfl 41 _ 1 8 Tryz.underlying117 infoSp rfl (by omega) (.slice la k lc) k (ptrsL Ln) rfl H13.out HR8.out #[ptr s] rfl rfl (by intro u hu; simp at hu; subst hu; rfl) (by omega) (by omega) ?_)
      all_goals
        intro g7 c7 w14 A14 hr14 hH14
        have hH15 := Hp.mid (A := A14) (B := [_]) hH14
        have f3 := @Hp.frozen _ _ _ hH15 h _ 119 List.mem_cons_self 3
        have c3' := (@Hp.cell _ _ _ hH15 h _ 119 (0, 0) List.mem_cons_self) (i := 3) rfl
        have H15 := Lib.hid hH15
        have HR14 := Lib.hid hr14
        clear hH14 hH15 hr14
        go_wp2_with fail
        go_roundg gj
        case measure => omega
        case rel => exact ho_stepT HK.out HN.out HS10.out HLN.out HR14.out HS80.out HG10.out HD10.out HI10.out HOA10.out HOB10.out HX8.out HMAP.out HMAP1.out HX10.out (by simp) (by simpa [hlCells] using Hp.set H15.out 3 _)
    · have hkn : k = n := by omega
      have hdr : L0.drop k = [] := by rw [hkn, ← HN.out]; exact List.drop_length
      have htk : L0.take k = L0 := by rw [hkn, ← HN.out]; exact List.take_length
      obtain ⟨hO8, hx8⟩ := hOb hkn
      rw [htk] at hmap
      obtain ⟨z0, z1, z2⟩ := HZ.out _ _ _ hH8 memZ3
      have HFIN : Hid (HlM h ⟨d, seg, every, Ln⟩ Ah ∧ DkM P8 d D8 Ad8 ∧ HotOn D8 ⟨d, seg, every, Ln⟩ b0 l ∧ Ln.map (·.2) = L0.map (·.2.syn) ∧ D8.used + t.length = D.used ∧ D8.room = D.room ∧ D8.n = D.n) := ⟨hM8, hD8, hO8, hmap, hx8, hr8, hn8⟩
      have H8 := Lib.hid hH8
      have HS8 := Lib.hid hs8
      clear hH8 hM8 hD8 hO8 hmap hu8 hr8 hn8 hs8 hLn hdr htk hkn hk hx8 hOa hOb hI8
      go_wp2_with fail
      refine (back_any _ rfl _).mono ?_
      rintro e w9 ⟨rfl, rfl⟩
      have hH9 := (H8.out.alloc (.cells #[.slice none 0 0] 136)).tail
      have c9 : (wr.alloc (.cells #[.slice none 0 0] 136)).cell? ⟨wr.heap.size, 0, none⟩ = some (.slice none 0 0) := by go_simp
      obtain ⟨bb, hbb⟩ : ∃ bb, wr.heap.size = bb := ⟨_, rfl⟩
      obtain ⟨w9, hw9⟩ : ∃ w9, wr.alloc (.cells #[.slice none 0 0] 136) = w9 := ⟨_, rfl⟩
      rw [hw9] at hH9 c9 ⊢
      rw [hbb] at c9 ⊢
      have H9 := Lib.hid hH9
      have C9 := Lib.hid c9
      clear hH9 c9 hw9 hbb z0 z1 z2
      go_wp2_with fail
      refine (wpIn_wide (n := 6)).1 ?_
      refine wpIn_rangeFunc_ownF (α := Empty) rfl (by omega) (gf := 125) (lb := #[.pointer (some ⟨bb, 0, none⟩)]) rfl trivial (enters_of Tryz.func125 (by kernel_rfl) rfl)
        (back_none 5 bb w9 none 0 C9.out (fun x => nomatch x) (fun _ _ => True)) (fun _ _ => trivial) (fun _ _ _ _ _ _ _ _ => trivial) (Below.refl _ _) (fun x => nomatch x) (fun _ W => Below w9.heap.size w9 W) (fun _ _ _ => False)
        (ownFrom_below (Nat.le_refl _) (Nat.le_refl _)) (fun _ _ _ _ _ h _ _ => h.elim) (Below.refl _ _) (fun x => nomatch x) (fun _ x => nomatch x) (fun _ _ x => nomatch x) ?done ?stop
      case stop => exact fun _ _ _ _ _ hf => hf.elim
      case done =>
        intro D0 xs W hDl _ hB hK
        have hHW := H9.out.below hB (Nat.le_refl _)
        have HHW := Lib.hid hHW
        have HB := Lib.hid hB
        have HK := Lib.hid hK
        have HDL := Lib.hid hDl
        clear hHW hB hK hDl
        have hz4 : W.cell? ⟨bx + 1 + 1, 0, none⟩ = some (.pointer none) := HHW.out.cell (b := bx + 2) (c := #[.pointer none]) (t := 53) (fr := (0, 0)) (memZ3 _ (by simp [zBl])) rfl
        have hf4 : W.frozen? ⟨bx + 1 + 1, 0, none⟩ = false := HHW.out.frozen (b := bx + 2) (c := #[.pointer none]) (t := 53) (memZ3 _ (by simp [zBl])) 0
        have hz5 : W.cell? ⟨bx + 1 + 1 + 1, 0, none⟩ = some .nilIface := HHW.out.cell (b := bx + 3) (c := #[.nilIface]) (t := 27) (fr := (0, 0)) (memZ3 _ (by simp [zBl])) rfl
        have hf5 : W.frozen? ⟨bx + 1 + 1 + 1, 0, none⟩ = false := HHW.out.frozen (b := bx + 3) (c := #[.nilIface]) (t := 27) (memZ3 _ (by simp [zBl])) 0
        have hset : Hp ((W.setCell ⟨bx + 1 + 1, 0, none⟩ (ptr h)).setCell ⟨bx + 1 + 1 + 1, 0, none⟩ .nilIface) P8 ((bx + 3, .cells #[.nilIface] 27 (0, 0)) :: (bx + 2, .cells #[ptr h] 53 (0, 0)) :: ((bx + 1, .cells #[.int .i64 seg, .int .i64 every] 65 (0, 0)) :: (bx, .cells #[ptr d] 25 (0, 0)) :: (Ah ++ (Ad8 ++ F)))) := by
          have h1 := Hp.mid (A := Ah ++ Ad8) (B := zBl bx d seg every) (C := F) (by simpa [List.append_assoc] using HHW.out)
          have h2 := (Hp.mid (A := [(bx + 3, .cells #[.nilIface] 27 (0, 0))]) (B := [(bx + 2, .cells #[.pointer none] 53 (0, 0))]) h1).set 0 (ptr h)
          have h3 := (Hp.mid (A := [_]) (B := [(bx + 3, .cells #[.nilIface] 27 (0, 0))]) h2).set 0 .nilIface
          simpa [List.append_assoc] using h3
        have HSET := Lib.hid hset
        clear hset
        simp only [Exit.inBlock, Exit.then]
        go_wp2_with fail
        obtain ⟨wz, hwz⟩ : ∃ wz, (W.setCell ⟨bx + 1 + 1, 0, none⟩ (ptr h)).setCell ⟨bx + 1 + 1 + 1, 0, none⟩ .nilIface = wz := ⟨_, rfl⟩
        have hK2 : wz.heap[D0]? = some (.deferred (some [])) := by
          rw [← hwz]
          exact ((KeepsOthers.setCell W _ _).trans (KeepsOthers.setCell _ _ _)).same D0 _ HK.out rfl
        have hset := HSET.out
        rw [hwz] at hset
        have hput := hset.putObj D0 (.deferred none) ⟨fun hm => by
            have h1 := H9.out.ids_lt D0 (by
              simp only [ids, List.map_cons, List.map_append, List.mem_cons, List.mem_append, zBl, List.map_nil, List.not_mem_nil, or_false] at hm ⊢
              rcases hm with h | h | h | h | h | h | h
              · exact .inr (.inr (.inl (.inl h)))
              · exact .inr (.inr (.inl (.inr (.inl h))))
              · exact .inr (.inr (.inl (.inr (.inr (.inl h)))))
              · exact .inr (.inr (.inl (.inr (.inr (.inr h)))))
              · exact .inl h
              · exact .inr (.inl h)
              · exact .inr (.inr (.inr h)))
            have := HDL.out
            omega, H9.out.outside HDL.out⟩
        have r4 := (@Hp.cell _ _ _ hput (bx + 2) #[ptr h] 53 (0, 0) (by simp)) (i := 0) rfl
        have r5 := (@Hp.cell _ _ _ hput (bx + 3) #[.nilIface] 27 (0, 0) (by simp)) (i := 0) rfl
        obtain ⟨f1, f2, f3, f4, f5, f6, f7⟩ := HFIN.out
        show LeavesInM _ _ _ _ _ _ _ _ ((W.setCell ⟨bx + 1 + 1, 0, none⟩ (ptr h)).setCell ⟨bx + 1 + 1 + 1, 0, none⟩ .nilIface)
        rw [hwz]
        refine ⟨by simp, .inl ⟨D0, _, rfl, run_takeDeferred hK2, ?_⟩⟩
        have r4' : (wz.putObj D0 (.deferred none)).cell? ⟨bx + 1 + 1, 0, none⟩ = some (ptr h) := r4
        have r5' : (wz.putObj D0 (.deferred none)).cell? ⟨bx + 1 + 1 + 1, 0, none⟩ = some .nilIface := r5
        refine ⟨.tuple #[ptr h, .nilIface], by simp [results, Tryz.results31, go_sem, r4', r5'], h, P8, Ah, Ad8, D8, Ln, rfl, HS7.out.trans HS8.out, f1, f2, f3, f4, f5, f6, f7, ?_⟩
        exact hput.drop (M := [_, _, _, _])
end
end Go.Proofs.YtncjffkpkmjgkaaGreatDoor.Sg

/-! Yk -/
namespace Go.Proofs.YtncjffkpkmjgkaaGreatDoor.Sg
open Go.RowKit Er Go.Maps

section
variable {S : List Nat} {E : Nat → Addr} {B : Nat} {D6 : Dk} {H : Hl} {b0 : Int} {l : List Bt} {L0 : List (Nat × Sg)} {s : Nat} {G : Sg}
theorem HotOn.torn_crash (h : HotOn D6.un H b0 l) (hL : H.L = L0 ++ [(s, G)]) (q : Nat) (p : Nat → Nat) (hp : ∀ f, f ∈ D6.fl → p f.blk ≤ f.b.length - f.s) :
    ∃ k t, k ≤ G.l.length ∧ DkI (D6.crash q p) ∧ (D6.crash q p).used ≤ (D6.crash q p).room ∧ HotOn ((D6.crash q p).trim G.nm (sizes (G.l.take k))) { H with L := L0 ++ [(s, G.cutK k)] } b0 ((L0.map (·.2.l)).flatten ++ G.l.take k) ∧
      Torn S E B (D6.crash q p) G.nm (sizes (G.l.take k)) t (L0 ++ [(s, G.cutK k)]) ∧ ∀ j, j ≤ G.l.length → sizes (G.l.take j) ≤ G.kept → j ≤ k := by
  have hnm : D6.keptA q = D6.nm := h.kept_same (D2 := D6) rfl q
  have hgm : (s, G) ∈ H.L := by rw [hL]; simp
  obtain ⟨hSG, -, -, -⟩ := h.sg _ hgm
  dsimp only at hSG
  obtain ⟨f, f1, f2, f3⟩ := hSG.f
  have f1' : D6.look G.nm = some f := f1
  have hlen : f.b.length = sizes G.l := by rw [f2, flatB_len]
  obtain ⟨k, t, k1, k2, k3, k4, k5⟩ := flat_cut (S := S) (E := E) (B := B) G.l (min (f.s + p f.blk) (sizes G.l)) (fun x hx => ⟨hSG.ok x hx, hSG.by_ x hx⟩) (Nat.min_le_right _ _)
  have fb : f.b.take (f.s + p f.blk) = flatB (G.l.take k) ++ t := by
    rw [← k2, ← hlen, f2, ← List.take_take, List.take_length]
  have hcl : ∀ s', (D6.crash q p).look s' = (D6.look s').map fun f => { f with b := f.b.take (f.s + p f.blk), s := f.s + p f.blk } := fun s' => by
    rw [crash_look, hnm]
    unfold Dk.look
    cases nfind D6.nm s' with
    | none => rfl
    | some b => rfl
  have hI : DkI (D6.crash q p) := ⟨crash_W (un_W h.I.w) q p, by show ((D6.keptA q).map _).Nodup; rw [hnm]; exact h.I.nd, by show ((D6.keptA q).map _).Nodup; rw [hnm]; exact h.I.inj, rfl, rfl⟩
  have hu : (D6.crash q p).used ≤ D6.used := by
    show allSum (flen (D6.fl.map (cutF p ((D6.keptA q).map (·.2))))) (D6.keptA q) ≤ allSum (flen D6.fl) D6.nm
    rw [hnm]
    exact allSum_le _ _ _ (fun x _ => flen_cut _ _ _ _)
  have hur : D6.used ≤ D6.room := h.used
  obtain ⟨f', hf'⟩ : ∃ f', f' = ({ f with b := f.b.take (f.s + p f.blk), s := f.s + p f.blk } : Fl) := ⟨_, rfl⟩
  have hl' : (D6.crash q p).look G.nm = some f' := by rw [hcl, f1', hf']; rfl
  have hfb : f'.b = flatB (G.l.take k) ++ t := by rw [hf']; exact fb
  have hm : sizes (G.l.take k) ≤ f'.b.length := by rw [hfb, List.length_append, flatB_len]; omega
  have htu := trim_used hI hl' _ hm
  obtain ⟨ts1, ts2, ts3, ts4, ts5⟩ := trim_same (D := D6.crash q p) hl' (sizes (G.l.take k))
  have hnmD : (D6.crash q p).nm = D6.nm := hnm
  have hkpD : (D6.crash q p).kp = D6.nm := hnm
  have hS : SegOn ((D6.crash q p).trim G.nm (sizes (G.l.take k))) (G.cutK k) := by
    refine ⟨trim_I hI hl' _, fun x hx => hSG.ok x (List.mem_of_mem_take hx), fun x hx => hSG.by_ x (List.mem_of_mem_take hx), hSG.base, hSG.nm, ⟨{ f' with b := f'.b.take (sizes (G.l.take k)), s := sizes (G.l.take k) }, ?_, ?_, rfl⟩, by rw [ts1]; exact h.room, ?_⟩
    · show ((D6.crash q p).trim G.nm _).look G.nm = _
      rw [trim_look hI hl', if_pos rfl]
    · show f'.b.take _ = flatB (G.l.take k)
      rw [hfb, List.take_left' (flatB_len _)]
    · rw [ts1]
      show _ ≤ D6.room
      omega
  have hsm : DkSame D6.un ((D6.crash q p).trim G.nm (sizes (G.l.take k))) := ⟨by rw [ts1]; rfl, by rw [ts2, hnmD]; rfl, by rw [ts5]; rfl, by rw [ts4]; exact Nat.zero_le _, by rw [ts2, hnmD]; rfl, fun _ => by rw [ts3, ts2, hnmD, hkpD]⟩
  refine ⟨k, t, k1, hI, by show _ ≤ D6.room; omega, h.cutSeg hL k hS hsm (by show _ ≤ D6.used; omega) (fun s' hs' => ?_), ⟨L0, s, G.cutK k, rfl, rfl, rfl, f', hl', hfb, k3⟩, fun j hj hjk => k5 j hj (Nat.le_min.2 ⟨by omega, ?_⟩)⟩
  · rw [trim_look hI hl', if_neg hs', hcl]
    by_cases hex : ∃ x, x ∈ L0 ∧ x.2.nm = s'
    · obtain ⟨x, hx, rfl⟩ := hex
      have hxm : x ∈ H.L := by rw [hL]; exact List.mem_append_left _ hx
      obtain ⟨g, g1, g2, g3⟩ := (h.sg x hxm).1.f
      have hk := h.lk
      rw [hL, List.map_append] at hk
      have hful := (hk.full (by simp) x.2 (List.mem_map.2 ⟨x, hx, rfl⟩)).2
      have hg2 : g.b.length = g.s := by rw [g2, flatB_len, g3, hful]
      have hpg := hp g (ffind_mem (look_some g1).2).1
      have hp0 : p g.blk = 0 := by omega
      have g1' : D6.look x.2.nm = some g := g1
      show (D6.look x.2.nm).map _ = D6.look x.2.nm
      rw [g1']
      simp only [Option.map_some, hp0, Nat.add_zero]
      rw [← hg2, List.take_length]
      rw [hg2]
    · have hn : D6.un.look s' = none := h.only s' (fun x hx => by
        rw [hL] at hx
        rcases List.mem_append.1 hx with hx | hx
        · exact fun e => hex ⟨x, hx, e⟩
        · rw [List.mem_singleton.1 hx]; exact fun e => hs' e.symm)
      have hn' : D6.look s' = none := hn
      rw [hn', hn]; rfl
  · have := sizes_mono G.l j G.l.length hj
    rw [List.take_length] at this
    exact this
end
end Go.Proofs.YtncjffkpkmjgkaaGreatDoor.Sg

/-! Yn -/
namespace Go.Proofs.YtncjffkpkmjgkaaGreatDoor.Sg
open Go.RowKit Er Go.Maps

theorem synS_ex (kept : Nat) (b : Int) (l : List Bt) : ∀ k, k ≤ l.length → ∃ j, j ≤ k ∧ sizes (l.take j) ≤ kept ∧ (synS kept b (l.take k)).1 = endOf b (l.take j)
  | 0, _ => ⟨0, Nat.le_refl _, by simp [sizes], by simp [synS, endOf]⟩
  | k + 1, h => by
    obtain ⟨j, h1, h2, h3⟩ := synS_ex kept b l k (by omega)
    have hp := synS_pos kept b l k (by omega)
    have e : sizes (l.take k) + szB l[k] = sizes (l.take (k + 1)) := by rw [take_next l k (by omega), sizes_app]; simp [sizes]
    rw [synS_step kept b l k (by omega), hp, e]
    by_cases hc : sizes (l.take (k + 1)) ≤ kept
    · rw [if_pos hc]
      exact ⟨k + 1, Nat.le_refl _, hc, by rw [take_next l k (by omega), endOf_snoc]⟩
    · rw [if_neg hc]
      exact ⟨j, by omega, h2, h3⟩
theorem synF_ex (kept : Nat) (b : Int) (l : List Bt) : ∃ j, j ≤ l.length ∧ sizes (l.take j) ≤ kept ∧ synF kept b l = endOf b (l.take j) := by
  obtain ⟨j, h1, h2, h3⟩ := synS_ex kept b l l.length (Nat.le_refl _)
  rw [List.take_length] at h3
  exact ⟨j, h1, h2, h3⟩
/-- What was synced is there behind a crash. -/
theorem synF_le {l : List Bt} (hr : ∀ x, x ∈ l → 1 ≤ x.r.length) {b e : Int} (hc : Chain b e l) {kept k : Nat} (hk : k ≤ l.length) (h : ∀ j, j ≤ l.length → sizes (l.take j) ≤ kept → j ≤ k) : synF kept b l ≤ endOf b (l.take k) := by
  obtain ⟨j, h1, h2, h3⟩ := synF_ex kept b l
  have hj := h j h1 h2
  rw [h3]
  rcases Nat.lt_or_ge j k with h4 | h4
  · exact Int.le_of_lt (endOf_mono hr hc h4 hk)
  · rw [show j = k by omega]; exact Int.le_refl _
theorem synF_low {l : List Bt} (hr : ∀ x, x ∈ l → 1 ≤ x.r.length) {b e : Int} (hc : Chain b e l) (kept : Nat) : synF kept b l ≤ endOf b l := by
  have := synF_le hr hc (kept := kept) (Nat.le_refl _) (fun j h _ => h)
  rwa [List.take_length] at this
end Go.Proofs.YtncjffkpkmjgkaaGreatDoor.Sg

/-! Yp -/
namespace Go.Proofs.YtncjffkpkmjgkaaGreatDoor.Sg
open Go.RowKit Er Go.Maps

/-- Up to where the last segment is synced. -/
def Hl.low (H : Hl) : Int := match H.L.getLast? with | none => 0 | some p => synF p.2.kept p.2.base p.2.l
theorem low_at {H : Hl} {L0 : List (Nat × Sg)} {s : Nat} {G : Sg} (hL : H.L = L0 ++ [(s, G)]) : H.low = synF G.kept G.base G.l := by
  unfold Hl.low
  rw [hL, List.getLast?_concat]

section
variable {D : Dk} {H : Hl} {b0 : Int} {l : List Bt} {L0 : List (Nat × Sg)} {s : Nat} {G : Sg}
theorem HotOn.lastEnd (h : HotOn D H b0 l) (hL : H.L = L0 ++ [(s, G)]) : endOf (G.base : Int) G.l = endOf b0 l := by
  obtain ⟨-, c2, -, -, c5⟩ := h.split (L2 := []) hL
  rw [c2, ← endOf_app]
  conv => rhs; rw [c5]
  simp
theorem HotOn.low_le (h : HotOn D H b0 l) (hL : H.L = L0 ++ [(s, G)]) : H.low ≤ endOf b0 l := by
  obtain ⟨c1, -, -, -, -⟩ := h.split (L2 := []) hL
  have hr : ∀ x, x ∈ G.l → 1 ≤ x.r.length := fun x hx => ((h.sg (s, G) (by rw [hL]; simp)).1.ok x hx).n1
  rw [low_at hL, ← h.lastEnd hL]
  exact synF_low hr c1 G.kept
theorem HotOn.low_push (h : HotOn D H b0 l) (hL : H.L = L0 ++ [(s, G)]) (x : Bt) (hb : x.b = endOf b0 l) : H.low ≤ ({ H with L := L0 ++ [(s, G.push x)] } : Hl).low := by
  have h1 := h.low_le hL
  rw [low_at (H := { H with L := L0 ++ [(s, G.push x)] }) (L0 := L0) (s := s) (G := G.push x) rfl]
  have e := synF_step G.kept G.base (G.l ++ [x]) G.l.length (by simp)
  rw [List.take_of_length_le (by simp), List.take_left] at e
  show _ ≤ synF G.kept G.base (G.l ++ [x])
  rw [e]
  split
  · rw [List.getElem_append_right (Nat.le_refl _)]
    simp only [Nat.sub_self, List.getElem_cons_zero]
    omega
  · rw [low_at hL]; exact Int.le_refl _
theorem HotOn.low_syn (h : HotOn D H b0 l) (hL : H.L = L0 ++ [(s, G)]) : ({ H with L := L0 ++ [(s, G.syn)] } : Hl).low = endOf b0 l := by
  rw [low_at (H := { H with L := L0 ++ [(s, G.syn)] }) (L0 := L0) (s := s) (G := G.syn) rfl, ← h.lastEnd hL]
  exact synF_all _ _
theorem low_new (K : List (Nat × Sg)) (s d seg every : Nat) (G : Sg) (bn : Int) (hl : G.l = []) (hb : (G.base : Int) = bn) : (⟨d, seg, every, K ++ [(s, G)]⟩ : Hl).low = bn := by
  rw [low_at rfl, hl, hb]; rfl
theorem low_newpush (K : List (Nat × Sg)) (s d seg every : Nat) (G : Sg) (x : Bt) (bn : Int) (hl : G.l = []) (hk : G.kept = 0) (hb : (G.base : Int) = bn) : (⟨d, seg, every, K ++ [(s, G.push x)]⟩ : Hl).low = bn := by
  rw [low_at rfl]
  show synF G.kept G.base (G.l ++ [x]) = bn
  have := szB_pos x
  rw [hl, hk, hb]
  unfold synF synS
  simp only [List.nil_append, List.foldl_cons, List.foldl_nil]
  rw [if_neg (by omega)]

theorem ndel_len {m : List (Nam × Nat)} {p : Nam × Nat} (hnd : (m.map (·.1)).Nodup) (hp : p ∈ m) : (ndel m p.1).length + 1 = m.length := by
  induction m with
  | nil => cases hp
  | cons q m ih =>
    rw [List.map_cons, List.nodup_cons] at hnd
    unfold ndel at ih ⊢
    by_cases e : q.1 = p.1
    · rw [List.filter_cons_of_neg (by simp [e])]
      have : m.filter (fun r => !(r.1 == p.1)) = m := by
        rw [List.filter_eq_self]
        intro r hr
        simp only [Bool.not_eq_true', beq_eq_false_iff_ne, ne_eq]
        intro e2
        exact hnd.1 (List.mem_map.2 ⟨r, hr, e2.trans e.symm⟩)
      rw [this, List.length_cons]
    · rw [List.filter_cons_of_pos (by simp [e]), List.length_cons, List.length_cons]
      rcases List.mem_cons.1 hp with rfl | hp
      · exact absurd rfl e
      · have := ih hnd.2 hp; omega
/-- Files of all names are as many bytes as the disk has. -/
theorem used_most (D : Dk) : ∀ (L : List (Nat × Sg)) (m : List (Nam × Nat)), (m.map (·.1)).Nodup → m.length ≤ L.length → (L.map (·.2.nm)).Nodup → (∀ p, p ∈ L → ∃ f b, nfind m p.2.nm = some b ∧ ffind D.fl b = some f ∧ f.b.length = sizes p.2.l) →
    allSum (flen D.fl) m ≤ sizes (L.map (·.2.l)).flatten
  | [], m, _, hl, _, _ => by
    obtain rfl : m = [] := List.eq_nil_of_length_eq_zero (by simpa using hl)
    simp [allSum, sizes]
  | p :: L, m, hnd, hl, hn, h => by
    rw [List.map_cons, List.nodup_cons] at hn
    obtain ⟨f, b, h1, h2, h3⟩ := h p List.mem_cons_self
    have hm := nfind_mem h1
    rw [sum_del _ hnd hm, List.map_cons, List.flatten_cons, sizes_app]
    have e1 : flen D.fl (p.2.nm, b) = sizes p.2.l := by simp [flen, h2, h3]
    have hlen := ndel_len hnd hm
    rw [List.length_cons] at hl
    have ih := used_most D L (ndel m p.2.nm) (ndel_nd hnd _) (by show (ndel m p.2.nm).length ≤ _; have : (ndel m p.2.nm).length + 1 = m.length := hlen; omega) hn.2 (fun q hq => by
      obtain ⟨f, b, k1, k2, k3⟩ := h q (List.mem_cons_of_mem _ hq)
      refine ⟨f, b, ?_, k2, k3⟩
      rw [ndel_find, if_neg (fun e => hn.1 (List.mem_map.2 ⟨q, hq, e⟩))]
      exact k1)
    rw [e1]
    exact Nat.add_le_add_left ih _
theorem HotOn.used_eq (h : HotOn D H b0 l) : D.used = sizes l := by
  refine Nat.le_antisymm ?_ h.sz
  have hfl := h.fl
  rw [← hfl]
  refine used_most D H.L D.nm h.I.nd (by rw [h.nml]; exact Nat.le_refl _) h.nmND (fun p hp => ?_)
  obtain ⟨f, f1, f2, -⟩ := (h.sg p hp).1.f
  obtain ⟨k1, k2⟩ := look_some f1
  exact ⟨f, f.blk, k1, k2, by rw [f2, flatB_len]⟩
end
end Go.Proofs.YtncjffkpkmjgkaaGreatDoor.Sg

/-! Yl -/
namespace Go.Proofs.YtncjffkpkmjgkaaGreatDoor.Sg
open Go.RowKit Er Go.Maps

/-- A log whose Append fell when the power went: what is there. -/
def ApGone (D D' : Dk) (H H' : Hl) (b0 : Int) (l : List Bt) : Prop :=
  PowOff D D' ∧ H'.d = H.d ∧ H'.seg = H.seg ∧ H'.every = H.every ∧ H'.L ≠ [] ∧ H.low ≤ H'.low ∧ (D'.n ≤ D.n + 1 ∧ D'.room = D.room) ∧
    (HotOn D'.un H' b0 l ∨ ∃ D0 bn b, HotOn D0 H' b0 l ∧ Pend D0 D'.un bn b ∧ (bn : Int) = endOf b0 l ∧ ∀ p, p ∈ H'.L → p.2.l ≠ [] ∧ p.2.kept = sizes p.2.l)

theorem un_nr {D D' : Dk} (h : D.un = D'.un) : D.n = D'.n ∧ D.room = D'.room := by
  have h1 := congrArg Dk.n h
  have h2 := congrArg Dk.room h
  exact ⟨h1, h2⟩
theorem beg_nr (D : Dk) : D.beg.n ≤ D.n + 1 ∧ D.beg.room = D.room := by
  obtain ⟨h1, h2⟩ := un_nr (D := D.beg) (D' := D) (beg_un D)
  exact ⟨by omega, h2⟩
theorem pend_nr {D D0 D' : Dk} {bn : Nat} (h : D'.un = D0.un ∨ ∃ b, Pend D0.un D'.un bn b) (hs : DkSame D.un D0.un) : D'.n ≤ D.n + 1 ∧ D'.room = D.room := by
  have h1 : D0.n = D.n := hs.n
  have h2 : D0.room = D.room := hs.room
  rcases h with h | ⟨b, h⟩
  · obtain ⟨h3, h4⟩ := un_nr h
    exact ⟨by omega, h4.trans h2⟩
  · have h3 : D'.n = D0.n + 1 := h.n
    have h4 : D'.room = D0.room := h.room
    exact ⟨by omega, h4.trans h2⟩
theorem made_nr {D D0 D' : Dk} {bn : Nat} (h : Made D0.un D'.un bn) (hs : DkSame D.un D0.un) : D'.beg.n ≤ D.n + 1 ∧ D'.beg.room = D.room := by
  have h1 : D0.n = D.n := hs.n
  have h2 : D0.room = D.room := hs.room
  have h3 : D'.n = D0.n + 1 := h.n
  have h4 : D'.room = D0.room := h.room
  obtain ⟨h5, h6⟩ := un_nr (D := D'.beg) (D' := D') (beg_un D')
  exact ⟨by omega, (h6.trans h4).trans h2⟩

section
variable {S : List Nat} {E : Nat → Addr} {B : Nat} {P : Pm} {h s : Nat} {H : Hl} {G : Sg} {D : Dk} {A Ad F : Mm} {w : World} {b0 : Int} {l : List Bt}
/-- seg.Append in one way: done, or the power went. -/
theorem sappend_two (C : Ctx S E B P) (hG : SgM s G A) (hO : SegOn D.un G) (hD : DkM P G.d D Ad) (x : Bt) (hxo : BtOk x) (hby : BtBy x) (v : Value) (hv : Pers P (fun w => BtV w v x)) (hf : G.foll x = true) (hroom : D.used + szB x ≤ D.room) (hH : Hp w P (A ++ (Ad ++ F))) :
    Calls Tryz.prog 91 #[ptr s, v] w fun e w' => ∃ q P' A' Ad', e = .returned q ∧ Sub P P' ∧ Hp w' P' (A' ++ (Ad' ++ F)) ∧
      ((q = .nilIface ∧ ∃ D', SgM s (G.push x) A' ∧ DkM P' G.d D' Ad' ∧ SegOn D'.un (G.push x) ∧ DkSame D.un D'.un ∧ D'.used = D.used + szB x ∧ (∀ s', s' ≠ G.nm → D'.look s' = D.look s') ∧ PowOn D D') ∨ (q = crashE E ∧ A' = A ∧ DkM P' G.d D.beg Ad' ∧ PowOff D D.beg)) := by
  cases hok : D.ok with
  | true =>
    refine (sappend_k C hok hG hO hD x hxo hby v hv hf hroom hH).mono ?_
    rintro e w' ⟨rfl, P', A', Ad', D', h1, h2, h3, h4, h5, h6, h7, h8, h9⟩
    exact ⟨_, P', A', Ad', rfl, h1, h9, .inl ⟨rfl, D', h2, h3, h4, h5, h6, h7, h8⟩⟩
  | false =>
    refine (sappend_x C hok hG hO hD x hxo hby v hv hf hH).mono ?_
    rintro e w' ⟨rfl, P', Ad', h1, h2, h3⟩
    exact ⟨_, P', A, Ad', rfl, h1, h3, .inr ⟨rfl, rfl, h2, beg_off hok⟩⟩

/-- seg.Create in one way. -/
theorem screate_two {d : Nat} (C : Ctx S E B P) (hD : DkM P d D A) (hI : DkI D.un) (base : Nat) (hb : base ≤ 1099511627776) (every : Nat) (h1 : 1 ≤ every) (h2 : every ≤ 1048576)
    (hl : D.look (segNm base) = none) (hn : D.n ≤ 1000000) (hnl : D.nm.length < 1000000) (hc : D.ch.length ≤ 1000000) (hr : D.room ≤ 4194304) (hu : D.used ≤ D.room) (hH : Hp w P (A ++ F)) :
    Calls Tryz.prog 90 #[ptr d, .int .i64 base, .int .i64 every] w fun e w' => ∃ p q M', e = .returned (.tuple #[p, q]) ∧ Hp w' P (M' ++ F) ∧
      ((∃ s As A' D', p = ptr s ∧ q = .nilIface ∧ M' = As ++ A' ∧ SgM s ⟨d, segNm base, base, every, [], 0⟩ As ∧ DkM P d D' A' ∧ SegOn D'.un ⟨d, segNm base, base, every, [], 0⟩ ∧ Made D.un D'.un base ∧ PowOn D D') ∨
       (∃ D', p = .pointer none ∧ q = crashE E ∧ DkM P d D' M' ∧ PowOff D D' ∧ (D'.un = D.un ∨ ∃ b, Pend D.un D'.un base b))) := by
  refine (screate_any C hD hI base hb every h1 h2 hl hn hnl hc hr hu hH).mono ?_
  rintro e w' (⟨s, As, A', D', rfl, q1, q2, q3, q4, q5, q6⟩ | ⟨A', D', rfl, q1, q2, q3, q4⟩)
  · exact ⟨_, _, As ++ A', rfl, by simpa [List.append_assoc] using q6, .inl ⟨s, As, A', D', rfl, rfl, rfl, q1, q2, q3, q4, q5⟩⟩
  · exact ⟨_, _, A', rfl, q4, .inr ⟨D', rfl, rfl, q1, q2, q3⟩⟩

set_option maxRecDepth 100000 in
set_option maxHeartbeats 4000000 in
theorem happend_any (C : Ctx S E B P) (hM : HlM h H A) (hO : HotOn D.un H b0 l) (hD : DkM P H.d D Ad) {L0 : List (Nat × Sg)} (hL : H.L = L0 ++ [(s, G)]) (x : Bt) (hxo : BtOk x) (hxb : BtBy x) (v : Value) (hv : Pers P (fun w => BtV w v x))
    (hb : x.b = endOf b0 l) (he : epOf 0 l ≤ x.e) (hroom : D.used + szB x ≤ D.room) (hn : D.n < 1000000) (hH : Hp w P (A ++ (Ad ++ F))) :
    Calls Tryz.prog 37 #[ptr h, v] w fun e w' => (e = .returned .nilIface ∧ ∃ P' A' Ad' D' H', Sub P P' ∧ HlM h H' A' ∧ DkM P' H.d D' Ad' ∧ HotOn D'.un H' b0 (l ++ [x]) ∧ Apd H H' D.un D'.un x ∧ PowOn D D' ∧ H.low ≤ H'.low ∧ Hp w' P' (A' ++ (Ad' ++ F))) ∨ (e = .returned (crashE E) ∧ ∃ P' A' Ad' D' H', Sub P P' ∧ HlM h H' A' ∧ DkM P' H.d D' Ad' ∧ ApGone D D' H H' b0 l ∧ Hp w' P' (A' ++ (Ad' ++ F))) := by
  obtain ⟨rs, rfl, h2⟩ := hH.use hv
  obtain ⟨ra, rc, rfl⟩ := h2.shape
  have hW := hO.W
  have hne : H.L ≠ [] := by rw [hL]; simp
  have hgm : (s, G) ∈ H.L := by rw [hL]; simp
  obtain ⟨hGO, hGd, hGe, hGn⟩ := hO.sg _ hgm
  dsimp only at hGO hGd hGe hGn
  have hend := hO.hend hne
  have hxend : H.end_ = x.b := by rw [hend, hb]
  have hsm := hO.small
  have hGend : G.end_ = x.b := by rw [← hxend]; simp [Hl.end_, hL]
  have hlast : H.ep = epOf 0 l := by unfold Hl.ep; rw [hO.fl]
  have hsplit := hO.split (L2 := []) hL
  have hl0 : l = (L0.map (·.2.l)).flatten ++ G.l := by have := hsplit.2.2.2.2; simpa using this
  have hfoll : G.foll x = true := by
    unfold Sg.foll
    rw [Bool.and_eq_true, decide_eq_true_eq, decide_eq_true_eq]
    refine ⟨hGend.symm, ?_⟩
    rw [lastE_eq]
    rcases snoc_cases G.l with h0 | ⟨g0, y, h0⟩
    · rw [h0]; show (0 : Int) ≤ x.e; exact hxo.e0
    · rw [h0, epOf_snoc]
      rw [hl0, h0, ← List.append_assoc, epOf_snoc] at he
      exact he
  have hchx : Chain b0 0 (l ++ [x]) := (chain_app _ _ _ _).2 ⟨hO.ch, hb, he, trivial⟩
  have hsz := szB_le x hxo
  have hused := hO.used
  have hrm := hO.room
  have hl0n : L0.length ≤ 1000000 := by have := hsm.2; rw [hL] at this; simp at this; omega
  have hH0 := box_mid hH (.cells #[.int .i64 x.b, .int .i64 x.e, .slice ra x.r.length rc] 38)
  obtain ⟨a, c, hc, hat⟩ := hM.at_
  obtain ⟨-, -, -, c3, -, -, -⟩ := hat _ P _ hH0
  have hbox : ∀ w' P' M, Hp w' P' M → (w.heap.size, Obj.cells #[.int .i64 x.b, .int .i64 x.e, .slice ra x.r.length rc] 38 (0, 0)) ∈ M →
      w'.cell? ⟨w.heap.size, 0, none⟩ = some (.int .i64 x.b) ∧ w'.cell? ⟨w.heap.size, 1, none⟩ = some (.int .i64 x.e) ∧ w'.cell? ⟨w.heap.size, 2, none⟩ = some (.slice ra x.r.length rc) := fun w' P' M hx hm =>
    ⟨hx.cell hm rfl, hx.cell hm rfl, hx.cell hm rfl⟩
  obtain ⟨hlc, hlcd⟩ : ∃ m, H.L.length = m := ⟨_, rfl⟩
  have hlp : 0 < hlc := by rw [← hlcd, hL]; simp
  have hat : ∀ w' P' F', Hp w' P' (A ++ F') → w'.cell? ⟨h, 0, none⟩ = some (ptr H.d) ∧ w'.cell? ⟨h, 1, none⟩ = some (.int .i64 H.seg) ∧ w'.cell? ⟨h, 2, none⟩ = some (.int .i64 H.every) ∧ w'.cell? ⟨h, 3, none⟩ = some (.slice a hlc c) := fun w' P' F' hx => by
    obtain ⟨z0, z1, z2, z3, -⟩ := hat w' P' F' hx
    rw [hlcd] at z3
    exact ⟨z0, z1, z2, z3⟩
  rw [hlcd] at c3 hc
  have w4 : ((hlc : Int) == 0) = false := beq_eq_false_iff_ne.2 (by omega)
  have hep0 : ¬ x.e < H.ep := by rw [hlast]; omega
  have H0 := Lib.hid hH0
  have HV := Lib.hid hv
  have HB := Lib.hid hbox
  have HK := Lib.hid hxo
  have HEND := Lib.hid hxend
  have HLN := Lib.hid hlcd
  have HFO := Lib.hid hfoll
  have HCH := Lib.hid hchx
  have HL := Lib.hid hL
  have HL0 := Lib.hid hl0
  have HAT := Lib.hid hat
  have HO := Lib.hid hO
  have HXB := Lib.hid hb
  have HGO := Lib.hid hGO
  have HGD := Lib.hid hGd
  have HGEND := Lib.hid hGend
  have HW := Lib.hid hW
  have HRM := Lib.hid hroom
  obtain ⟨ep, hep⟩ : ∃ ep, H.ep = ep := ⟨_, rfl⟩
  rw [hep] at hep0
  have HEP := Lib.hid hep
  clear hH hH0 hv hbox hxo h2 hxend hlcd hfoll hchx hL hl0 hat hO hb hGO hGd hGend hW hlast hend hsplit hep hroom he hGn hGe hgm hne
  go_enter Tryz.func37, Tryz.ntmps37
  go_wp2_with fail
  refine (valid_any (C.all 3 (by decide)) (C.all 4 (by decide)) x (by have := HK.out.n64; omega) _ _ (H0.out.use C.errs) (H0.out.use HV.out)).mono ?_
  rintro e w1 ⟨rfl, hb1⟩
  rw [HK.out.code, ev_zero]
  have hH1 := H0.out.below hb1 (Nat.le_refl _)
  obtain ⟨k0, k1, k2⟩ := HB.out _ _ _ hH1 (by simp)
  have H1 := Lib.hid hH1
  clear hb1 hH1 c3
  go_wp2_with fail
  go_region_held3 (fun w' => w'.cell? ⟨w.heap.size, 0, none⟩ = some (.int .i64 x.b) ∧ w'.cell? ⟨w.heap.size, 1, none⟩ = some (.int .i64 x.e))
    (first
      | go_keep
      | exact ⟨k0, k1⟩)
    (first
      | (go_at_call 32
         with_reducible refine (hend_ok hM HW.out H1.out.drew).mono ?_
         rintro e w2 ⟨rfl, hH2⟩
         rw [HEND.out]
         obtain ⟨k0, k1, k2⟩ := HB.out _ _ _ hH2 (by simp))
      | (go_at_call 88
         with_reducible refine (hepoch_ok hM HW.out (by have := HO.out.small; have := HO.out.fl; rw [this]; omega) hH2).mono ?_
         rintro e w3 ⟨rfl, hH3⟩
         rw [HEP.out]
         obtain ⟨k0, k1, k2⟩ := HB.out _ _ _ hH3 (by simp)))
  have H3 := Lib.hid hH3
  clear hH2 hH3
  go_wp2_with fail
  refine (hlast_ok hM HL.out hl0n H3.out).mono ?_
  rintro e w4 ⟨rfl, hH4⟩
  obtain ⟨k0, k1, k2⟩ := HB.out _ _ _ hH4 (by simp)
  obtain ⟨-, c1, -, -⟩ := HAT.out _ P _ hH4
  obtain ⟨A1, R, hG1, hp, hput⟩ := hM.focus (l2 := []) HL.out
  obtain ⟨z, hz⟩ : ∃ z, sizes G.l = z := ⟨_, rfl⟩
  have HZ := Lib.hid hz
  have HP := Lib.hid hp
  have HPUT := Lib.hid hput
  have H4 := Lib.hid hH4
  obtain ⟨q, hq⟩ : ∃ q, szB x = q := ⟨_, rfl⟩
  have HQ := Lib.hid hq
  rw [hq] at hsz
  have HGW : Hid (SgW G) := HW.out.g (s, G) (by rw [HL.out]; simp)
  have HDG : Hid (DkM P G.d D Ad) := by show DkM P G.d D Ad; rw [HGD.out]; exact hD
  have hsg0 : (0 : Int) ≤ (H.seg : Int) := by omega
  have hzb : z ≤ 4194304 := by have := HGO.out.size; omega
  have hcs : z = 0 ∨ (0 < z ∧ z + q ≤ H.seg) ∨ (0 < z ∧ H.seg < z + q) := by omega
  clear hz hp hput hH4 hq
  rcases hcs with hz0 | ⟨hzp, hfit⟩ | ⟨hzp, hrol⟩
  case' inl =>
    subst hz0
    have HNO : Hid (¬ (0 < sizes G.l ∧ H.seg < sizes G.l + szB x)) := by show ¬ _; rw [HZ.out]; omega
    clear k0 k1 k2 c1
    go_wp2_with fail
    refine wp_region_hp (by kernel_rfl) (by decide) _ _ H4.out (fun i _ v => match i with | 0 => v = ptr s | 1 => v = .int .i64 0 | 2 => v = .bool false | 3 => v = .bool false | 4 => v = undef | 5 => v = undef | 6 => v = undef | 7 => v = undef | 8 => v = undef | 9 => v = undef | 10 => v = undef | 11 => v = undef | 12 => v = undef | 13 => v = undef | 14 => v = undef | 15 => v = .bool false | _ => True) (by intro i P P' v _ h; exact h) ?_ ?_
    · intro i o ho u wq Pq hsq hHq hp K hK
      rcases i with _ | _ | _ | _ | _ | _ | _ | _ | _ | _ | _ | _ | _ | _ | _ | _ | i
      · cases ho
        simp only [frOf, Act.put, List.setIfInBounds_toArray, List.set_cons_zero, List.set_cons_succ, Nat.zero_add, Nat.reduceAdd] at hK ⊢
        go_simp
        exact hK _ wq Pq (Sub.refl _) hHq rfl
      · cases ho
        have h0 : u 0 = ptr s := hp ⟨0, .data⟩ (by simp) rfl
        simp only [frOf, Act.put, List.setIfInBounds_toArray, List.set_cons_zero, List.set_cons_succ, Nat.zero_add, Nat.reduceAdd] at hK ⊢
        simp only [h0] at hK ⊢
        go_simp
        with_reducible refine (ssize_any hG1 HGW.out (hHq.perm (HP.out _))).mono ?_
        rintro e w9 ⟨rfl, hH9⟩
        rw [HZ.out]
        exact hK _ _ Pq (Sub.refl _) (hH9.perm (HP.out _).symm) rfl
      · cases ho
        have h1 : u 1 = .int .i64 0 := hp ⟨1, .data⟩ (by simp) rfl
        simp only [frOf, Act.put, List.setIfInBounds_toArray, List.set_cons_zero, List.set_cons_succ, Nat.zero_add, Nat.reduceAdd] at hK ⊢
        simp only [h1] at hK ⊢
        go_simp
        exact hK _ wq Pq (Sub.refl _) hHq rfl
      · cases ho
        have h2 : u 2 = .bool false := hp ⟨2, .data⟩ (by simp) rfl
        simp only [frOf, Act.put, List.setIfInBounds_toArray, List.set_cons_zero, List.set_cons_succ, Nat.zero_add, Nat.reduceAdd] at hK ⊢
        simp only [h2] at hK ⊢
        go_simp
        exact hK _ wq Pq (Sub.refl _) hHq rfl
      · cases ho
        have h3 : u 3 = .bool false := hp ⟨3, .guard⟩ (by simp) rfl
        simp only [frOf, Act.put, List.setIfInBounds_toArray, List.set_cons_zero, List.set_cons_succ, Nat.zero_add, Nat.reduceAdd] at hK ⊢
        simp only [h3]
        first | exact trivial | (go_simp; done) | (rw [if_neg (by decide)]; trivial) | (rw [if_neg (Bool.not_eq_true _ ▸ (by kernel_rfl))]; trivial)
      · cases ho
        have h4 : u 4 = undef := hp ⟨4, .data⟩ (by simp) rfl
        have h3 : u 3 = .bool false := hp ⟨3, .guard⟩ (by simp) rfl
        simp only [frOf, Act.put, List.setIfInBounds_toArray, List.set_cons_zero, List.set_cons_succ, Nat.zero_add, Nat.reduceAdd] at hK ⊢
        simp only [h4, h3]
        first | exact trivial | (go_simp; done) | (rw [if_neg (by decide)]; trivial) | (rw [if_neg (Bool.not_eq_true _ ▸ (by kernel_rfl))]; trivial)
      · cases ho
        have h3 : u 3 = .bool false := hp ⟨3, .guard⟩ (by simp) rfl
        simp only [frOf, Act.put, List.setIfInBounds_toArray, List.set_cons_zero, List.set_cons_succ, Nat.zero_add, Nat.reduceAdd] at hK ⊢
        simp only [h3]
        first | exact trivial | (go_simp; done) | (rw [if_neg (by decide)]; trivial) | (rw [if_neg (Bool.not_eq_true _ ▸ (by kernel_rfl))]; trivial)
      · cases ho
        have h6 : u 6 = undef := hp ⟨6, .data⟩ (by simp) rfl
        have h3 : u 3 = .bool false := hp ⟨3, .guard⟩ (by simp) rfl
        simp only [frOf, Act.put, List.setIfInBounds_toArray, List.set_cons_zero, List.set_cons_succ, Nat.zero_add, Nat.reduceAdd] at hK ⊢
        simp only [h6, h3]
        first | exact trivial | (go_simp; done) | (rw [if_neg (by decide)]; trivial) | (rw [if_neg (Bool.not_eq_true _ ▸ (by kernel_rfl))]; trivial)
      · cases ho
        have h5 : u 5 = undef := hp ⟨5, .data⟩ (by simp) rfl
        have h7 : u 7 = undef := hp ⟨7, .data⟩ (by simp) rfl
        have h3 : u 3 = .bool false := hp ⟨3, .guard⟩ (by simp) rfl
        simp only [frOf, Act.put, List.setIfInBounds_toArray, List.set_cons_zero, List.set_cons_succ, Nat.zero_add, Nat.reduceAdd] at hK ⊢
        simp only [h5, h7, h3]
        first | exact trivial | (go_simp; done) | (rw [if_neg (by decide)]; trivial) | (rw [if_neg (Bool.not_eq_true _ ▸ (by kernel_rfl))]; trivial)
      · cases ho
        have h3 : u 3 = .bool false := hp ⟨3, .guard⟩ (by simp) rfl
        simp only [frOf, Act.put, List.setIfInBounds_toArray, List.set_cons_zero, List.set_cons_succ, Nat.zero_add, Nat.reduceAdd] at hK ⊢
        simp only [h3]
        first | exact trivial | (go_simp; done) | (rw [if_neg (by decide)]; trivial) | (rw [if_neg (Bool.not_eq_true _ ▸ (by kernel_rfl))]; trivial)
      · cases ho
        have h9 : u 9 = undef := hp ⟨9, .data⟩ (by simp) rfl
        have h3 : u 3 = .bool false := hp ⟨3, .guard⟩ (by simp) rfl
        simp only [frOf, Act.put, List.setIfInBounds_toArray, List.set_cons_zero, List.set_cons_succ, Nat.zero_add, Nat.reduceAdd] at hK ⊢
        simp only [h9, h3]
        first | exact trivial | (go_simp; done) | (rw [if_neg (by decide)]; trivial) | (rw [if_neg (Bool.not_eq_true _ ▸ (by kernel_rfl))]; trivial)
      · cases ho
        have h10 : u 10 = undef := hp ⟨10, .data⟩ (by simp) rfl
        have h3 : u 3 = .bool false := hp ⟨3, .guard⟩ (by simp) rfl
        simp only [frOf, Act.put, List.setIfInBounds_toArray, List.set_cons_zero, List.set_cons_succ, Nat.zero_add, Nat.reduceAdd] at hK ⊢
        simp only [h10, h3]
        first | exact trivial | (go_simp; done) | (rw [if_neg (by decide)]; trivial) | (rw [if_neg (Bool.not_eq_true _ ▸ (by kernel_rfl))]; trivial)
      · cases ho
        have h11 : u 11 = undef := hp ⟨11, .data⟩ (by simp) rfl
        have h3 : u 3 = .bool false := hp ⟨3, .guard⟩ (by simp) rfl
        simp only [frOf, Act.put, List.setIfInBounds_toArray, List.set_cons_zero, List.set_cons_succ, Nat.zero_add, Nat.reduceAdd] at hK ⊢
        simp only [h11, h3]
        first | exact trivial | (go_simp; done) | (rw [if_neg (by decide)]; trivial) | (rw [if_neg (Bool.not_eq_true _ ▸ (by kernel_rfl))]; trivial)
      · cases ho
        have h12 : u 12 = undef := hp ⟨12, .data⟩ (by simp) rfl
        have h3 : u 3 = .bool false := hp ⟨3, .guard⟩ (by simp) rfl
        simp only [frOf, Act.put, List.setIfInBounds_toArray, List.set_cons_zero, List.set_cons_succ, Nat.zero_add, Nat.reduceAdd] at hK ⊢
        simp only [h12, h3]
        first | exact trivial | (go_simp; done) | (rw [if_neg (by decide)]; trivial) | (rw [if_neg (Bool.not_eq_true _ ▸ (by kernel_rfl))]; trivial)
      · cases ho
        have h8 : u 8 = undef := hp ⟨8, .data⟩ (by simp) rfl
        have h13 : u 13 = undef := hp ⟨13, .data⟩ (by simp) rfl
        have h3 : u 3 = .bool false := hp ⟨3, .guard⟩ (by simp) rfl
        simp only [frOf, Act.put, List.setIfInBounds_toArray, List.set_cons_zero, List.set_cons_succ, Nat.zero_add, Nat.reduceAdd] at hK ⊢
        simp only [h8, h13, h3]
        first | exact trivial | (go_simp; done) | (rw [if_neg (by decide)]; trivial) | (rw [if_neg (Bool.not_eq_true _ ▸ (by kernel_rfl))]; trivial)
      · cases ho
        have h3 : u 3 = .bool false := hp ⟨3, .data⟩ (by simp) rfl
        have h14 : u 14 = undef := hp ⟨14, .data⟩ (by simp) rfl
        simp only [frOf, Act.put, List.setIfInBounds_toArray, List.set_cons_zero, List.set_cons_succ, Nat.zero_add, Nat.reduceAdd] at hK ⊢
        simp only [h3, h14] at hK ⊢
        go_simp
        exact hK _ wq Pq (Sub.refl _) hHq rfl
      · exact absurd ho (by simp)
    intro u wq Pq hsq hHq hR
    have h15 : u 15 = .bool false := hR 15 (by decide)
    simp only [frOf, List.setIfInBounds_toArray, List.set_cons_zero, List.set_cons_succ, Nat.zero_add, Nat.reduceAdd]
    simp only [h15]
    have H5 := Lib.hid (hHq.weaken hsq)
    clear hR hHq hsq h15
    obtain ⟨k0, k1, k2⟩ := HB.out _ _ _ H5.out (by simp)
    go_wp2_with fail
  case' inr.inl =>
    have HNO : Hid (¬ (0 < sizes G.l ∧ H.seg < sizes G.l + szB x)) := by show ¬ _; rw [HZ.out, HQ.out]; omega
    have i1 : (0 : Int) < (z : Int) := by omega
    have i2 : ¬ (H.seg : Int) < (z : Int) + (q : Int) := by omega
    have i3 : IntKind.i64.wrap ((z : Int) + (q : Int)) = (z : Int) + (q : Int) := IntWalk.i64_in _ (by omega)
    go_wp2_with fail
    go_region_held3 (fun w' => w'.cell? ⟨w.heap.size, 0, none⟩ = some (.int .i64 x.b) ∧ w'.cell? ⟨w.heap.size, 1, none⟩ = some (.int .i64 x.e) ∧ w'.cell? ⟨w.heap.size, 2, none⟩ = some (.slice ra x.r.length rc) ∧ w'.cell? ⟨h, 1, none⟩ = some (.int .i64 H.seg))
      (first
        | go_keep
        | exact ⟨k0, k1, k2, c1⟩)
      (first
        | (go_at_call 18
           with_reducible refine (ssize_any hG1 HGW.out (H4.out.drew.perm (HP.out _))).mono ?_
           rintro e w5 ⟨rfl, hHa⟩
           rw [HZ.out]
           have hHd := hHa.perm (HP.out _).symm
           obtain ⟨k0, k1, k2⟩ := HB.out _ _ _ hHd (by simp)
           obtain ⟨-, c1, -, -⟩ := HAT.out _ P _ hHd)
        | (go_at_call 18
           with_reducible refine (ssize_any hG1 HGW.out hHa).mono ?_
           rintro e w6 ⟨rfl, hHb⟩
           rw [HZ.out]
           have hHe := hHb.perm (HP.out _).symm
           have hbv : BtV w6 (.agg #[.int .i64 x.b, .int .i64 x.e, .slice ra x.r.length rc]) x := hHe.use HV.out
           obtain ⟨k0, k1, k2⟩ := HB.out _ _ _ hHe (by simp)
           obtain ⟨-, c1, -, -⟩ := HAT.out _ P _ hHe)
        | (go_at_call 89
           with_reducible refine (size_q C x HK.out hxb _ hbv hHe q HQ.out).mono ?_
           rintro e w7 ⟨rfl, hHc⟩
           obtain ⟨k0, k1, k2⟩ := HB.out _ _ _ hHc (by simp)
           obtain ⟨-, c1, -, -⟩ := HAT.out _ P _ hHc))
    have H5 := Lib.hid hHc
    clear hHa hHb hHc hHd hHe hbv
    go_wp2_with fail
  case' inr.inr =>
    have HYES : Hid (0 < sizes G.l ∧ H.seg < sizes G.l + szB x) := by show _ ∧ _; rw [HZ.out, HQ.out]; omega
    have i1 : (0 : Int) < (z : Int) := by omega
    have i2 : (H.seg : Int) < (z : Int) + (q : Int) := by omega
    have i3 : IntKind.i64.wrap ((z : Int) + (q : Int)) = (z : Int) + (q : Int) := IntWalk.i64_in _ (by omega)
    go_wp2_with fail
    go_region_held3 (fun w' => w'.cell? ⟨w.heap.size, 0, none⟩ = some (.int .i64 x.b) ∧ w'.cell? ⟨w.heap.size, 1, none⟩ = some (.int .i64 x.e) ∧ w'.cell? ⟨w.heap.size, 2, none⟩ = some (.slice ra x.r.length rc) ∧ w'.cell? ⟨h, 1, none⟩ = some (.int .i64 H.seg))
      (first
        | go_keep
        | exact ⟨k0, k1, k2, c1⟩)
      (first
        | (go_at_call 18
           with_reducible refine (ssize_any hG1 HGW.out (H4.out.drew.perm (HP.out _))).mono ?_
           rintro e w5 ⟨rfl, hHa⟩
           rw [HZ.out]
           have hHd := hHa.perm (HP.out _).symm
           obtain ⟨k0, k1, k2⟩ := HB.out _ _ _ hHd (by simp)
           obtain ⟨-, c1, -, -⟩ := HAT.out _ P _ hHd)
        | (go_at_call 18
           with_reducible refine (ssize_any hG1 HGW.out hHa).mono ?_
           rintro e w6 ⟨rfl, hHb⟩
           rw [HZ.out]
           have hHe := hHb.perm (HP.out _).symm
           have hbv : BtV w6 (.agg #[.int .i64 x.b, .int .i64 x.e, .slice ra x.r.length rc]) x := hHe.use HV.out
           obtain ⟨k0, k1, k2⟩ := HB.out _ _ _ hHe (by simp)
           obtain ⟨-, c1, -, -⟩ := HAT.out _ P _ hHe)
        | (go_at_call 89
           with_reducible refine (size_q C x HK.out hxb _ hbv hHe q HQ.out).mono ?_
           rintro e w7 ⟨rfl, hHc⟩
           obtain ⟨k0, k1, k2⟩ := HB.out _ _ _ hHc (by simp)
           obtain ⟨-, c1, -, -⟩ := HAT.out _ P _ hHc))
    have H5 := Lib.hid hHc
    clear hHa hHb hHc hHd hHe hbv
    go_wp2_with fail
    have hHs : Hp _ P (A1 ++ (Ad ++ (R ++ ((w.heap.size, .cells #[.int .i64 x.b, .int .i64 x.e, .slice ra x.r.length rc] 38 (0, 0)) :: F)))) := (H5.out.perm (HP.out _)).perm (List.Perm.append_left A1 (perm_mid R Ad _))
    have hnu : D.un.n < 1000000 := hn
    by_cases hok : D.ok = true
    case neg =>
      have hok' : D.ok = false := by simpa using hok
      refine (ssync_x C hok' hG1 (by have := HGO.out.nm; omega) HDG.out hHs).mono ?_
      rintro e w8 ⟨rfl, Ad8, hD8, hH8⟩
      have hH9 := (hH8.perm (List.Perm.append_left A1 (perm_mid Ad8 R _))).perm (HP.out _).symm
      have HFIN : Hid (∃ P' A' Ad' D' H', Sub P P' ∧ HlM h H' A' ∧ DkM P' H.d D' Ad' ∧ ApGone D D' H H' b0 l ∧ Hp w8 P' (A' ++ (Ad' ++ F))) := ⟨P, A, Ad8, D.beg, H, Sub.refl _, hM, by rw [← HGD.out]; exact hD8, ⟨beg_off hok', rfl, rfl, rfl, by rw [HL.out]; simp, Int.le_refl _, beg_nr D, .inl (by rw [beg_un]; exact HO.out)⟩, box_off hH9⟩
      clear hHs hD8 hH8 hH9 hok hok' k0 k1 k2 c1
      go_wp2_with fail
      go_ret
      exact .inr ⟨rfl, HFIN.out⟩
    refine (ssync_k C hok hG1 HGO.out HDG.out hHs).mono ?_
    rintro e w8 ⟨rfl, A8, Ad8, D8, hG8, hD8, hO8, hsm8, hu8, hl8, hpo8, hH8⟩
    have HPO8 := Lib.hid hpo8
    clear hok hpo8
    obtain ⟨A9, hM9, hp9⟩ := HPUT.out G.syn A8 hG8
    have hO9 := HO.out.sync HL.out hO8 hsm8 hu8 hl8
    have hH9 : Hp w8 P (Ad8 ++ (A9 ++ ((w.heap.size, .cells #[.int .i64 x.b, .int .i64 x.e, .slice ra x.r.length rc] 38 (0, 0)) :: F))) := by
      have h1 := hH8.perm (List.Perm.append_left A8 (perm_mid Ad8 R _))
      have h2 := h1.perm (hp9 _)
      exact Hp.mid h2
    obtain ⟨bn, hbn⟩ : ∃ bn : Nat, x.b = (bn : Int) := ⟨x.b.toNat, by have := HK.out.b0; omega⟩
    have hend9 : Hl.end_ { H with L := L0 ++ [(s, G.syn)] } = (bn : Int) := by
      rw [← hbn, ← HGEND.out]; simp [Hl.end_, Sg.syn, Sg.end_]
    have hfull9 : ∀ K0 s' G', (L0 ++ [(s, G.syn)]) = K0 ++ [(s', G')] → G'.l ≠ [] ∧ G'.kept = sizes G'.l := by
      intro K0 s' G' e
      obtain ⟨-, e2⟩ := List.append_inj' e rfl
      have e3 : G.syn = G' := by simp at e2; exact e2.2
      rw [← e3]
      refine ⟨fun h0 => ?_, rfl⟩
      have h0' : G.l = [] := h0
      have := HZ.out
      rw [h0'] at this
      simp [sizes] at this
      omega
    have hb9 : (bn : Int) = endOf b0 l := by rw [← hbn]; exact HXB.out
    have hbn1 : bn ≤ 1099511627776 := by have := HK.out.b1; omega
    obtain ⟨hnew9, hlk9⟩ := hO9.fresh (fun K0 s' G' e => (hfull9 K0 s' G' e).1) bn hb9 hbn1
    obtain ⟨a9, c9, hc9, hat9⟩ := hM9.at_
    obtain ⟨y0, -, y2, -⟩ := hat9 _ P _ (Hp.mid hH9)
    have hHb9 := HB.out _ _ _ hH9 (by simp)
    have H9 := Lib.hid hH9
    have HM9 := Lib.hid hM9
    have HO9 := Lib.hid hO9
    have HD9 := Lib.hid (show DkM P H.d D8 Ad8 from by have := hD8; rw [HGD.out] at this; exact this)
    have HSM8 := Lib.hid hsm8
    have HU8 := Lib.hid hu8
    have HEND9 := Lib.hid hend9
    have HFULL9 := Lib.hid hfull9
    have HNEW9 := Lib.hid hnew9
    have HLK9 := Lib.hid hlk9
    have HB9 := Lib.hid hb9
    have HBN := Lib.hid hbn
    have HAT9 := Lib.hid hat9
    have hn8 : D8.n ≤ 1000000 := by have h1 : D8.n = D.n := hsm8.n; omega
    have hnl8 : D8.nm.length < 1000000 := by have h1 : D8.nm.length = _ := hO9.nml; have := hO9.small.2; omega
    have hc8 : D8.ch.length ≤ 1000000 := by have h1 : D8.ch.length = 0 := hO9.c0; omega
    have hr8 : D8.room ≤ 4194304 := hO9.room
    have hus8 : D8.used ≤ D8.room := hO9.used
    have hlk8 : D8.look (segNm bn) = none := hlk9
    have HN8 := Lib.hid hn8
    have HNL8 := Lib.hid hnl8
    have HC8 := Lib.hid hc8
    have HR8 := Lib.hid hr8
    have HUS8 := Lib.hid hus8
    have HLK8 := Lib.hid hlk8
    have hfin9 : ∀ p, p ∈ (L0 ++ [(s, G.syn)]) → p.2.l ≠ [] ∧ p.2.kept = sizes p.2.l := fun p hp => by
      have hk := hO9.lk
      rw [show Hl.L { H with L := L0 ++ [(s, G.syn)] } = L0 ++ [(s, G.syn)] from rfl, List.map_append] at hk
      rcases List.mem_append.1 hp with hp | hp
      · exact hk.full (by simp) p.2 (List.mem_map.2 ⟨p, hp, rfl⟩)
      · rw [List.mem_singleton.1 hp]; exact hfull9 L0 s G.syn rfl
    have HFIN9 := Lib.hid hfin9
    clear hn8 hnl8 hc8 hr8 hus8 hlk8 hfin9
    have he1 := HO.out.e1
    have he2 := HO.out.e2
    clear hHs hH8 hH9 hM9 hO9 hD8 hO8 hG8 hsm8 hu8 hl8 hend9 hfull9 hnew9 hlk9 hb9 hbn hat9 hp9 hHb9 k0 k1 k2 c1
    go_wp2_with fail
    go_region_held3 (fun w' => w'.cell? ⟨h, 0, none⟩ = some (ptr H.d) ∧ w'.cell? ⟨h, 2, none⟩ = some (.int .i64 H.every))
      (first
        | go_keep
        | exact ⟨y0, y2⟩)
      (first
        | (go_at_call 32
           with_reducible refine (hend_ok HM9.out HO9.out.W (Hp.mid H9.out.drew)).mono ?_
           rintro e w10 ⟨rfl, hHa⟩
           rw [HEND9.out]
           obtain ⟨y0, -, y2, -⟩ := HAT9.out _ P _ hHa)
        | (go_at_call 90
           with_reducible refine (screate_two C HD9.out HO9.out.I bn hbn1 H.every he1 he2 HLK8.out HN8.out HNL8.out HC8.out HR8.out HUS8.out (Hp.mid hHa)).mono ?_
           rintro e w11 ⟨pv, qv, M11, rfl, hHb, hor⟩
           obtain ⟨y0, -, y2, -⟩ := HAT9.out _ P _ (Hp.mid hHb)))
    rcases hor with ⟨s2, A11, Ad11, D11, hp0, hq0, hM0, hG11, hD11, hO11, hMd, hpo11⟩ | ⟨D11, hp0, hq0, hD11, hpo11, hpe⟩
    case' inr =>
      subst hp0 hq0
      have hH9' := Hp.mid hHb
      have HFIN : Hid (∃ P' A' Ad' D' H', Sub P P' ∧ HlM h H' A' ∧ DkM P' H.d D' Ad' ∧ ApGone D D' H H' b0 l ∧ Hp w11 P' (A' ++ (Ad' ++ F))) := ⟨P, A9, M11, D11, { H with L := L0 ++ [(s, G.syn)] }, Sub.refl _, HM9.out, hD11, ⟨PowOff.after HPO8.out hpo11, rfl, rfl, rfl, by simp, Int.le_trans (HO.out.low_le HL.out) (Int.le_of_eq (HO.out.low_syn HL.out).symm), pend_nr hpe HSM8.out, hpe.elim (fun h => .inl (by rw [h]; exact HO9.out)) (fun ⟨b, h⟩ => .inr ⟨D8.un, bn, b, HO9.out, h, HB9.out, HFIN9.out⟩)⟩, box_off hH9'⟩
      clear hHa hHb hH9' hD11 hpo11 hpe y0 y2
      go_wp2_with fail
      go_ret
      exact .inr ⟨rfl, HFIN.out⟩
    subst hp0 hq0 hM0
    have HPO11 := Lib.hid hpo11
    have hHc : Hp w11 P (A9 ++ (A11 ++ (Ad11 ++ ((w.heap.size, .cells #[.int .i64 x.b, .int .i64 x.e, .slice ra x.r.length rc] 38 (0, 0)) :: F)))) := by
      have := Hp.mid (A := A11 ++ Ad11) (B := A9) (C := (w.heap.size, .cells #[.int .i64 x.b, .int .i64 x.e, .slice ra x.r.length rc] 38 (0, 0)) :: F) (by simpa [List.append_assoc] using hHb)
      simpa [List.append_assoc] using this
    clear hpo11
    obtain ⟨lv, Al, As, hA9, hr9, hS9⟩ := HM9.out
    obtain ⟨la, lc, rfl⟩ := hr9.shape
    obtain ⟨n9, hn9⟩ : ∃ n9, (L0 ++ [(s, G.syn)]).length = n9 := ⟨_, rfl⟩
    have hr9' : RowM 41 1 (.slice la n9 lc) n9 (ptrsL (L0 ++ [(s, G.syn)])) Al := by rw [← hn9]; exact hr9
    have hn9l : n9 ≤ 1000000 := by rw [← hn9]; have := HO9.out.small.2; exact Nat.le_trans this (by omega)
    rw [show (Hl.L { H with L := L0 ++ [(s, G.syn)] }).length = n9 from hn9] at hA9
    rw [hA9] at hHc
    have hHd : Hp w11 P (Al ++ ((h, Obj.cells (hlCells { H with L := L0 ++ [(s, G.syn)] } (.slice la n9 lc)) 119 (0, 0)) :: (As ++ (A11 ++ (Ad11 ++ ((w.heap.size, .cells #[.int .i64 x.b, .int .i64 x.e, .slice ra x.r.length rc] 38 (0, 0)) :: F)))))) := by
      have := perm_mid [(h, Obj.cells (hlCells { H with L := L0 ++ [(s, G.syn)] } (.slice la n9 lc)) 119 (0, 0))] Al (As ++ (A11 ++ (Ad11 ++ ((w.heap.size, .cells #[.int .i64 x.b, .int .i64 x.e, .slice ra x.r.length rc] 38 (0, 0)) :: F))))
      exact hHc.perm (by simpa [List.append_assoc] using this)
    have z3 : w11.cell? ⟨h, 3, none⟩ = some (.slice la n9 lc) := (@Hp.cell _ _ _ hHd h (hlCells { H with L := L0 ++ [(s, G.syn)] } (.slice la n9 lc)) 119 (0, 0) (by simp)) (i := 3) rfl
    have H11 := Lib.hid hHd
    have HR9 := Lib.hid hr9'
    have HS9 := Lib.hid hS9
    have HG11 := Lib.hid hG11
    have HD11 := Lib.hid hD11
    have HO11 := Lib.hid hO11
    have HMD := Lib.hid hMd
    have HN9 := Lib.hid hn9
    clear hHa hHb hHc hHd hr9 hr9' hS9 hG11 hD11 hO11 hMd hn9 hA9 y0 y2
    go_wp2_with (at_builtin; refine wpList_push_hp rfl _ _ _ rfl 41 _ 1 8 Tryz.underlying117 infoSp rfl (by omega) (.slice la n9 lc) n9 (ptrsL (L0 ++ [(s, G.syn)])) rfl H11.out HR9.out #[ptr s2] rfl rfl (by intro u hu; simp at hu; subst hu; rfl) (by omega) (by omega) ?_)
    intro g7 c7 w12 A12 hr12 hH12
    have hH13 := Hp.mid (A := A12) (B := [(h, Obj.cells (hlCells { H with L := L0 ++ [(s, G.syn)] } (.slice la n9 lc)) 119 (0, 0))]) hH12
    have f3 := @Hp.frozen _ _ _ hH13 h (hlCells { H with L := L0 ++ [(s, G.syn)] } (.slice la n9 lc)) 119 (by simp) 3
    have z3' : w12.cell? ⟨h, 3, none⟩ = some (.slice la n9 lc) := (@Hp.cell _ _ _ hH13 h (hlCells { H with L := L0 ++ [(s, G.syn)] } (.slice la n9 lc)) 119 (0, 0) (by simp)) (i := 3) rfl
    have H13 := Lib.hid hH13
    have HR12 := Lib.hid hr12
    clear hH12 hH13 hr12 z3
    go_wp2_with fail
    have hz := Hp.set (M := A12 ++ (As ++ (A11 ++ (Ad11 ++ ((w.heap.size, .cells #[.int .i64 x.b, .int .i64 x.e, .slice ra x.r.length rc] 38 (0, 0)) :: F))))) H13.out 3 (.slice (some ⟨g7, 0, none⟩) (n9 + 1) c7)
    have hM14 := HlM.pushed (h := h) (s := s2) (H := { H with L := L0 ++ [(s, G.syn)] }) HN9.out.symm HR12.out HS9.out HG11.out
    have hO14 := HO9.out.more HFULL9.out bn HB9.out s2 HO11.out HMD.out.room HMD.out.used HMD.out.nml (by rw [HMD.out.n, HSM8.out.n]; omega) HMD.out.ch HMD.out.kp HMD.out.lk HNEW9.out
    generalize hw14 : w12.setCell ⟨h, 3, none⟩ (.slice (some ⟨g7, 0, none⟩) (n9 + 1) c7) = w14
    rw [hw14] at hz
    obtain ⟨A14, hA14⟩ : ∃ A14, A14 = (h, Obj.cells (hlCells { H with L := L0 ++ [(s, G.syn)] } (.slice (some ⟨g7, 0, none⟩) (n9 + 1) c7)) 119 (0, 0)) :: (A12 ++ (As ++ A11)) := ⟨_, rfl⟩
    rw [← hA14] at hM14
    have hH14 : Hp w14 P (A14 ++ (Ad11 ++ ((w.heap.size, .cells #[.int .i64 x.b, .int .i64 x.e, .slice ra x.r.length rc] 38 (0, 0)) :: F))) := by
      rw [hA14]
      simpa [hlCells, List.append_assoc] using hz
    obtain ⟨G2, hG2⟩ : ∃ G2 : Sg, G2 = ⟨H.d, segNm bn, bn, H.every, [], 0⟩ := ⟨_, rfl⟩
    have hL14 : Hl.L { H with L := (L0 ++ [(s, G.syn)]) ++ [(s2, G2)] } = (L0 ++ [(s, G.syn)]) ++ [(s2, G2)] := rfl
    dsimp only at hM14 hO14
    rw [← hG2] at hM14 hO14
    obtain ⟨A15, R15, hG15, hp15, hput15⟩ := hM14.focus (l2 := []) hL14
    obtain ⟨k0, k1, k2⟩ := HB.out _ _ _ hH14 (by simp)
    have hfo15 : G2.foll x = true := by
      rw [hG2]
      unfold Sg.foll
      rw [Bool.and_eq_true, decide_eq_true_eq, decide_eq_true_eq]
      exact ⟨HBN.out, HK.out.e0⟩
    have hO15 : SegOn D11.un G2 := by rw [hG2]; exact HO11.out
    have hDG15 : DkM P G2.d D11 Ad11 := by rw [hG2]; exact HD11.out
    have hroom15 : D11.used + szB x ≤ D11.room := by
      have m1 : D11.used = D8.used := HMD.out.used
      have m2 : D11.room = D8.room := HMD.out.room
      have m3 : D8.room = D.room := HSM8.out.room
      rw [m1, m2, m3, HU8.out]; exact HRM.out
    have hl015 : (L0 ++ [(s, G.syn)]).length ≤ 1000000 := by rw [HN9.out]; exact hn9l
    have HM14 := Lib.hid hM14
    have HO14 := Lib.hid hO14
    have H14 := Lib.hid hH14
    have HP15 := Lib.hid hp15
    have HPUT15 := Lib.hid hput15
    have HFO15 := Lib.hid hfo15
    have HO15 := Lib.hid hO15
    have HDG15 := Lib.hid hDG15
    have HRM15 := Lib.hid hroom15
    have HG2L : Hid (G2.l = []) := by show _ = _; rw [hG2]
    have HG2D : Hid (G2.d = H.d) := by show _ = _; rw [hG2]
    have HG2K : Hid (G2.kept = 0) := by show _ = _; rw [hG2]
    have HG2B : Hid ((G2.base : Int) = (bn : Int)) := by show _ = _; rw [hG2]
    have HL15 := Lib.hid hl015
    clear hz hM14 hO14 hH14 hA14 hp15 hput15 hfo15 hO15 hDG15 hroom15 hL14 hG2 hl015 f3 z3'
    go_wp2_with fail
    go_region_held3 (fun w' => w'.cell? ⟨w.heap.size, 0, none⟩ = some (.int .i64 x.b) ∧ w'.cell? ⟨w.heap.size, 1, none⟩ = some (.int .i64 x.e) ∧ w'.cell? ⟨w.heap.size, 2, none⟩ = some (.slice ra x.r.length rc))
      (first
        | go_keep
        | exact ⟨k0, k1, k2⟩)
      (first
        | (go_at_call 64
           with_reducible refine (hlast_ok HM14.out rfl HL15.out H14.out.drew).mono ?_
           rintro e w15 ⟨rfl, hHa⟩
           have hHs : Hp w15 P (A15 ++ (Ad11 ++ (R15 ++ ((w.heap.size, .cells #[.int .i64 x.b, .int .i64 x.e, .slice ra x.r.length rc] 38 (0, 0)) :: F)))) := (hHa.perm (HP15.out _)).perm (List.Perm.append_left A15 (perm_mid R15 Ad11 _))
           obtain ⟨k0, k1, k2⟩ := HB.out _ _ _ hHa (by simp))
        | (go_at_call 91
           with_reducible refine (sappend_two C hG15 HO15.out HDG15.out x HK.out hxb _ HV.out HFO15.out HRM15.out hHs).mono ?_
           rintro e w16 ⟨qw, P16, A16, Ad16, rfl, hs16, hHb, hor⟩
           obtain ⟨k0, k1, k2⟩ := HB.out _ _ _ hHb (by simp)))
    rcases hor with ⟨hq0, D16, hG16, hD16, hO16, hsm16, hu16, hl16, hpo16⟩ | ⟨hq0, rfl, hD16, hpo16⟩
    · subst hq0
      obtain ⟨A17, hM17, hp17⟩ := HPUT15.out (G2.push x) A16 hG16
      have hO17 := HO14.out.push rfl x hO16 hsm16 hu16 HRM15.out hl16 HCH.out
      have hH17 := (hHb.perm (List.Perm.append_left A16 (perm_mid Ad16 R15 _))).perm (hp17 _)
      have m1 : D11.used = D8.used := HMD.out.used
      have hu17 : D16.used = D.used + szB x := by rw [hu16, m1, HU8.out]
      have hr17 : D16.un.room = D.un.room := by rw [hsm16.room, HMD.out.room, HSM8.out.room]
      have hn17 : D16.un.n ≤ D.un.n + 1 := by rw [hsm16.n, HMD.out.n, HSM8.out.n]; omega
      have hA17 := apd_roll (D := D.un) (D' := D16.un) HL.out x HYES.out s2 G2 HG2L.out hr17 hu17 hn17
      have HFIN : Hid (∃ P' A' Ad' D' H', Sub P P' ∧ HlM h H' A' ∧ DkM P' H.d D' Ad' ∧ HotOn D'.un H' b0 (l ++ [x]) ∧ Apd H H' D.un D'.un x ∧ PowOn D D' ∧ H.low ≤ H'.low ∧ Hp w16 P' (A' ++ (Ad' ++ F))) := ⟨P16, A17, Ad16, D16, _, hs16, hM17, by rw [← HG2D.out]; exact hD16, hO17, hA17, (HPO8.out.trans HPO11.out).trans hpo16, Int.le_trans (HO.out.low_le HL.out) (Int.le_of_eq (by rw [← HB9.out]; exact (low_newpush _ _ _ _ _ G2 x _ HG2L.out HG2K.out HG2B.out).symm)), box_off hH17⟩
      clear hHa hHb hHs hG16 hD16 hO16 hsm16 hu16 hl16 hM17 hp17 hO17 hH17 hu17 hr17 hn17 hA17 hpo16 m1
      go_wp2_with fail
      go_ret
      exact .inl ⟨rfl, HFIN.out⟩
    · subst hq0
      have hH17 := (hHb.perm (List.Perm.append_left A16 (perm_mid Ad16 R15 _))).perm (HP15.out _).symm
      have HFIN : Hid (∃ P' A' Ad' D' H', Sub P P' ∧ HlM h H' A' ∧ DkM P' H.d D' Ad' ∧ ApGone D D' H H' b0 l ∧ Hp w16 P' (A' ++ (Ad' ++ F))) := ⟨P16, A14, Ad16, D11.beg, _, hs16, HM14.out, by rw [← HG2D.out]; exact hD16, ⟨PowOff.after (HPO8.out.trans HPO11.out) hpo16, rfl, rfl, rfl, by simp, Int.le_trans (HO.out.low_le HL.out) (Int.le_of_eq (by rw [← HB9.out]; exact (low_new _ _ _ _ _ G2 _ HG2L.out HG2B.out).symm)), made_nr HMD.out HSM8.out, .inl (by rw [beg_un]; exact HO14.out)⟩, box_off hH17⟩
      clear hHa hHb hHs hD16 hH17 hpo16
      go_wp2_with fail
      go_ret
      exact .inr ⟨rfl, HFIN.out⟩
  all_goals
    go_region_held3 (fun w' => w'.cell? ⟨w.heap.size, 0, none⟩ = some (.int .i64 x.b) ∧ w'.cell? ⟨w.heap.size, 1, none⟩ = some (.int .i64 x.e) ∧ w'.cell? ⟨w.heap.size, 2, none⟩ = some (.slice ra x.r.length rc))
      (first
        | go_keep
        | exact ⟨k0, k1, k2⟩)
      (first
        | (go_at_call 64
           with_reducible refine (hlast_ok hM HL.out hl0n H5.out.drew).mono ?_
           rintro e w15 ⟨rfl, hHa⟩
           have hHs : Hp w15 P (A1 ++ (Ad ++ (R ++ ((w.heap.size, .cells #[.int .i64 x.b, .int .i64 x.e, .slice ra x.r.length rc] 38 (0, 0)) :: F)))) := (hHa.perm (HP.out _)).perm (List.Perm.append_left A1 (perm_mid R Ad _))
           obtain ⟨k0, k1, k2⟩ := HB.out _ _ _ hHa (by simp))
        | (go_at_call 91
           with_reducible refine (sappend_two C hG1 HGO.out HDG.out x HK.out hxb _ HV.out HFO.out HRM.out hHs).mono ?_
           rintro e w16 ⟨qv, P16, A16, Ad16, rfl, hs16, hHb, hor⟩
           obtain ⟨k0, k1, k2⟩ := HB.out _ _ _ hHb (by simp)))
    rcases hor with ⟨hq0, D16, hG16, hD16, hO16, hsm16, hu16, hl16, hpo16⟩ | ⟨hq0, rfl, hD16, hpo16⟩
    · subst hq0
      obtain ⟨A17, hM17, hp17⟩ := HPUT.out (G.push x) A16 hG16
      have hO17 := HO.out.push HL.out x hO16 hsm16 hu16 HRM.out hl16 HCH.out
      have hH17 := (hHb.perm (List.Perm.append_left A16 (perm_mid Ad16 R _))).perm (hp17 _)
      have hA17 := apd_push HL.out x HNO.out hsm16 hu16
      have HFIN : Hid (∃ P' A' Ad' D' H', Sub P P' ∧ HlM h H' A' ∧ DkM P' H.d D' Ad' ∧ HotOn D'.un H' b0 (l ++ [x]) ∧ Apd H H' D.un D'.un x ∧ PowOn D D' ∧ H.low ≤ H'.low ∧ Hp w16 P' (A' ++ (Ad' ++ F))) := ⟨P16, A17, Ad16, D16, _, hs16, hM17, by rw [← HGD.out]; exact hD16, hO17, hA17, hpo16, HO.out.low_push HL.out x HXB.out, box_off hH17⟩
      clear hHa hHb hHs hG16 hD16 hO16 hsm16 hu16 hl16 hM17 hp17 hO17 hH17 hA17 hpo16
      go_wp2_with fail
      go_ret
      exact .inl ⟨rfl, HFIN.out⟩
    · subst hq0
      have hH17 := (hHb.perm (List.Perm.append_left A16 (perm_mid Ad16 R _))).perm (HP.out _).symm
      have HFIN : Hid (∃ P' A' Ad' D' H', Sub P P' ∧ HlM h H' A' ∧ DkM P' H.d D' Ad' ∧ ApGone D D' H H' b0 l ∧ Hp w16 P' (A' ++ (Ad' ++ F))) := ⟨P16, A, Ad16, D.beg, H, hs16, hM, by rw [← HGD.out]; exact hD16, ⟨hpo16, rfl, rfl, rfl, by rw [HL.out]; simp, Int.le_refl _, beg_nr D, .inl (by rw [beg_un]; exact HO.out)⟩, box_off hH17⟩
      clear hHa hHb hHs hD16 hH17 hpo16
      go_wp2_with fail
      go_ret
      exact .inr ⟨rfl, HFIN.out⟩
end
end Go.Proofs.YtncjffkpkmjgkaaGreatDoor.Sg

/-! Ym -/
namespace Go.Proofs.YtncjffkpkmjgkaaGreatDoor.Sg
open Go.RowKit Er Go.Maps

/-- A crash keeps nothing of a disk but its files and the names. -/
def Dk.asKept (D : Dk) (nm : List (Nam × Nat)) : Dk := { D with nm := nm, kp := nm, ch := [], arm := 0, down := false }
theorem asKept_un (D : Dk) (nm : List (Nam × Nat)) : (D.asKept nm).un = D.asKept nm := rfl
theorem asKept_crash (D : Dk) (q q' : Nat) (p : Nat → Nat) : (D.asKept (D.keptA q)).crash q' p = D.crash q p := by
  have e : (D.asKept (D.keptA q)).keptA q' = D.keptA q := by
    show (([] : List Ch).take q').foldl chg (D.keptA q) = _
    rw [List.take_nil]; rfl
  unfold Dk.crash
  rw [e]
  rfl
/-- What is kept of a disk on which one new file waits. -/
theorem pend_kept {D0 D6 : Dk} {bn b : Nat} (h : Pend D0 D6.un bn b) (hc : D0.ch = []) (hk : D0.kp = D0.nm) (q : Nat) : D6.keptA q = D0.nm ∨ D6.keptA q = (segNm bn, b) :: D0.nm := by
  have h1 : D6.ch = [⟨segNm bn, [], some b⟩] := by have := h.ch; rw [hc] at this; exact this
  have h2 : D6.kp = D0.nm := (show D6.kp = D0.kp from h.kp).trans hk
  have h3 : D6.nm = (segNm bn, b) :: D0.nm := h.nm
  unfold Dk.keptA
  rw [h1, h2]
  cases q with
  | zero => left; rfl
  | succ q =>
    right
    have hnd : (D6.nm.map (·.1)).Nodup := h.I.nd
    rw [h3, List.map_cons, List.nodup_cons] at hnd
    rw [List.take_succ_cons, List.take_nil]
    show (segNm bn, b) :: ndel D0.nm (segNm bn) = _
    have e : ndel D0.nm (segNm bn) = D0.nm := by
      unfold ndel
      rw [List.filter_eq_self]
      intro x hx
      have : x.1 ≠ segNm bn := fun e => hnd.1 (List.mem_map.2 ⟨x, hx, e⟩)
      simp [this]
    rw [e]

theorem asKept_look (D : Dk) (nm : List (Nam × Nat)) (s : Nam) : (D.asKept nm).look s = (nfind nm s).bind (ffind D.fl) := rfl
theorem nfind_skip {m : List (Nam × Nat)} {s s' : Nam} {b : Nat} (h : s' ≠ s) : nfind ((s, b) :: m) s' = nfind m s' := by
  unfold nfind
  rw [List.find?_cons_of_neg (by simpa using fun e => h e.symm)]
theorem nfind_out {m : List (Nam × Nat)} {s : Nam} (h : s ∉ m.map (·.1)) : nfind m s = none := by
  unfold nfind
  rw [List.find?_eq_none.2 (fun x hx e => h (List.mem_map.2 ⟨x, hx, by simpa using e⟩))]
  rfl
/-- Whatever of the names is kept: a log in order. -/
theorem ApGone.kept {D D' : Dk} {H H' : Hl} {b0 : Int} {l : List Bt} (h : ApGone D D' H H' b0 l) (hn : D'.n ≤ 1000000) (hle : endOf b0 l ≤ 1099511627776) (q : Nat) :
    ∃ L', HotOn (D'.asKept (D'.keptA q)) { H' with L := L' } b0 l ∧ L' ≠ [] ∧ (L' = H'.L ∨ ∃ bn, L' = H'.L ++ [(0, ⟨H'.d, segNm bn, bn, H'.every, [], 0⟩)]) ∧ H'.low ≤ ({ H' with L := L' } : Hl).low := by
  obtain ⟨-, -, -, -, hne, -, -, h | ⟨D0, bn, b, h, hp, hb, hf⟩⟩ := h
  · refine ⟨H'.L, ?_, hne, .inl rfl, Int.le_refl _⟩
    have hk : D'.keptA q = D'.nm := h.kept_same (D2 := D') rfl q
    have h1 : D'.kp = D'.nm := h.kp
    have h2 : D'.ch = [] := List.eq_nil_of_length_eq_zero h.c0
    have e : D'.asKept (D'.keptA q) = D'.un := by rw [hk]; cases D'; dsimp only at h1 h2; subst h1 h2; rfl
    rw [e]; exact h
  · have hc0 : D0.ch = [] := List.eq_nil_of_length_eq_zero h.c0
    have h3 : D'.nm = (segNm bn, b) :: D0.nm := hp.nm
    have hnd : (D'.nm.map (·.1)).Nodup := hp.I.nd
    have hinj : (D'.nm.map (·.2)).Nodup := hp.I.inj
    have hw : ∀ x, x ∈ D'.nm → ∃ f, ffind D'.fl x.2 = some f := hp.I.w.nm
    have hus : D'.used = D0.used := hp.used
    have hrm : D'.room = D0.room := hp.room
    rcases pend_kept hp hc0 h.kp q with hk | hk
    · rw [hk]
      refine ⟨H'.L, ?_, hne, .inl rfl, Int.le_refl _⟩
      have hsub : ∀ x, x ∈ D0.nm → x ∈ D'.nm := fun x hx => by rw [h3]; exact List.mem_cons_of_mem _ hx
      rw [h3, List.map_cons, List.nodup_cons] at hnd hinj
      have hlk : ∀ s', (D'.asKept D0.nm).look s' = if s' = segNm bn then none else D0.look s' := fun s' => by
        rw [asKept_look]
        split
        · rename_i e; subst e; rw [nfind_out hnd.1]; rfl
        · rename_i e
          have e2 := hp.lk s' e
          rw [← e2]
          show _ = (nfind D'.nm s').bind (ffind D'.fl)
          rw [h3, nfind_skip e]
      have hu : (D'.asKept D0.nm).used ≤ D0.used := by
        rw [← hus]
        show allSum (flen D'.fl) D0.nm ≤ allSum (flen D'.fl) D'.nm
        rw [h3]
        unfold allSum
        rw [List.map_cons, List.sum_cons]
        omega
      have hnew : ∀ p, p ∈ H'.L → p.2.nm ≠ segNm bn := (h.fresh (fun L0 s G e => (hf (s, G) (by rw [e]; simp)).1) bn hb (by omega)).1
      have hless := h.less (D' := { D'.asKept D0.nm with n := D0.n }) (L1 := H'.L) (L2 := []) (by simp) ⟨⟨fun x hx => hw x (hsub x hx), fun x hx => hw x (hsub x hx), fun c hc => by cases hc⟩, hnd.2, hinj.2, rfl, rfl⟩ hrm hu rfl rfl rfl
        (fun p hp => (hlk _).trans (by rw [if_neg (hnew p hp)])) (fun s' hs' => (hlk s').trans (by split; rfl; exact h.only s' hs')) h.nml
      rw [h.fl] at hless
      exact ⟨fun p hp => ⟨(hless.sg p hp).1.keep ⟨⟨fun x hx => hw x (hsub x hx), fun x hx => hw x (hsub x hx), fun c hc => by cases hc⟩, hnd.2, hinj.2, rfl, rfl⟩ hless.room hless.used rfl, (hless.sg p hp).2⟩, ⟨⟨fun x hx => hw x (hsub x hx), fun x hx => hw x (hsub x hx), fun c hc => by cases hc⟩, hnd.2, hinj.2, rfl, rfl⟩, hless.room, hless.used, hless.lk, hless.fl, hless.ch, hless.only, hless.nml, hn, rfl, rfl, hless.e1, hless.e2, hless.b0, hless.sz⟩
    · rw [hk, ← h3]
      have hI : DkI (D'.asKept D'.nm) := ⟨⟨hw, hw, fun c hc => by cases hc⟩, hnd, hinj, rfl, rfl⟩
      have hnew : ∀ p, p ∈ H'.L → p.2.nm ≠ segNm bn := (h.fresh (fun L0 s G e => (hf (s, G) (by rw [e]; simp)).1) bn hb (by omega)).1
      refine ⟨_, h.more (D' := D'.asKept D'.nm) (fun L0 s G e => hf (s, G) (by rw [e]; simp)) bn hb 0 ⟨hI, by simp, by simp, by show bn ≤ _; omega, by simp [segNm_len], hp.new, by show D'.room ≤ _; rw [hrm]; exact h.room, by show D'.used ≤ D'.room; rw [hus, hrm]; exact h.used⟩ hrm hus (by show D'.nm.length = _; rw [h3]; simp) hn rfl rfl hp.lk hnew, by simp, .inr ⟨bn, rfl⟩, ?_⟩
      obtain ⟨L0, s, G, hL0⟩ : ∃ L0 s G, H'.L = L0 ++ [(s, G)] := by
        rcases lastHl H'.L with h | h
        · exact absurd h hne
        · exact h
      refine Int.le_trans (h.low_le hL0) (Int.le_of_eq ?_)
      rw [← hb]
      exact (low_new _ _ _ _ _ ⟨H'.d, segNm bn, bn, H'.every, [], 0⟩ _ rfl rfl).symm
end Go.Proofs.YtncjffkpkmjgkaaGreatDoor.Sg

/-! Yo -/
namespace Go.Proofs.YtncjffkpkmjgkaaGreatDoor.Sg
open Go.RowKit Er Go.Maps

theorem HotOn.rc {S : List Nat} {E : Nat → Addr} {B : Nat} {D6 : Dk} {H : Hl} {b0 : Int} {l : List Bt} {L0 : List (Nat × Sg)} {s : Nat} {G : Sg} {q : Nat} (h : HotOn (D6.asKept (D6.keptA q)) H b0 l) (hL : H.L = L0 ++ [(s, G)]) (p : Nat → Nat) (hp : ∀ f, f ∈ D6.fl → p f.blk ≤ f.b.length - f.s) (low : Int) (hlow : low ≤ synF G.kept G.base G.l) :
    ∃ k t k3, DkI (D6.crash q p) ∧ (D6.crash q p).used ≤ (D6.crash q p).room ∧ HotOn ((D6.crash q p).trim G.nm (sizes (G.l.take k))) { H with L := L0 ++ [(s, G.cutK k)] } b0 (l.take k3) ∧
      Torn S E B (D6.crash q p) G.nm (sizes (G.l.take k)) t (L0 ++ [(s, G.cutK k)]) ∧ k3 ≤ l.length ∧ low ≤ endOf b0 (l.take k3) := by
  obtain ⟨k, t, k1, hI, hu, hO, hT, hk⟩ := HotOn.torn_crash (S := S) (E := E) (B := B) (D6 := D6.asKept (D6.keptA q)) h hL 0 p hp
  rw [asKept_crash] at hI hu hO hT
  obtain ⟨c1, c2, -, -, c5⟩ := h.split (L2 := []) hL
  have hr : ∀ x, x ∈ G.l → 1 ≤ x.r.length := fun x hx => ((h.sg (s, G) (by rw [hL]; simp)).1.ok x hx).n1
  obtain ⟨pf, hpf⟩ : ∃ pf, (L0.map (·.2.l)).flatten = pf := ⟨_, rfl⟩
  rw [hpf] at hO c2 c5
  have hl : l = pf ++ G.l := by rw [c5]; simp
  have ht : l.take (pf.length + k) = pf ++ G.l.take k := by rw [hl, List.take_append, List.take_of_length_le (by omega), Nat.add_sub_cancel_left]
  refine ⟨k, t, pf.length + k, hI, hu, by rw [ht]; exact hO, hT, by rw [hl, List.length_append]; omega, ?_⟩
  rw [ht, endOf_app, ← c2]
  exact Int.le_trans hlow (synF_le hr c1 k1 hk)
end Go.Proofs.YtncjffkpkmjgkaaGreatDoor.Sg

/-! Yf -/
namespace Go.Proofs.YtncjffkpkmjgkaaGreatDoor.Sg
open Go.RowKit Er Go.Maps

/-- What is asked of a disk ahead of a crash, and what is there behind it. -/
def CrSt (D6 : Dk) (dd seg every : Nat) (b0 : Int) (L : List Bt) (kk : Nat) (dn : Bool) : Prop :=
  DkW D6 ∧ D6.n ≤ 1000000 ∧ (∀ c, c ∈ D6.ch → c.nm.length ≤ 1000000 ∧ c.gone.length ≤ 1000000) ∧ D6.kp.length + D6.ch.length < 1000000 ∧
    ∀ q, ((D6.keptA q).map (·.2)).Nodup ∧ (∀ f, f ∈ D6.fl → f.blk ∈ (D6.keptA q).map (·.2) → f.b.length ≤ 1099511627776) ∧
      ∀ p : Nat → Nat, (∀ f, f ∈ D6.fl → p f.blk ≤ f.b.length - f.s) → ∃ (L1 : List (Nat × Sg)) (k3 : Nat), HotOn (D6.crash q p) ⟨dd, seg, every, L1⟩ b0 (L.take k3) ∧ L1 ≠ [] ∧ kk ≤ k3 ∧ k3 ≤ L.length ∧ (dn = false → k3 = kk)

section
variable {D D6 : Dk} {H : Hl} {b0 : Int} {l : List Bt} {L1 L2 : List (Nat × Sg)}
theorem HotOn.crash_pre (h : HotOn D H b0 l) (hL : H.L = L1 ++ L2) {q : Nat} (hnm : D6.keptA q = (D.rems (revNm L2)).nm) (hfl : D6.fl = D.fl) (hnd : (D6.fl.map (·.blk)).Nodup) :
    ((D6.keptA q).map (·.2)).Nodup ∧ (∀ f, f ∈ D6.fl → f.blk ∈ (D6.keptA q).map (·.2) → f.b.length ≤ 1099511627776) := by
  have hR := h.remd hL
  refine ⟨by rw [hnm]; exact hR.I.inj, fun f hf hb => ?_⟩
  rw [hnm] at hb
  obtain ⟨x, hx, e⟩ := List.mem_map.1 hb
  have hff := ffind_of_mem hnd hf
  have hlk : (D.rems (revNm L2)).look x.1 = some f := by
    obtain ⟨b', hb'⟩ := nfind_of_mem hx
    have hbb : b' = x.2 := by
      have h1 := nfind_mem hb'
      have h2 := hR.I.nd
      have : ∀ (m : List (Nam × Nat)), (m.map (·.1)).Nodup → (x.1, b') ∈ m → x ∈ m → b' = x.2 := by
        intro m
        induction m with
        | nil => intro _ h; cases h
        | cons y m ih =>
          intro hn h3 h4
          rw [List.map_cons, List.nodup_cons] at hn
          rcases List.mem_cons.1 h3 with h3 | h3
          · rcases List.mem_cons.1 h4 with h4 | h4
            · rw [h4, ← h3]
            · exact absurd (List.mem_map.2 ⟨x, h4, by rw [← h3]⟩) hn.1
          · rcases List.mem_cons.1 h4 with h4 | h4
            · exact absurd (List.mem_map.2 ⟨_, h3, by rw [h4]⟩) hn.1
            · exact ih hn.2 h3 h4
      exact this _ h2 h1 hx
    unfold Dk.look
    rw [hb', Option.bind_some, hbb, hR.fl, ← hfl, e]
    exact hff
  have := used_ge hlk
  have := hR.used
  have := h.used
  have := h.room
  omega
/-- Segments ahead have the batches ahead. -/
theorem HotOn.pre_take (h : HotOn D H b0 l) (hL : H.L = L1 ++ L2) : ((L1.map (·.2.l)).flatten) = l.take ((L1.map (·.2.l)).flatten).length ∧ ((L1.map (·.2.l)).flatten).length ≤ l.length := by
  have hf := h.fl
  rw [hL, List.map_append, List.flatten_append] at hf
  rw [← hf]
  refine ⟨by rw [List.take_left], by rw [List.length_append]; omega⟩
theorem crst_done {dd seg every kk : Nat} (h : HotOn D6.un ⟨dd, seg, every, H.L⟩ b0 (l.take kk)) (hall : ∀ p, p ∈ H.L → p.2.kept = sizes p.2.l) (hne : H.L ≠ []) (hkk : kk ≤ l.length) (hnd : (D6.fl.map (·.blk)).Nodup) : CrSt D6 dd seg every b0 l kk false := by
  have hsm := h.small.2
  dsimp only at hsm
  have hc0 : D6.ch = [] := List.eq_nil_of_length_eq_zero h.c0
  have hkp : D6.kp = D6.nm := h.kp
  have hnl : D6.nm.length = H.L.length := h.nml
  refine ⟨un_W h.I.w, h.n, fun c hc => (by rw [hc0] at hc; cases hc), by rw [hc0, hkp, hnl]; simp; omega, fun q => ?_⟩
  have hnm := h.kept_same (D2 := D6) rfl q
  obtain ⟨c1, c2⟩ := h.crash_pre (L1 := H.L) (L2 := []) (D6 := D6) (by simp) hnm rfl hnd
  refine ⟨c1, c2, fun p hp => ⟨H.L, kk, ?_, hne, Nat.le_refl _, hkk, fun _ => rfl⟩⟩
  have := h.crashed hall (L1 := H.L) (L2 := []) (by simp) (D2 := D6) (q := q) (p := p) (un_W h.I.w) hnm rfl rfl rfl hp
  rw [show (H.L.map (·.2.l)).flatten = l.take kk from h.fl] at this
  exact this
theorem crst_gone {dd seg every kk : Nat} (h : HotOn D ⟨dd, seg, every, H.L⟩ b0 l) (hall : ∀ p, p ∈ H.L → p.2.kept = sizes p.2.l) (hL : H.L = L1 ++ L2) (hne : L1 ≠ []) (hkk : kk ≤ l.length) (hbs : ∀ p, p ∈ L2 → endOf b0 (l.take kk) ≤ (p.2.base : Int))
    (he : D6.un = D.rems (revNm L2) ∨ D6.un = (D.rems (revNm L2)).sdir) (hnd : (D6.fl.map (·.blk)).Nodup) : CrSt D6 dd seg every b0 l kk true := by
  have hLe : Hl.L ⟨dd, seg, every, H.L⟩ = L1 ++ L2 := hL
  have hR := h.remd hLe
  have hsm := h.small.2
  dsimp only at hsm
  have hnl := h.nml
  dsimp only at hnl
  have hl12 := congrArg List.length hL
  rw [List.length_append] at hl12
  have hrl : (revNm L2).length = L2.length := by simp [revNm]
  have hr : ∀ x, x ∈ l → 1 ≤ x.r.length := fun x hx => (h.ok x hx).1.n1
  have hfl : D6.fl = D.fl := by
    rcases he with he | he
    · have := congrArg Dk.fl he; exact this.trans hR.fl
    · have := congrArg Dk.fl he
      have h2 : (D.rems (revNm L2)).sdir.fl = (D.rems (revNm L2)).fl := (beg_fl _).1
      exact (this.trans h2).trans hR.fl
  have hn : D6.n = D.n := by
    rcases he with he | he
    · have := congrArg Dk.n he; exact this.trans hR.n
    · have := congrArg Dk.n he; exact (this.trans (sdir_same hR.I).n).trans hR.n
  have hrm : D6.room = D.room := by
    rcases he with he | he
    · have := congrArg Dk.room he; exact this.trans hR.room
    · have := congrArg Dk.room he; exact (this.trans (sdir_same hR.I).room).trans hR.room
  have hW : DkW D6 := by
    refine un_W ?_
    rcases he with he | he
    · rw [he]; exact hR.I.w
    · rw [he]; exact (sdir_I hR.I).w
  have hchl : (∀ c, c ∈ D6.ch → c.nm.length ≤ 1000000 ∧ c.gone.length ≤ 1000000) ∧ D6.kp.length + D6.ch.length < 1000000 := by
    rcases he with he | he
    · have e1 : D6.ch = (revNm L2).map fun s => ⟨[], s, none⟩ := by
        have := congrArg Dk.ch he
        have h2 := hR.ch
        rw [List.eq_nil_of_length_eq_zero h.c0, List.nil_append] at h2
        exact this.trans h2
      have e2 : D6.kp = D.nm := by
        have := congrArg Dk.kp he
        exact (this.trans hR.kp).trans h.kp
      refine ⟨fun c hc => ?_, by rw [e1, e2, hnl, List.length_map, hrl]; omega⟩
      rw [e1] at hc
      obtain ⟨s, hs, rfl⟩ := List.mem_map.1 hc
      obtain ⟨x, hx, rfl⟩ := mem_revNm.1 hs
      have := (h.sg x (by rw [hLe]; exact List.mem_append_right _ hx)).1.nm
      exact ⟨Nat.zero_le _, by show x.2.nm.length ≤ _; omega⟩
    · have e1 : D6.ch = [] := by have := congrArg Dk.ch he; exact this
      have e2 : D6.kp = (D.rems (revNm L2)).nm := by have := congrArg Dk.kp he; exact this
      refine ⟨fun c hc => (by rw [e1] at hc; cases hc), ?_⟩
      have := h.remd_len hLe
      rw [e1, e2, this]; simp; omega
  have key : ∀ q, ∃ La Lb, L2 = La ++ Lb ∧ D6.keptA q = (D.rems (revNm Lb)).nm := fun q => by
    rcases he with he | he
    · exact h.kept_rems hLe he q
    · exact ⟨[], L2, rfl, HotOn.kept_sdir he q⟩
  refine ⟨hW, by rw [hn]; exact h.n, hchl.1, hchl.2, fun q => ?_⟩
  obtain ⟨La, Lb, e1, hnm⟩ := key q
  have hLe2 : Hl.L ⟨dd, seg, every, H.L⟩ = (L1 ++ La) ++ Lb := by rw [hLe, e1, List.append_assoc]
  obtain ⟨c1, c2⟩ := h.crash_pre hLe2 hnm hfl hnd
  refine ⟨c1, c2, fun p hp => ?_⟩
  obtain ⟨t1, t2⟩ := h.pre_take hLe2
  obtain ⟨k3, hk3⟩ : ∃ k, (((L1 ++ La).map (·.2.l)).flatten).length = k := ⟨_, rfl⟩
  rw [hk3] at t1 t2
  refine ⟨L1 ++ La, k3, ?_, by simp [hne], ?_, t2, fun hh => by cases hh⟩
  · have := h.crashed hall hLe2 (D2 := D6) (q := q) (p := p) hW hnm hfl hn hrm hp
    rw [t1] at this
    exact this
  · cases hLb : Lb with
    | nil =>
      have hf := h.fl
      rw [hLe2, hLb, List.append_nil] at hf
      rw [← hk3, hf]; exact hkk
    | cons x Lb' =>
      rw [hLb] at hLe2 e1
      have hb := (h.split (s := x.1) (G := x.2) hLe2).2.1
      rw [t1] at hb
      have hx := hbs x (by rw [e1]; simp)
      exact endOf_inj hr h.ch hkk (by rw [← hb]; exact hx)
end
end Go.Proofs.YtncjffkpkmjgkaaGreatDoor.Sg

/-! Yq -/
namespace Go.Proofs.YtncjffkpkmjgkaaGreatDoor.Sg
open Go.RowKit Er Go.Maps

/-- What is asked of a disk ahead of a crash, and what is there behind it, torn. -/
def CrT (S : List Nat) (E : Nat → Addr) (B : Nat) (D6 : Dk) (dd seg every : Nat) (b0 : Int) (l : List Bt) (low : Int) : Prop :=
  DkW D6 ∧ D6.n ≤ 1000000 ∧ (∀ c, c ∈ D6.ch → c.nm.length ≤ 1000000 ∧ c.gone.length ≤ 1000000) ∧ D6.kp.length + D6.ch.length < 1000000 ∧
    ∀ q, ((D6.keptA q).map (·.2)).Nodup ∧ (∀ f, f ∈ D6.fl → f.blk ∈ (D6.keptA q).map (·.2) → f.b.length ≤ 1099511627776) ∧
      ∀ p : Nat → Nat, (∀ f, f ∈ D6.fl → p f.blk ≤ f.b.length - f.s) → ∃ (L0 : List (Nat × Sg)) (s : Nat) (G : Sg) (k : Nat) (t : List Nat) (k3 : Nat), DkI (D6.crash q p) ∧ (D6.crash q p).used ≤ (D6.crash q p).room ∧
        HotOn ((D6.crash q p).trim G.nm (sizes (G.l.take k))) ⟨dd, seg, every, L0 ++ [(s, G.cutK k)]⟩ b0 (l.take k3) ∧ Torn S E B (D6.crash q p) G.nm (sizes (G.l.take k)) t (L0 ++ [(s, G.cutK k)]) ∧ k3 ≤ l.length ∧ low ≤ endOf b0 (l.take k3)

theorem CrT.of_kept {S : List Nat} {E : Nat → Addr} {B : Nat} {D6 : Dk} {dd seg every : Nat} {b0 : Int} {l : List Bt} {low : Int} (hW : DkW D6) (hn : D6.n ≤ 1000000) (hc : ∀ c, c ∈ D6.ch → c.nm.length ≤ 1000000 ∧ c.gone.length ≤ 1000000) (hkc : D6.kp.length + D6.ch.length < 1000000)
    (hnd : (D6.fl.map (·.blk)).Nodup) (hk : ∀ q, ∃ L', HotOn (D6.asKept (D6.keptA q)) ⟨dd, seg, every, L'⟩ b0 l ∧ L' ≠ [] ∧ low ≤ Hl.low ⟨dd, seg, every, L'⟩) : CrT S E B D6 dd seg every b0 l low := by
  refine ⟨hW, hn, hc, hkc, fun q => ?_⟩
  obtain ⟨L', h, hne, hlow⟩ := hk q
  refine ⟨h.I.inj, (h.crash_pre (L1 := L') (L2 := []) (D6 := D6) (q := q) (by simp) rfl rfl hnd).2, fun p hp => ?_⟩
  obtain ⟨L0, s, G, e⟩ : ∃ L0 s G, L' = L0 ++ [(s, G)] := by
    rcases lastHl L' with h | h
    · exact absurd h hne
    · exact h
  obtain ⟨k, t, k3, h1, h2, h3, h4, h5, h6⟩ := h.rc (S := S) (E := E) (B := B) (H := ⟨dd, seg, every, L'⟩) e p hp low (by rw [← low_at (H := ⟨dd, seg, every, L'⟩) e]; exact hlow)
  exact ⟨L0, s, G, k, t, k3, h1, h2, h3, h4, h5, h6⟩

theorem asKept_same {D6 : Dk} {H : Hl} {b0 : Int} {l : List Bt} (h : HotOn D6.un H b0 l) (q : Nat) : D6.asKept (D6.keptA q) = D6.un := by
  have hk : D6.keptA q = D6.nm := h.kept_same (D2 := D6) rfl q
  have h1 : D6.kp = D6.nm := h.kp
  have h2 : D6.ch = [] := List.eq_nil_of_length_eq_zero h.c0
  rw [hk]
  cases D6
  dsimp only at h1 h2
  subst h1 h2
  rfl

theorem CrT.of_on {S : List Nat} {E : Nat → Addr} {B : Nat} {D6 : Dk} {H : Hl} {b0 : Int} {l : List Bt} {low : Int} (h : HotOn D6.un H b0 l) (hne : H.L ≠ []) (hnd : (D6.fl.map (·.blk)).Nodup) (hlow : low ≤ H.low) : CrT S E B D6 H.d H.seg H.every b0 l low := by
  have hsm := h.small.2
  have hc0 : D6.ch = [] := List.eq_nil_of_length_eq_zero h.c0
  have hkp : D6.kp = D6.nm := h.kp
  have hnl : D6.nm.length = H.L.length := h.nml
  exact CrT.of_kept (un_W h.I.w) h.n (fun c hc => (by rw [hc0] at hc; cases hc)) (by rw [hc0, hkp, hnl]; simp; omega) hnd (fun q => ⟨H.L, by rw [asKept_same h q]; exact h, hne, hlow⟩)

theorem CrT.of_gone {S : List Nat} {E : Nat → Addr} {B : Nat} {D D6 : Dk} {H H' : Hl} {b0 : Int} {l : List Bt} {low : Int} (h : ApGone D D6 H H' b0 l) (hn : D6.n ≤ 1000000) (hle : endOf b0 l ≤ 1099511627776) (hnd : (D6.fl.map (·.blk)).Nodup) (hlow : low ≤ H.low) : CrT S E B D6 H'.d H'.seg H'.every b0 l low := by
  have hk := fun q => h.kept hn hle q
  have hq : ∀ q, ∃ L', HotOn (D6.asKept (D6.keptA q)) ⟨H'.d, H'.seg, H'.every, L'⟩ b0 l ∧ L' ≠ [] ∧ low ≤ Hl.low ⟨H'.d, H'.seg, H'.every, L'⟩ := fun q => by
    obtain ⟨L', h1, h2, -, h4⟩ := hk q
    exact ⟨L', h1, h2, Int.le_trans hlow (Int.le_trans h.2.2.2.2.2.1 h4)⟩
  obtain ⟨-, -, -, -, hne, -, -, h | ⟨D0, bn, b, h, hp, hb, hf⟩⟩ := h
  · have hsm := h.small.2
    have hc0 : D6.ch = [] := List.eq_nil_of_length_eq_zero h.c0
    have hkp : D6.kp = D6.nm := h.kp
    have hnl : D6.nm.length = H'.L.length := h.nml
    exact CrT.of_kept (un_W h.I.w) hn (fun c hc => (by rw [hc0] at hc; cases hc)) (by rw [hc0, hkp, hnl]; simp; omega) hnd hq
  · have hsm := h.small.2
    have hc0 : D0.ch = [] := List.eq_nil_of_length_eq_zero h.c0
    have hc1 : D6.ch = [⟨segNm bn, [], some b⟩] := by have := hp.ch; rw [hc0] at this; exact this
    have hkp : D6.kp = D0.nm := (show D6.kp = D0.kp from hp.kp).trans h.kp
    have hnl : D0.nm.length = H'.L.length := h.nml
    refine CrT.of_kept (un_W hp.I.w) hn (fun c hc => ?_) (by rw [hc1, hkp, hnl]; simp; omega) hnd hq
    rw [hc1] at hc
    rw [List.mem_singleton.1 hc]
    exact ⟨by show (segNm bn).length ≤ _; rw [segNm_len]; omega, Nat.zero_le _⟩
end Go.Proofs.YtncjffkpkmjgkaaGreatDoor.Sg

/-! Hr -/
namespace Go.Proofs.YtncjffkpkmjgkaaGreatDoor.Sg
open Go.RowKit Er Go.Maps

theorem row_rn (every : Nat) : ∀ (l : List Int) (i : Nat) (a : Int), ∀ x, x ∈ rowGo every l i a → x.r.length ≤ 5
  | [], _, _, x, hx => by cases hx
  | s :: l, i, a, x, hx => by
    rcases List.mem_cons.1 hx with rfl | hx
    · rw [rBt_len]; exact (rN_pos s).2
    · exact row_rn every l _ _ x hx
theorem szB_le5 (x : Bt) (h : BtOk x) (hr : x.r.length ≤ 5) : szB x ≤ 3200 := by
  have h0 := batB_len x
  have h1 := bodyR_len (t0 x) x.r (t0_in x h) h.rs
  have h2 := vput_len64 (zig (t0 x)) (by have := t0_in x h; have := zig_lt (t0 x) (by omega) (by omega); omega)
  have h3 : (bodyB x).length ≤ 3100 := by simp [bodyB, headB, leB_len]; omega
  unfold szB; omega
theorem row30 (every : Nat) (xs : List Int) (base : Nat) (hb : base ≤ 1073741824) (hx : xs.length ≤ 30) : Chain base 0 (rowGo every xs 0 base) ∧ (∀ x, x ∈ rowGo every xs 0 base → BtOk x ∧ BtBy x) ∧ sizes (rowGo every xs 0 base) ≤ 96000 := by
  have hok := row_ok every xs 0 base (by omega) (by omega) (by omega)
  refine ⟨row_chain every xs 0 base 0 (by have := (rEp_mono every 0).2; omega), hok, ?_⟩
  have h : ∀ L : List Bt, (∀ x, x ∈ L → szB x ≤ 3200) → sizes L ≤ L.length * 3200 := by
    intro L
    induction L with
    | nil => intro _; simp [sizes]
    | cons x L ih =>
      intro h
      have h1 := h x List.mem_cons_self
      have h2 := ih (fun y hy => h y (List.mem_cons_of_mem _ hy))
      simp only [sizes, List.map_cons, List.sum_cons, List.length_cons] at h2 ⊢
      omega
  have h1 := h _ (fun x hx => szB_le5 x (hok x hx).1 (row_rn every xs 0 base x hx))
  rw [row_len] at h1
  omega

theorem row_m {P : Pm} {F : Mm} {w : World} (hH : Hp w P F) (a : Option Addr) (xs : List Int) (c n : Nat) (hn : xs.length = n) (hr : Pers P (fun w => IntsR w a xs)) (every : Nat) (he : every ≤ 1000000) (hx : n ≤ 1000000) (base : Int) (h0 : 0 ≤ base) (h1 : base ≤ 1099511627776) :
    Calls Tryz.prog 23 #[.int .i64 base, .slice a n c, .int .i64 every] w fun e w' => ∃ v P' out, e = .returned v ∧ Sub P P' ∧ out.map (·.1) = rowGo every xs 0 base ∧ BtsP P' v out ∧ Hp w' P' F := by
  subst hn
  exact row_p hH a xs c hr every he hx base h0 h1

/-- Two triples alike are equal. -/
theorem eqTri (u0 u1 u2 : Int) (w : World) : Sem.run Tryz.prog (Op.equalIn 10000 60 (.agg #[.int .i64 u0, .int .i64 u1, .int .i64 u2]) (.agg #[.int .i64 u0, .int .i64 u1, .int .i64 u2])) w = .ok true w := by
  obtain ⟨i, hi⟩ := info_of_underlying Tryz.underlying2
  have h := run_equalIn_array (P := Tryz.prog) w 9999 (t := 60) #[.int .i64 u0, .int .i64 u1, .int .i64 u2] #[.int .i64 u0, .int .i64 u1, .int .i64 u2] (n := 3) (e := 2) Tryz.underlying60 hi
  have hc : Tryz.prog.cellsOf 2 = 1 := by kernel_rfl
  rw [h, hc, show List.range 3 = [0, 1, 2] from rfl]
  simp [Op.eqItems, part, go_sem]

/-- Triples of lists of batches one behind the other. -/
def triL : Int → List (List Bt) → List Tri
  | _, [] => []
  | b, m :: ms => (b, endOf b m, sizes m) :: triL (endOf b m) ms
theorem triL_snoc : ∀ (ms : List (List Bt)) (b : Int) (m : List Bt), triL b (ms ++ [m]) = triL b ms ++ [(endOf b ms.flatten, endOf b (ms ++ [m]).flatten, sizes m)]
  | [], b, m => by simp [triL, endOf]
  | x :: ms, b, m => by
    show (b, endOf b x, sizes x) :: triL (endOf b x) (ms ++ [m]) = _
    rw [triL_snoc ms]
    simp only [List.flatten_cons, List.cons_append, endOf_app, triL, List.flatten_append]
theorem triL_len : ∀ (ms : List (List Bt)) (b : Int), (triL b ms).length = ms.length
  | [], _ => rfl
  | m :: ms, b => by simp [triL, triL_len ms]
theorem lk_tri : ∀ (L : List (Nat × Sg)) (b : Int), Lk b (L.map (·.2)) → L.map (fun p => triG p.2) = triL b (L.map (·.2.l))
  | [], _, _ => rfl
  | p :: L, b, ⟨h1, _, h3⟩ => by
    have := lk_tri L _ h3
    rw [List.map_cons, List.map_cons, this]
    show (triG p.2 :: triL p.2.end_ (L.map (·.2.l))) = (b, endOf b p.2.l, sizes p.2.l) :: triL (endOf b p.2.l) (L.map (·.2.l))
    rw [← h1, ← end_eq]; rfl

section
variable {S : List Nat} {E : Nat → Addr} {B : Nat} {P : Pm} {h : Nat} {H : Hl} {D : Dk} {A Ad F : Mm} {w : World} {b0 : Int} {l : List Bt}

/-- Where one stands behind so many segments: at the end, or ahead of a segment that has batches. -/
theorem HotOn.upto (hO : HotOn D H b0 l) (k : Nat) (hk : k ≤ H.L.length) :
    (endOf b0 ((H.L.take k).map (·.2.l)).flatten = endOf b0 l ∧ ((H.L.take k).map (·.2.l)).flatten = l) ∨
    ∃ (hk : k < H.L.length), endOf b0 ((H.L.take k).map (·.2.l)).flatten < endOf b0 l ∧ ((H.L[k]).2.base : Int) = endOf b0 ((H.L.take k).map (·.2.l)).flatten ∧ (H.L[k]).2.l ≠ [] := by
  by_cases hkn : k < H.L.length
  · have hsp : H.L = H.L.take k ++ ((H.L[k]).1, (H.L[k]).2) :: H.L.drop (k + 1) := HlM.nth k hkn
    obtain ⟨h1, h2, h3, h4, h5⟩ := hO.split hsp
    by_cases he : (H.L[k]).2.l = []
    · left
      have hd : H.L.drop (k + 1) = [] := Classical.byContradiction fun hd => by
        have hk2 := hO.lk
        rw [hsp, List.map_append, List.map_cons] at hk2
        exact (hk2.app.2.1 (by simpa using hd)).1 he
      rw [hd, he] at h5
      have h6 : ((H.L.take k).map (·.2.l)).flatten = l := by rw [h5]; simp
      exact ⟨by rw [h6], h6⟩
    · right
      refine ⟨hkn, ?_, h2, he⟩
      have hr : ∀ x, x ∈ ((H.L.drop (k + 1)).map (·.2.l)).flatten → 1 ≤ x.r.length := fun x hx => (hO.ok x (by rw [h5]; simp only [List.mem_append]; exact .inr (.inr hx))).1.n1
      have hg := chain_ge _ _ _ h4 hr
      have hs := hO.segend (p := ((H.L[k]).1, (H.L[k]).2)) (show H.L[k] ∈ H.L from List.getElem_mem hkn)
      have hl : 0 < (H.L[k]).2.l.length := List.length_pos_iff.2 he
      have e1 : endOf b0 l = endOf (H.L[k]).2.end_ ((H.L.drop (k + 1)).map (·.2.l)).flatten := by
        conv => lhs; rw [h5, endOf_app, endOf_app, ← h2, ← end_eq]
      rw [e1, ← h2]
      dsimp only at hs
      omega
  · left
    have e : H.L.take k = H.L := List.take_of_length_le (by omega)
    rw [e, hO.fl]
    exact ⟨rfl, rfl⟩
theorem perm_t (A B C E : Mm) : List.Perm (A ++ (B ++ (C ++ E))) (C ++ (A ++ (B ++ E))) := by
  have := perm_mid (A ++ B) C E
  simpa [List.append_assoc] using this

/-- What holds at the head of all's loop. -/
def All10Rel (P : Pm) (F A Ad : Mm) (H : Hl) (b0 : Int) (m : Nat) (vo va : Value) (w : World) : Prop :=
  ∃ (k : Nat) (P' : Pm) (out : List (Bt × Value)) (Ao : Mm), k + m = H.L.length ∧ va = .int .i64 (endOf b0 ((H.L.take k).map (·.2.l)).flatten) ∧ Sub P P' ∧ BtsM P' vo ((H.L.take k).map (·.2.l)).flatten out Ao ∧ Hp w P' (A ++ (Ad ++ (Ao ++ F)))

set_option maxRecDepth 100000 in
set_option maxHeartbeats 2000000 in
theorem all10_ok (C : Ctx S E B P) (hM : HlM h H A) (hO : HotOn D H b0 l) (hne : H.L ≠ []) (hD : DkM P H.d D Ad) (hsz : sizes l ≤ 1048576) (hll : l.length ≤ 1000) (hH : Hp w P (A ++ (Ad ++ F))) :
    Calls Tryz.prog 34 #[ptr h] w fun e w' => ∃ v out P', e = .returned (.tuple #[v, .bool true]) ∧ Sub P P' ∧ out.map (·.1) = l ∧ BtsP P' v out ∧ Hp w' P' (A ++ (Ad ++ F)) := by
  have hst := hO.hstart hne
  have hen := hO.hend hne
  have HST := Lib.hid hst
  have HEN := Lib.hid hen
  have HM := Lib.hid hM
  have HO := Lib.hid hO
  have HD := Lib.hid hD
  have H0 := Lib.hid hH
  have HSZ := Lib.hid hsz
  clear hst hen hM hO hD hH hsz hne
  obtain ⟨en, hen2⟩ : ∃ en, endOf b0 l = en := ⟨_, rfl⟩
  go_enter Tryz.func34, Tryz.ntmps34
  go_wp2_with fail
  refine (hstart_ok HM.out HO.out.W H0.out).mono ?_
  rintro e w1 ⟨rfl, hH1⟩
  rw [HST.out]
  have H1 := Lib.hid hH1
  clear hH1
  go_wp2_with fail
  go_loopg [4, 5] H.L.length (fun m vo va wr => All10Rel P F A Ad H b0 m vo va wr)
  case atStart => exact ⟨0, P, [], [], by omega, rfl, Sub.refl _, BtsM.nil P, H1.out⟩
  case round =>
    obtain ⟨k, P1, out, Ao, hk, rfl, hs1, hB, hHr⟩ := hrel
    obtain ⟨va, vc, rfl⟩ := hB.row.shape
    rcases HO.out.upto k (by omega) with ⟨heq, hfl⟩ | ⟨hkn, hlt, hbase, hgl⟩
    · rw [heq]
      have HR := Lib.hid hHr
      have HB := Lib.hid hB
      have HS1 := Lib.hid hs1
      have HFL := Lib.hid hfl
      rw [hen2]
      rw [hfl]
      clear hHr hB hs1 hfl heq
      go_wp2_with fail
      refine (hend_ok HM.out HO.out.W HR.out).mono ?_
      rintro e w2 ⟨rfl, hH2⟩
      rw [HEN.out, hen2]
      have H2 := Lib.hid hH2
      clear hH2
      go_wp2_with fail
      go_ret2
      obtain ⟨P2, hs2, hb2, hH3⟩ := HB.out.seal (H2.out.perm (perm_t A Ad Ao F))
      have hmm := HB.out.map.trans HFL.out
      rw [HFL.out] at hb2
      exact ⟨.slice va l.length vc, out, P2, rfl, HS1.out.trans hs2, hmm, hb2, hH3⟩
    · obtain ⟨gj, rfl⟩ : ∃ x, gk = x + 1 := ⟨gk - 1, by omega⟩
      rw [hen2] at hlt
      have hsp : H.L = H.L.take k ++ ((H.L[k]).1, (H.L[k]).2) :: H.L.drop (k + 1) := HlM.nth k hkn
      have hch := HO.out.chain hsp
      have hgm : ((H.L[k]).1, (H.L[k]).2) ∈ H.L := (show H.L[k] ∈ H.L from List.getElem_mem hkn)
      have hse := HO.out.segend hgm
      have hsg := sum_sub H.L _ hgm
      rw [HO.out.fl] at hsg
      have hokG := (HO.out.sg _ hgm).1.ok
      have hbyG := (HO.out.sg _ hgm).1.by_
      have htk : ((H.L.take (k + 1)).map (·.2.l)).flatten = ((H.L.take k).map (·.2.l)).flatten ++ (H.L[k]).2.l := by rw [take_next H.L k hkn]; simp only [List.map_append, List.map_cons, List.map_nil, List.flatten_append, List.flatten_cons, List.flatten_nil, List.append_nil]
      have hlen2 : ((H.L.take k).map (·.2.l)).flatten.length + (H.L[k]).2.l.length ≤ 1000 := by
        have h5 := (HO.out.split hsp).2.2.2.2
        have := congrArg List.length h5
        simp only [List.length_append] at this
        omega
      obtain ⟨s, hs⟩ : ∃ s, (H.L[k]).1 = s := ⟨_, rfl⟩
      obtain ⟨G, hG⟩ : ∃ G, (H.L[k]).2 = G := ⟨_, rfl⟩
      rw [hG] at hgl hbase hch hse hsg hokG hbyG htk hlen2
      rw [hs, hG] at hsp
      try dsimp only at hse hsg hokG hbyG
      obtain ⟨g0, x, hgx⟩ : ∃ g0 x, G.l = g0 ++ [x] := by
        rcases snoc_cases G.l with h0 | h0
        · exact absurd h0 hgl
        · exact h0
      have hxo : BtOk x := hokG x (by rw [hgx]; simp)
      have hend2 : endOf b0 ((H.L.take (k + 1)).map (·.2.l)).flatten = x.b + x.r.length := by rw [htk, hgx, ← List.append_assoc, endOf_snoc]
      have hgl1 : 0 < G.l.length := List.length_pos_iff.2 hgl
      have hall : rdGo G.base 1048576 G.l [] 0 = G.l := rdGo_all G.base 1048576 G.l [] 0 _ _ hch (Int.le_refl _) (fun y hy => (hokG y hy).n1) (by have := HSZ.out; omega)
      obtain ⟨P0, hP0⟩ : ∃ z, ((H.L.take k).map (·.2.l)).flatten = z := ⟨_, rfl⟩
      rw [hP0] at hlt hB hbase htk hlen2
      rw [← hbase] at hlt
      rw [hP0, ← hbase]
      have hss : G.base < G.end_ := by omega
      have HR := Lib.hid (hHr)
      have HB := Lib.hid hB
      have HS1 := Lib.hid hs1
      have HALL := Lib.hid hall
      have HSP := Lib.hid hsp
      have HTK := Lib.hid htk
      have HGX := Lib.hid hgx
      have HE2 := Lib.hid hend2
      have HXO := Lib.hid hxo
      have HLE := Lib.hid hlen2
      have HP0 := Lib.hid hP0
      clear hHr hB hs1 hall hsp htk hgx hend2 hxo hlen2 hch hgm hsg hokG hbyG hG hs hbase hP0
      go_wp2_with fail
      refine (hend_ok HM.out HO.out.W HR.out).mono ?_
      rintro e w2 ⟨rfl, hH2⟩
      rw [HEN.out, hen2]
      have H2 := Lib.hid hH2
      clear hH2
      go_wp2_with fail
      refine (hread_seg (C.sub HS1.out) HM.out HO.out (HD.out.sub HS1.out) HSP.out G.base 1048576 (Int.le_refl _) hss (by decide) (by decide) H2.out).mono ?_
      rintro e w3 ⟨v3, out3, P3, rfl, hs3, hm3, hb3, hH3⟩
      rw [HALL.out] at hm3
      obtain ⟨sa, sc, rfl, hsc⟩ := hb3.shape
      have hol : out3.length = G.l.length := by rw [← hm3, List.length_map]
      rw [hol] at hb3 hsc ⊢
      have hj : G.l.length - 1 < out3.length := by omega
      obtain ⟨g, off, cap, hvv, hcap, hbc⟩ := hb3.at_ hj
      have hx3 : (out3[G.l.length - 1]'hj).1 = x := by
        have h1 : (out3.map (·.1))[G.l.length - 1]? = some x := by rw [hm3, HGX.out]; simp
        rw [List.getElem?_map, List.getElem?_eq_getElem hj] at h1
        simpa using h1
      have H3 := Lib.hid (hH3.perm (perm_t A Ad Ao F))
      have HB3 := Lib.hid hb3
      have HS3 := Lib.hid hs3
      have HBC := Lib.hid hbc
      have HM3 := Lib.hid hm3
      have HX3 := Lib.hid hx3
      have HOL := Lib.hid hol
      have hne3 : (G.l.length : Int) ≠ 0 := by omega
      simp only [hol] at hvv
      simp only [Value.slice.injEq] at hvv
      obtain ⟨rfl, -, rfl⟩ := hvv
      obtain ⟨n3, hn3⟩ : ∃ n, G.l.length = n + 1 := ⟨G.l.length - 1, by omega⟩
      rw [hn3] at HB3 HOL hsc ⊢
      have HN3 := Lib.hid hn3
      have hnb : n3 ≤ 1000 := by have := HLE.out; omega
      clear hH3 hs3 hb3 hbc hm3 hx3 hne3 hol
      go_wp2_with (at_builtin; refine wpList_app_bts rfl _ _ rfl (.slice va P0.length vc) P0 out rfl (HB.out.sub HS3.out) (.slice (some ⟨g, off, none⟩) (n3 + 1) sc) out3 rfl HB3.out H3.out (by have := HLE.out; rw [HOL.out]; omega) ?_)
      intro v4 w4 A4 hbm4 hH4
      obtain ⟨ya, yc, rfl⟩ := hbm4.row.shape
      obtain ⟨-, c0, c1, c2, hrc⟩ := hH4.use HBC.out
      have hbv : BtV w4 (.agg #[.int .i64 x.b, .int .i64 x.e, (out3[G.l.length - 1]'hj).2]) x := ⟨_, rfl, by have := hrc; rwa [HX3.out] at this⟩
      rw [HX3.out] at c0 c1
      obtain ⟨p2, hp2⟩ : ∃ p2, (out3[G.l.length - 1]'hj).2 = p2 := ⟨_, rfl⟩
      rw [hp2] at c2 hbv
      rw [HN3.out, show n3 + 1 - 1 = n3 from rfl] at c0 c1 c2
      have H4 := Lib.hid hH4
      have HBM4 := Lib.hid hbm4
      clear hH4 hbm4 hrc hp2
      go_wp2_with fail
      refine (rnext_any x (by have := HXO.out.b0; omega) (by have := HXO.out.b1; omega) (by have := HXO.out.n64; omega) _ _ hbv).mono ?_
      rintro e w5 ⟨rfl, hb5⟩
      have H5 := Lib.hid (H4.out.below hb5 (Nat.le_refl _))
      clear hb5
      go_wp2_with fail
      go_roundg gj
      case measure => omega
      case rel =>
        refine ⟨k + 1, P3, out ++ out3, A4, by omega, by rw [HE2.out], HS1.out.trans HS3.out, ?_, ?_⟩
        · rw [HTK.out, ← HM3.out]; have := HBM4.out; rwa [List.length_append, List.length_map] at this
        · have := perm_mid A4 (A ++ Ad) F
          exact H5.out.perm (by simpa [List.append_assoc] using this)

theorem joined10_ok {w : World} {v1 v2 : Value} {L : List Bt} (h1 : BtsR w v1 L) (h2 : BtsR w v2 L) (hl : L.length ≤ 1000000000) (hs : ∀ x, x ∈ L → BtSm x) :
    Calls Tryz.prog 35 #[v1, v2] w fun e w' => e = .returned (.bool true) ∧ Below w.heap.size w w' := by
  go_enter Tryz.func35, Tryz.ntmps35
  go_wp2_with fail
  refine (samebatches_ok h1 h2 hl hs).mono ?_
  rintro e w1 ⟨rfl, hb⟩
  have HB := Lib.hid hb
  clear hb
  go_wp2_with fail
  go_ret
  exact ⟨rfl, HB.out⟩
end
end Go.Proofs.YtncjffkpkmjgkaaGreatDoor.Sg

/-! Hs -/
namespace Go.Proofs.YtncjffkpkmjgkaaGreatDoor.Sg
open Go.RowKit Er Go.Maps

theorem long_big (a : Int) (m : Int) (h0 : 0 < m) (h1 : m ≤ 2000000000000) (w : World) :
    Calls Tryz.prog 8 #[.int .i64 a, .int .i64 m] w fun e w' => e = .returned (.int .i64 (a % m)) ∧ w = w' := by
  obtain ⟨b1, b2, b3, b4⟩ := tmod_emod a m h0
  have hm : ¬ m = 0 := by omega
  have B3 := Lib.hid b3
  have B4 := Lib.hid b4
  clear b3 b4
  by_cases h : Int.tmod a m < 0
  · go_enter Tryz.func8, Tryz.ntmps8
    go_wp2_with fail
    go_ret
    exact ⟨congrArg (fun z => Ending.returned (.int .i64 z)) (B3.out h), rfl⟩
  · go_enter Tryz.func8, Tryz.ntmps8
    go_wp2_with fail
    go_ret
    exact ⟨congrArg (fun z => Ending.returned (.int .i64 z)) (B4.out h), rfl⟩

section
variable {S : List Nat} {E : Nat → Addr} {B : Nat} {P : Pm} {h : Nat} {H : Hl} {D : Dk} {A Ad F : Mm} {w : World} {b0 : Int} {l : List Bt}

set_option maxRecDepth 100000 in
set_option maxHeartbeats 400000 in
theorem hbegin_again (hE : Pers P (fun w => Errs S w E B)) (h12 : 12 ∈ S) (hM : HlM h H A) (hne : H.L ≠ []) (hn : H.L.length ≤ 1000000) (base : Int) (hH : Hp w P (A ++ F)) :
    Calls Tryz.prog 40 #[ptr h, .int .i64 base] w fun e w' => e = .returned (.iface 289 (.pointer (some (E 12)))) ∧ Hp w' P (A ++ F) := by
  obtain ⟨a, c, hc, hat⟩ := hM.at_
  obtain ⟨-, -, -, c3, -, -, -⟩ := hat w P _ hH
  obtain ⟨n, hn2⟩ : ∃ n, H.L.length = n := ⟨_, rfl⟩
  have hpos : 0 < n := by rw [← hn2]; exact List.length_pos_iff.2 hne
  rw [hn2] at c3 hc hn
  have j1 : (0 : Int) < (n : Int) := by omega
  have ce : w.cell? ⟨6, 0, none⟩ = some (.iface 289 (.pointer (some (E 12)))) := (hH.use hE).at_ 12 h12
  have HH := Lib.hid hH
  clear hH hat hM hne hn2
  go_enter Tryz.func40, Tryz.ntmps40
  go_wp2_with fail
  go_ret
  exact ⟨rfl, HH.out⟩

set_option maxRecDepth 100000 in
set_option maxHeartbeats 400000 in
theorem hflush_on (C : Ctx S E B P) (hM : HlM h H A) (hO : HotOn D H b0 l) (hD : DkM P H.d D Ad) {L0 : List (Nat × Sg)} {s : Nat} {G : Sg} (hL : H.L = L0 ++ [(s, G)]) (hH : Hp w P (A ++ (Ad ++ F))) :
    Calls Tryz.prog 25 #[ptr h] w fun e w' => e = .returned .nilIface ∧ ∃ A' Ad' D', HlM h { H with L := L0 ++ [(s, G.syn)] } A' ∧ DkM P H.d D' Ad' ∧ HotOn D' { H with L := L0 ++ [(s, G.syn)] } b0 l ∧ Hp w' P (A' ++ (Ad' ++ F)) := by
  obtain ⟨a, c, hc, hat⟩ := hM.at_
  obtain ⟨-, -, -, c3, -, -, -⟩ := hat w P _ hH
  obtain ⟨n, hn2⟩ : ∃ n, H.L.length = n := ⟨_, rfl⟩
  have hpos : 0 < n := by rw [← hn2, hL]; simp
  rw [hn2] at c3 hc
  have hnz : ¬ (n : Int) = 0 := by omega
  obtain ⟨hGO, hGd, -, -⟩ := hO.sg (s, G) (by rw [hL]; simp)
  dsimp only at hGO hGd
  obtain ⟨A1, R, hG, hp, hback⟩ := hM.focus (l1 := L0) (l2 := []) hL
  have HH := Lib.hid hH
  have HM := Lib.hid hM
  have HL := Lib.hid hL
  have HO := Lib.hid hO
  have HP := Lib.hid hp
  have HBK := Lib.hid hback
  have HGO := Lib.hid hGO
  have HGD := Lib.hid hGd
  have HD := Lib.hid hD
  clear hH hat hM hn2 hL hO hp hback hGO hGd hD
  go_enter Tryz.func25, Tryz.ntmps25
  go_wp2_with fail
  refine (hlast_ok HM.out HL.out (by have := HO.out.small.2; rw [HL.out] at this; simp at this; omega) HH.out).mono ?_
  rintro e w1 ⟨rfl, hH1⟩
  have H1 := Lib.hid (show Hp w1 P (A1 ++ (Ad ++ (R ++ F))) from by
    have h1 := hH1.perm (HP.out (Ad ++ F))
    have h2 := perm_mid R Ad F
    exact h1.perm (List.Perm.append_left A1 h2))
  clear hH1
  go_wp2_with fail
  refine (ssync_on C hG HGO.out (by rw [HGD.out]; exact HD.out) H1.out).mono ?_
  rintro e w2 ⟨rfl, A2, Ad2, D2, hG2, hD2, hO2, hsm, hu, hlk, hH2⟩
  obtain ⟨A', hM', hp'⟩ := HBK.out G.syn A2 hG2
  have hO3 := HO.out.sync HL.out hO2 hsm hu hlk
  have H2 := Lib.hid (show Hp w2 P (A' ++ (Ad2 ++ F)) from by
    have h2 := perm_mid Ad2 R F
    exact (hH2.perm (List.Perm.append_left A2 h2)).perm (hp' (Ad2 ++ F)))
  have HM2 := Lib.hid hM'
  have HO3 := Lib.hid hO3
  have HD2 := Lib.hid (show DkM P H.d D2 Ad2 from by rw [← HGD.out]; exact hD2)
  clear hH2 hM' hO3 hD2 hO2 hG2 hp' hsm hu hlk
  go_wp2_with fail
  go_ret
  exact ⟨rfl, A', Ad2, D2, HM2.out, HD2.out, HO3.out, H2.out⟩

set_option maxRecDepth 100000 in
set_option maxHeartbeats 1000000 in
/-- How far a log of one segment is synced. -/
theorem hsynced_one (hM : HlM h H A) (hW : HlW H) {s : Nat} {G : Sg} (hL : H.L = [(s, G)]) (hH : Hp w P (A ++ F)) :
    Calls Tryz.prog 38 #[ptr h] w fun e w' => e = .returned (.int .i64 (synF G.kept G.base G.l)) ∧ Hp w' P (A ++ F) := by
  obtain ⟨a, c, hc, hat⟩ := hM.at_
  have hlen : H.L.length = 1 := by rw [hL]; rfl
  have hst : H.start = G.base := by simp [Hl.start, hL]
  have hgw := hW.g (s, G) (by rw [hL]; simp)
  dsimp only at hgw
  obtain ⟨A1, R, hG, hp, -⟩ := hM.focus (l1 := []) (l2 := []) hL
  have hx : ∀ hk : 0 < H.L.length, H.L[0] = (s, G) := fun hk => by simp [hL]
  have HH := Lib.hid hH
  have HM := Lib.hid hM
  have HW := Lib.hid hW
  have HAT := Lib.hid hat
  have HST := Lib.hid hst
  have HP := Lib.hid hp
  have HX := Lib.hid hx
  have HLE := Lib.hid hlen
  clear hH hat hM hlen hL hW hst hp hx
  obtain ⟨b, hb⟩ : ∃ b, (G.base : Int) = b := ⟨_, rfl⟩
  have HB := Lib.hid hb
  go_enter Tryz.func38, Tryz.ntmps38
  go_wp2_with fail
  refine (hstart_ok HM.out HW.out HH.out).mono ?_
  rintro e w1 ⟨rfl, hH1⟩
  rw [HST.out, hb]
  obtain ⟨-, -, -, c3, -, -, hcell⟩ := HAT.out w1 P _ hH1
  obtain ⟨g, rfl, cg⟩ := hcell 0 (by rw [HLE.out]; decide)
  rw [HX.out] at cg
  rw [HLE.out] at c3
  have H1 := Lib.hid (hH1.perm (HP.out F))
  have CG := Lib.hid cg
  clear hH1 hcell hb cg
  go_wp2_with fail
  go_loopg [3, 13] 1 (fun m vt vi wr => (m = 1 ∧ vi = .int .i64 0 ∧ vt = .int .i64 b ∧ wr = w1) ∨ (m = 0 ∧ vi = .int .i64 1 ∧ vt = .int .i64 (synF G.kept G.base G.l) ∧ Hp wr P (A1 ++ (R ++ F))))
  case atStart => exact .inl ⟨rfl, rfl, rfl, rfl⟩
  case round =>
    rcases hrel with ⟨rfl, rfl, rfl, rfl⟩ | ⟨rfl, rfl, rfl, hHr⟩
    · have cg := CG.out
      go_wp2_with fail
      refine (sbase_any hG H1.out).mono ?_
      rintro e w2 ⟨rfl, rfl⟩
      rw [HB.out]
      go_wp2_with fail
      refine (ssynced_ok hG hgw H1.out).mono ?_
      rintro e w3 ⟨rfl, hH3⟩
      have H3 := Lib.hid hH3
      clear hH3
      go_wp2_with fail
      go_roundg 0
      case measure => omega
      case rel => exact .inr ⟨rfl, rfl, rfl, H3.out⟩
    · have HR := Lib.hid hHr
      clear hHr
      go_wp2_with fail
      go_ret
      exact ⟨rfl, HR.out.perm (HP.out F).symm⟩

set_option maxRecDepth 100000 in
set_option maxHeartbeats 1000000 in
theorem hopen_bad (d : Nat) (hE : Pers P (fun w => Errs S w E B)) (h4 : 4 ∈ S) (seg every : Int) (hb : seg < 1 ∨ 1048576 < seg ∨ every < 1 ∨ 1048576 < every) (hH : Hp w P F) :
    Calls Tryz.prog 31 #[ptr d, .agg #[.int .i64 seg, .int .i64 every]] w fun e w' => e = .returned (.tuple #[.pointer none, .iface 289 (.pointer (some (E 4)))]) ∧ Hp w' P F := by
  have h4' := (((hH.alloc (.cells #[ptr d] 25)).alloc (.cells #[.int .i64 seg, .int .i64 every] 65)).alloc (.cells #[.pointer none] 53)).alloc (.cells #[.nilIface] 27)
  simp only [World.alloc_size'] at h4'
  obtain ⟨w4, hw4⟩ : ∃ w4, (((w.alloc (.cells #[ptr d] 25)).alloc (.cells #[.int .i64 seg, .int .i64 every] 65)).alloc (.cells #[.pointer none] 53)).alloc (.cells #[.nilIface] 27) = w4 := ⟨_, rfl⟩
  obtain ⟨bx, hbx⟩ : ∃ bx, bx = w.heap.size := ⟨_, rfl⟩
  rw [hw4, ← hbx] at h4'
  have z5 := (@Hp.cell _ _ _ h4' (bx + 1 + 1 + 1) #[.nilIface] 27 (0, 0) (by simp)) (i := 0) rfl
  have z4 := (@Hp.cell _ _ _ h4' (bx + 1 + 1) #[.pointer none] 53 (0, 0) (by simp)) (i := 0) rfl
  have z1 := (@Hp.cell _ _ _ h4' (bx + 1) #[.int .i64 seg, .int .i64 every] 65 (0, 0) (by simp)) (i := 0) rfl
  have z2 := (@Hp.cell _ _ _ h4' (bx + 1) #[.int .i64 seg, .int .i64 every] 65 (0, 0) (by simp)) (i := 1) rfl
  have f5 : w4.frozen? ⟨bx + 1 + 1 + 1, 0, none⟩ = false := h4'.frozen (b := bx + 1 + 1 + 1) (c := #[.nilIface]) (t := 27) (by simp) 0
  have f4 : w4.frozen? ⟨bx + 1 + 1, 0, none⟩ = false := h4'.frozen (b := bx + 1 + 1) (c := #[.pointer none]) (t := 53) (by simp) 0
  have ce : w4.cell? ⟨0, 0, none⟩ = some (.iface 289 (.pointer (some (E 4)))) := (h4'.use hE).at_ 4 h4
  have hfin : ∀ w5, Hp w5 P ((bx + 1 + 1 + 1, .cells #[.nilIface] 27 (0, 0)) :: (bx + 1 + 1, .cells #[.pointer none] 53 (0, 0)) :: (bx + 1, .cells #[.int .i64 seg, .int .i64 every] 65 (0, 0)) :: (bx, .cells #[ptr d] 25 (0, 0)) :: F) →
      ((w5.setCell ⟨bx + 1 + 1, 0, none⟩ (.pointer none)).setCell ⟨bx + 1 + 1 + 1, 0, none⟩ (.iface 289 (.pointer (some (E 4))))).cell? ⟨bx + 1 + 1, 0, none⟩ = some (.pointer none) ∧
      ((w5.setCell ⟨bx + 1 + 1, 0, none⟩ (.pointer none)).setCell ⟨bx + 1 + 1 + 1, 0, none⟩ (.iface 289 (.pointer (some (E 4))))).cell? ⟨bx + 1 + 1 + 1, 0, none⟩ = some (.iface 289 (.pointer (some (E 4)))) ∧
      Hp ((w5.setCell ⟨bx + 1 + 1, 0, none⟩ (.pointer none)).setCell ⟨bx + 1 + 1 + 1, 0, none⟩ (.iface 289 (.pointer (some (E 4))))) P F := by
    intro w5 h1
    have h2 := (Hp.mid (A := [(bx + 1 + 1 + 1, .cells #[.nilIface] 27 (0, 0))]) (B := [(bx + 1 + 1, .cells #[.pointer none] 53 (0, 0))]) h1).set 0 (.pointer none)
    have h3 := (Hp.mid (A := [_]) (B := [(bx + 1 + 1 + 1, .cells #[.nilIface] 27 (0, 0))]) h2).set 0 (.iface 289 (.pointer (some (E 4))))
    exact ⟨(@Hp.cell _ _ _ h3 (bx + 1 + 1) #[.pointer none] 53 (0, 0) (by simp)) (i := 0) rfl, (@Hp.cell _ _ _ h3 (bx + 1 + 1 + 1) #[.iface 289 (.pointer (some (E 4)))] 27 (0, 0) (by simp)) (i := 0) rfl, h3.drop (M := [_, _, _, _])⟩
  have HFIN := Lib.hid hfin
  have H4 := Lib.hid h4'
  have HW4 := Lib.hid hw4
  have HBX := Lib.hid hbx
  have HE := Lib.hid hE
  clear hH h4' hw4 hbx hfin hE
  have hcase : seg < 1 ∨ (¬ seg < 1 ∧ 1048576 < seg) ∨ (¬ seg < 1 ∧ ¬ 1048576 < seg ∧ (every < 1 ∨ 1048576 < every)) := by omega
  rcases hcase with h1 | ⟨h1, h2⟩ | ⟨h1, h2, h3⟩
  · refine (callsIn_wide (n := 6)).1 ?_
    refine callsIn_of_wp_marks Tryz.func31 rfl trivial ?_ rfl
    simp only [Tryz.ntmps31, List.size_toArray, List.length_cons, List.length_nil, Nat.reduceAdd, Nat.reduceSub, Array.replicate_succ, Array.replicate_zero, List.push_toArray, List.append_toArray, List.nil_append, List.cons_append]
    refine wpIn_wide.2 ?_
    go_wp2_with fail
    rw [HW4.out, ← HBX.out]
    go_wp2_with fail
    go_region
    go_wp2_with fail
    obtain ⟨q1, q2, q3⟩ := HFIN.out w4 H4.out
    exact ⟨.tuple #[.pointer none, .iface 289 (.pointer (some (E 4)))], by simp [results, Tryz.results31, go_sem, q1, q2], rfl, q3.drew⟩
  · refine (callsIn_wide (n := 6)).1 ?_
    refine callsIn_of_wp_marks Tryz.func31 rfl trivial ?_ rfl
    simp only [Tryz.ntmps31, List.size_toArray, List.length_cons, List.length_nil, Nat.reduceAdd, Nat.reduceSub, Array.replicate_succ, Array.replicate_zero, List.push_toArray, List.append_toArray, List.nil_append, List.cons_append]
    refine wpIn_wide.2 ?_
    go_wp2_with fail
    rw [HW4.out, ← HBX.out]
    go_wp2_with fail
    go_region
    go_wp2_with fail
    obtain ⟨q1, q2, q3⟩ := HFIN.out w4 H4.out
    exact ⟨.tuple #[.pointer none, .iface 289 (.pointer (some (E 4)))], by simp [results, Tryz.results31, go_sem, q1, q2], rfl, q3.drew⟩
  · refine (callsIn_wide (n := 6)).1 ?_
    refine callsIn_of_wp_marks Tryz.func31 rfl trivial ?_ rfl
    simp only [Tryz.ntmps31, List.size_toArray, List.length_cons, List.length_nil, Nat.reduceAdd, Nat.reduceSub, Array.replicate_succ, Array.replicate_zero, List.push_toArray, List.append_toArray, List.nil_append, List.cons_append]
    refine wpIn_wide.2 ?_
    go_wp2_with fail
    rw [HW4.out, ← HBX.out]
    go_wp2_with fail
    refine (ixnew_bad (H4.out.use HE.out) h4 every h3).mono ?_
    rintro e w5 ⟨rfl, q, rfl⟩
    have H5 := Lib.hid (H4.out.drewN q)
    have z5' := (@Hp.cell _ _ _ H5.out (bx + 1 + 1 + 1) #[.nilIface] 27 (0, 0) (by simp)) (i := 0) rfl
    have z4' := (@Hp.cell _ _ _ H5.out (bx + 1 + 1) #[.pointer none] 53 (0, 0) (by simp)) (i := 0) rfl
    have f5' : (w4.drewN q).frozen? ⟨bx + 1 + 1 + 1, 0, none⟩ = false := H5.out.frozen (b := bx + 1 + 1 + 1) (c := #[.nilIface]) (t := 27) (by simp) 0
    have f4' : (w4.drewN q).frozen? ⟨bx + 1 + 1, 0, none⟩ = false := H5.out.frozen (b := bx + 1 + 1) (c := #[.pointer none]) (t := 53) (by simp) 0
    go_wp2_with fail
    obtain ⟨q1, q2, q3⟩ := HFIN.out _ H5.out
    exact ⟨.tuple #[.pointer none, .iface 289 (.pointer (some (E 4)))], by simp [results, Tryz.results31, go_sem, q1, q2], rfl, q3⟩
end
end Go.Proofs.YtncjffkpkmjgkaaGreatDoor.Sg

/-! Yg -/
namespace Go.Proofs.YtncjffkpkmjgkaaGreatDoor.Sg
open Go.RowKit Er Go.Maps

section
variable {P : Pm} {d : Nat} {D : Dk} {A F M : Mm} {w : World}
set_option maxRecDepth 100000 in
theorem darm_ok (hD : DkM P d D A) (n : Nat) (hn : n ≤ 1099511627776) (hH : Hp w P (A ++ F)) :
    Calls Tryz.prog 36 #[ptr d, .int .i64 n] w fun e w' => e = .returned (.tuple #[]) ∧ ∃ A', DkM P d { D with arm := n } A' ∧ Hp w' P (A' ++ F) := by
  obtain ⟨nb, no, kb, ko, cv, Ac, Af, rfl, h2, h3, h4, h5, h6⟩ := hD
  have hm : (d, Obj.cells (dkCells D nb kb cv) 82 (0, 0)) ∈ ((d, Obj.cells (dkCells D nb kb cv) 82 (0, 0)) :: (nb, no) :: (kb, ko) :: (Ac ++ Af)) ++ F := by simp
  have c5 : w.cell? ⟨d, 5, none⟩ = some (.int .i64 D.arm) := hH.cell hm rfl
  have f5 := hH.frozen hm 5
  have HH := Lib.hid hH
  have hx : max (n : Int) 0 = (n : Int) := by omega
  have hx2 : ¬ (n : Int) < 0 := by omega
  clear hH hm
  go_enter Tryz.func36, Tryz.ntmps36
  go_wp2_with fail
  go_end0
  exact ⟨rfl, _, ⟨nb, no, kb, ko, cv, Ac, Af, rfl, h2, h3, h4, h5, hn, h6.2⟩, HH.out.set 5 (.int .i64 n)⟩
set_option maxRecDepth 100000 in
theorem ddown_ok (hD : DkM P d D A) (hH : Hp w P (A ++ F)) :
    Calls Tryz.prog 39 #[ptr d] w fun e w' => e = .returned (.bool D.down) ∧ w = w' := by
  obtain ⟨nb, no, kb, ko, cv, Ac, Af, rfl, h2, h3, h4, h5, h6⟩ := hD
  have hm : (d, Obj.cells (dkCells D nb kb cv) 82 (0, 0)) ∈ ((d, Obj.cells (dkCells D nb kb cv) 82 (0, 0)) :: (nb, no) :: (kb, ko) :: (Ac ++ Af)) ++ F := by simp
  have c6 : w.cell? ⟨d, 6, none⟩ = some (.bool D.down) := hH.cell hm rfl
  clear hH hm h2 h3 h4 h5 h6
  go_enter Tryz.func39, Tryz.ntmps39
  go_wp2_with fail
  go_ret
  exact ⟨rfl, rfl⟩

set_option maxRecDepth 100000 in
set_option maxHeartbeats 1000000 in
theorem at10_ok {v : Value} {out : List (Bt × Value)} {L : List Bt} (hv : BtsP P v out) (hm : out.map (·.1) = L) (hok : ∀ x, x ∈ L → BtOk x ∧ BtBy x) (k : Nat) (hk : k ≤ L.length) (hl : L.length ≤ 1000000) (o : Int) (ho : endOf ((0 : Nat) : Int) (L.take k) = o) (hH : Hp w P M) :
    Calls Tryz.prog 33 #[v, .int .i64 k] w fun e w' => e = .returned (.int .i64 o) ∧ Hp w' P M := by
  have hol : out.length = L.length := by rw [← hm, List.length_map]
  by_cases hk0 : k = 0
  · subst hk0
    have ho0 : o = 0 := by rw [← ho]; rfl
    subst ho0
    obtain ⟨a, c, rfl, -⟩ := hv.shape
    clear ho hv hm
    go_enter Tryz.func33, Tryz.ntmps33
    go_wp2_with fail
    go_ret
    exact ⟨rfl, hH⟩
  · obtain ⟨j, rfl⟩ : ∃ j, k = j + 1 := ⟨k - 1, by omega⟩
    have hjl : j < L.length := by omega
    have hjo : j < out.length := by rw [hol]; exact hjl
    obtain ⟨g, off, cap, rfl, hcap, hbc⟩ := hv.at_ hjo
    obtain ⟨x, hx⟩ : ∃ x, L[j] = x := ⟨_, rfl⟩
    have hxj : (out[j]).1 = x := by
      have h1 : (out.map (·.1))[j]? = some x := by rw [hm, List.getElem?_eq_getElem hjl, hx]
      rw [List.getElem?_map, List.getElem?_eq_getElem hjo] at h1
      simpa using h1
    obtain ⟨p, hp⟩ : ∃ p, (out[j]).2 = p := ⟨_, rfl⟩
    obtain ⟨-, c0, c1, c2, -⟩ := hH.use hbc
    rw [hxj] at c0 c1
    rw [hp] at c2
    have hbv : BtV w (.agg #[.int .i64 x.b, .int .i64 x.e, p]) x := by
      obtain ⟨-, -, -, -, h5⟩ := hH.use hbc
      rw [hxj, hp] at h5
      exact ⟨_, rfl, h5⟩
    obtain ⟨hxo, hxb⟩ := hok x (by rw [← hx]; exact List.getElem_mem _)
    have hoe : x.b + (x.r.length : Int) = o := by rw [← ho, take_next L j hjl, hx, endOf_snoc]
    obtain ⟨n, hn⟩ : ∃ n, out.length = n := ⟨_, rfl⟩
    rw [hn] at hcap ⊢
    have hjn : j < n := by omega
    have i1 : (0 : Int) ≤ (j : Int) := by omega
    have i2 : (j : Int) < (n : Int) := by omega
    have hj9 : j ≤ 1000000 := by omega
    have hje : (((j + 1 : Nat) : Int) == 0) = false := beq_eq_false_iff_ne.2 (by omega)
    have hje2 : ¬ ((j : Int) + 1) = 0 := by omega
    have H0 := Lib.hid hH
    have HBV := Lib.hid hbv
    have HXO := Lib.hid hxo
    have HOE := Lib.hid hoe
    clear hv hm hok hk ho hol hjo hjl hbc hxj hp hx hn hH hbv hxo hxb hoe hk0
    go_enter Tryz.func33, Tryz.ntmps33
    go_wp2_with fail
    refine (rnext_any x (by have := HXO.out.b0; omega) (by have := HXO.out.b1; omega) (by have := HXO.out.n64; omega) _ _ HBV.out).mono ?_
    rintro e w1 ⟨rfl, hb1⟩
    rw [HOE.out]
    have H1 := Lib.hid (H0.out.below hb1 (Nat.le_refl _))
    clear hb1
    go_wp2_with fail
    go_ret
    exact ⟨rfl, H1.out⟩
end
end Go.Proofs.YtncjffkpkmjgkaaGreatDoor.Sg

/-! Yi -/
namespace Go.Proofs.YtncjffkpkmjgkaaGreatDoor.Sg
open Go.RowKit Er Go.Maps

theorem Lk.next : ∀ {l m : List Sg} {b : Int} {X Y : Sg}, Lk b (l ++ X :: Y :: m) → (Y.base : Int) = X.end_ ∧ X.kept = sizes X.l
  | [], _, _, _, _, h => ⟨h.2.2.1, (h.2.1 (by simp)).2⟩
  | _ :: _, _, _, _, _, h => Lk.next h.2.2
/-- How far a log is synced, when its first segments were looked at. -/
def synT (H : Hl) (v : Int) (k : Nat) : Int := match H.L[k]? with | some p => p.2.base | none => v
theorem synT_at {H : Hl} {v : Int} {k : Nat} (hk : k < H.L.length) : synT H v k = (H.L[k].2.base : Int) := by unfold synT; rw [List.getElem?_eq_getElem hk]
theorem synT_end {H : Hl} {v : Int} {k : Nat} (hk : H.L.length ≤ k) : synT H v k = v := by unfold synT; rw [List.getElem?_eq_none hk]
theorem synT_next {H : Hl} {b0 v : Int} {L0 : List (Nat × Sg)} {s : Nat} {G : Sg} (hl : Lk b0 (H.L.map (·.2))) (hL : H.L = L0 ++ [(s, G)]) (hv : synF G.kept G.base G.l = v) {k : Nat} (hk : k < H.L.length) : synF H.L[k].2.kept H.L[k].2.base H.L[k].2.l = synT H v (k + 1) := by
  by_cases h : k + 1 < H.L.length
  · rw [synT_at h]
    have h1 : H.L = H.L.take k ++ (H.L[k] :: H.L[k + 1] :: H.L.drop (k + 2)) := by
      have e1 := (take_split H.L k hk).symm
      rw [List.drop_eq_getElem_cons h] at e1
      exact e1
    have h2 : Lk b0 ((H.L.take k).map (·.2) ++ H.L[k].2 :: H.L[k + 1].2 :: (H.L.drop (k + 2)).map (·.2)) := by
      have e : H.L.map (·.2) = (H.L.take k).map (·.2) ++ H.L[k].2 :: H.L[k + 1].2 :: (H.L.drop (k + 2)).map (·.2) := by
        have h3 := congrArg (List.map (·.2)) h1
        rw [List.map_append, List.map_cons, List.map_cons] at h3
        exact h3
      rw [← e]; exact hl
    obtain ⟨q1, q2⟩ := Lk.next h2
    rw [q1, q2, synF_all]
    rfl
  · rw [synT_end (by omega), ← hv]
    have hlen : H.L.length = L0.length + 1 := by rw [hL]; simp
    have hx : H.L[k] = (s, G) := by
      have h1 : H.L[k]? = some (s, G) := by rw [hL, List.getElem?_append_right (by omega), show k - L0.length = 0 by omega]; rfl
      rw [List.getElem?_eq_getElem hk] at h1
      exact Option.some.inj h1
    rw [hx]

section
variable {P : Pm} {h : Nat} {H : Hl} {A F : Mm} {w : World} {b0 : Int} {L0 : List (Nat × Sg)} {s : Nat} {G : Sg}
set_option maxRecDepth 100000 in
set_option maxHeartbeats 1000000 in
theorem hsynced_on (hM : HlM h H A) (hW : HlW H) (hl : Lk b0 (H.L.map (·.2))) (hL : H.L = L0 ++ [(s, G)]) (hH : Hp w P (A ++ F)) :
    Calls Tryz.prog 38 #[ptr h] w fun e w' => e = .returned (.int .i64 (synF G.kept G.base G.l)) ∧ Hp w' P (A ++ F) := by
  obtain ⟨a, c, hc, hat⟩ := hM.at_
  obtain ⟨v, hv⟩ : ∃ v, synF G.kept G.base G.l = v := ⟨_, rfl⟩
  obtain ⟨n, hn⟩ : ∃ n, H.L.length = n := ⟨_, rfl⟩
  have hn0 : 0 < n := by rw [← hn, hL]; simp
  have hn9 : n ≤ 1000000 := by rw [← hn]; exact hW.n
  have hst : H.start = synT H v 0 := by
    unfold Hl.start synT
    cases hq : H.L with
    | nil => rw [hq] at hn; simp at hn; omega
    | cons p q => rfl
  have hnx := fun k (hk : k < H.L.length) => synT_next hl hL hv hk
  rw [hv]
  have HH := Lib.hid hH
  have HM := Lib.hid hM
  have HW := Lib.hid hW
  have HAT := Lib.hid hat
  have HST := Lib.hid hst
  have HNX := Lib.hid hnx
  have HN := Lib.hid hn
  clear hH hat hM hW hst hnx hn hl hL hv hc
  go_enter Tryz.func38, Tryz.ntmps38
  go_wp2_with fail
  refine (hstart_ok HM.out HW.out HH.out).mono ?_
  rintro e w1 ⟨rfl, hH1⟩
  rw [HST.out]
  obtain ⟨-, -, -, c3, -, -, hcell⟩ := HAT.out w1 P _ hH1
  rw [HN.out] at c3
  obtain ⟨g, rfl, -⟩ := hcell 0 (by rw [HN.out]; exact hn0)
  have H1 := Lib.hid hH1
  clear hH1 hcell
  go_wp2_with fail
  go_loopg [3, 13] n (fun m vt vi wr => ∃ k : Nat, k + m = n ∧ vi = .int .i64 k ∧ vt = .int .i64 (synT H v k) ∧ Hp wr P (A ++ F))
  case atStart => exact ⟨0, by omega, rfl, rfl, H1.out⟩
  case round =>
    obtain ⟨k, hk, rfl, rfl, hHr⟩ := hrel
    by_cases hkn : k < n
    · obtain ⟨gj, rfl⟩ : ∃ x, gk = x + 1 := ⟨gk - 1, by omega⟩
      have hkl : k < H.L.length := by rw [HN.out]; exact hkn
      obtain ⟨-, -, -, -, -, -, hcell⟩ := HAT.out wr P _ hHr
      obtain ⟨g', e1, cg⟩ := hcell k hkl
      simp only [Option.some.injEq, Addr.mk.injEq] at e1
      obtain ⟨rfl, -⟩ := e1
      obtain ⟨A1, R, hG, hp, -⟩ := HM.out.focus (HlM.nth k hkl)
      have hgw := HW.out.g _ (List.getElem_mem hkl)
      obtain ⟨b, hb⟩ : ∃ b, synT H v k = b := ⟨_, rfl⟩
      obtain ⟨b', hb'⟩ : ∃ b, synT H v (k + 1) = b := ⟨_, rfl⟩
      have hbb : ((H.L[k]).2.base : Int) = b := by rw [← hb, synT_at hkl]
      have hbn := (HNX.out k hkl).trans hb'
      obtain ⟨sk, hsk⟩ : ∃ q, (H.L[k]).1 = q := ⟨_, rfl⟩
      rw [hsk] at cg hG
      rw [hb]
      have HR := Lib.hid (hHr.perm (hp F))
      have HPP := Lib.hid (hp F).symm
      have HG := Lib.hid hG
      have HGW := Lib.hid hgw
      have HBB := Lib.hid hbb
      have HBN := Lib.hid hbn
      have HB' := Lib.hid hb'
      have HK := Lib.hid hk
      have j1 : (k : Int) < (n : Int) := by omega
      have j2 : (0 : Int) ≤ (k : Int) := by omega
      clear hcell hG hp hgw hb hb' hbb hbn hsk hHr hk
      go_wp2_with fail
      refine (sbase_any HG.out HR.out).mono ?_
      rintro e w2 ⟨rfl, rfl⟩
      rw [HBB.out]
      go_wp2_with fail
      refine (ssynced_ok HG.out HGW.out HR.out).mono ?_
      rintro e w3 ⟨rfl, hH3⟩
      rw [HBN.out]
      have H3 := Lib.hid (hH3.perm HPP.out)
      clear hH3
      go_wp2_with fail
      go_roundg gj
      case measure => have := HK.out; omega
      case rel => exact ⟨k + 1, by have := HK.out; omega, by simp, by rw [HB'.out], H3.out⟩
    · have HR := Lib.hid hHr
      have hkk : k = n := by omega
      have hte : synT H v k = v := synT_end (by rw [HN.out]; omega)
      rw [hte]
      clear hHr hte
      subst hkk
      go_wp2_with fail
      go_ret
      exact ⟨rfl, HR.out⟩
end
end Go.Proofs.YtncjffkpkmjgkaaGreatDoor.Sg

/-! Yj -/
namespace Go.Proofs.YtncjffkpkmjgkaaGreatDoor.Sg
open Go.RowKit Er Go.Maps

section
variable {S : List Nat} {E : Nat → Addr} {B : Nat} {P : Pm} {h : Nat} {H : Hl} {D : Dk} {A Ad F : Mm} {w : World} {b0 : Int} {l : List Bt}
set_option maxRecDepth 100000 in
set_option maxHeartbeats 1000000 in
theorem hflush_any (C : Ctx S E B P) (hM : HlM h H A) (hO : HotOn D.un H b0 l) (hD : DkM P H.d D Ad) {L0 : List (Nat × Sg)} {s : Nat} {G : Sg} (hL : H.L = L0 ++ [(s, G)]) (hH : Hp w P (A ++ (Ad ++ F))) :
    Calls Tryz.prog 25 #[ptr h] w fun e w' =>
      (e = .returned .nilIface ∧ ∃ A' Ad' D', HlM h { H with L := L0 ++ [(s, G.syn)] } A' ∧ DkM P H.d D' Ad' ∧ HotOn D'.un { H with L := L0 ++ [(s, G.syn)] } b0 l ∧ PowOn D D' ∧ (D'.room = D.room ∧ D'.n = D.n) ∧ Hp w' P (A' ++ (Ad' ++ F))) ∨
      (e = .returned (crashE E) ∧ ∃ Ad', DkM P H.d D.beg Ad' ∧ PowOff D D.beg ∧ Hp w' P (A ++ (Ad' ++ F))) := by
  obtain ⟨a, c, hc, hat⟩ := hM.at_
  obtain ⟨-, -, -, c3, -, -, -⟩ := hat w P _ hH
  obtain ⟨n, hn2⟩ : ∃ n, H.L.length = n := ⟨_, rfl⟩
  have hpos : 0 < n := by rw [← hn2, hL]; simp
  rw [hn2] at c3 hc
  have hnz : ¬ (n : Int) = 0 := by omega
  obtain ⟨hGO, hGd, -, -⟩ := hO.sg (s, G) (by rw [hL]; simp)
  dsimp only at hGO hGd
  obtain ⟨A1, R, hG, hp, hback⟩ := hM.focus (l1 := L0) (l2 := []) hL
  have HH := Lib.hid hH
  have HM := Lib.hid hM
  have HL := Lib.hid hL
  have HO := Lib.hid hO
  have HP := Lib.hid hp
  have HBK := Lib.hid hback
  have HGO := Lib.hid hGO
  have HGD := Lib.hid hGd
  have HD := Lib.hid hD
  clear hH hat hM hn2 hL hO hp hback hGO hGd hD
  go_enter Tryz.func25, Tryz.ntmps25
  go_wp2_with fail
  refine (hlast_ok HM.out HL.out (by have := HO.out.small.2; rw [HL.out] at this; simp at this; omega) HH.out).mono ?_
  rintro e w1 ⟨rfl, hH1⟩
  have H1 := Lib.hid (show Hp w1 P (A1 ++ (Ad ++ (R ++ F))) from by
    have h1 := hH1.perm (HP.out (Ad ++ F))
    have h2 := perm_mid R Ad F
    exact h1.perm (List.Perm.append_left A1 h2))
  clear hH1
  go_wp2_with fail
  cases hok : D.ok with
  | true =>
    refine (ssync_k C hok hG HGO.out (by rw [HGD.out]; exact HD.out) H1.out).mono ?_
    rintro e w2 ⟨rfl, A2, Ad2, D2, hG2, hD2, hO2, hsm, hu, hlk, hpo, hH2⟩
    obtain ⟨A', hM', hp'⟩ := HBK.out G.syn A2 hG2
    have hO3 := HO.out.sync HL.out hO2 hsm hu hlk
    have H2 := Lib.hid (show Hp w2 P (A' ++ (Ad2 ++ F)) from by
      have h2 := perm_mid Ad2 R F
      exact (hH2.perm (List.Perm.append_left A2 h2)).perm (hp' (Ad2 ++ F)))
    have HM2 := Lib.hid hM'
    have HO3 := Lib.hid hO3
    have HD2 := Lib.hid (show DkM P H.d D2 Ad2 from by rw [← HGD.out]; exact hD2)
    have HPO := Lib.hid hpo
    have HRN := Lib.hid (show D2.room = D.room ∧ D2.n = D.n from ⟨hsm.room, hsm.n⟩)
    clear hH2 hM' hO3 hD2 hO2 hG2 hp' hsm hu hlk hpo hok
    go_wp2_with fail
    go_ret
    exact .inl ⟨rfl, A', Ad2, D2, HM2.out, HD2.out, HO3.out, HPO.out, HRN.out, H2.out⟩
  | false =>
    refine (ssync_x C hok hG (by have := HGO.out.nm; omega) (by rw [HGD.out]; exact HD.out) H1.out).mono ?_
    rintro e w2 ⟨rfl, Ad2, hD2, hH2⟩
    have H2 := Lib.hid (show Hp w2 P (A ++ (Ad2 ++ F)) from by
      have h2 := perm_mid Ad2 R F
      exact (hH2.perm (List.Perm.append_left A1 h2)).perm (HP.out (Ad2 ++ F)).symm)
    have HD2 := Lib.hid (show DkM P H.d D.beg Ad2 from by rw [← HGD.out]; exact hD2)
    have HPO := Lib.hid (beg_off hok)
    clear hH2 hD2 hok
    go_wp2_with fail
    go_ret
    exact .inr ⟨rfl, Ad2, HD2.out, HPO.out, H2.out⟩
end
end Go.Proofs.YtncjffkpkmjgkaaGreatDoor.Sg
