/- rec.Read of a batch's bytes that are torn. vint.Reader over any bytes: NewReader, Left, Fixed, Bytes. rec.read of any bytes. Bytes that begin with a batch; any bytes are batches and what begins with none. rec.Read refuses bytes that begin with no batch. -/
import Derived.Test.YtncjffkpkmjgkaaGreatDoorMg
import Derived.Test.YtncjffkpkmjgkaaGreatDoorMsa
import Derived.Test.YtncjffkpkmjgkaaGreatDoorMc
import Derived.Deep.AppendLies
import Derived.Deep.RegionLaw

/-! Ta -/
namespace Go.Proofs.YtncjffkpkmjgkaaGreatDoor.Sg
open Go.RowKit Er Go.Maps

section
variable {S : List Nat} {E : Nat → Addr} {B : Nat}
set_option maxRecDepth 100000 in
set_option maxHeartbeats 1000000 in
theorem short_a (t : List Nat) (h8 : t.length < 8) : RdBad S E B t := by
  intro P F w v C hH h
  obtain ⟨a, cap, rfl, hcap⟩ := h.shape
  obtain ⟨n, hn⟩ : ∃ n, t.length = n := ⟨_, rfl⟩
  rw [hn] at h8 ⊢
  have hb1 : Below w.heap.size w (w.alloc (.cells #[.int .i64 0, .int .i64 0, .slice none 0 0] 38)) := (Below.refl _ _).alloc (Nat.le_refl _) _
  have hH1 := hH.below hb1 (Nat.le_refl _)
  have c0 : w.cell? ⟨10, 0, none⟩ = some (.iface 289 (.pointer (some (E 0)))) := (hH.use C.errs).at_ 0 (C.all 0 (by decide))
  have c1 : (w.alloc (.cells #[.int .i64 0, .int .i64 0, .slice none 0 0] 38)).cell? ⟨10, 0, none⟩ = some (.iface 289 (.pointer (some (E 0)))) := (hH1.use C.errs).at_ 0 (C.all 0 (by decide))
  have i1 : (n : Int) < 8 := by omega
  have H1 := Lib.hid hH1
  have H0 := Lib.hid hH
  have hrow0 : (w.alloc (.cells #[.int .i64 0, .int .i64 0, .slice none 0 0] 38)).rowIs w.heap.size 38 3 (btF 0 0 (.slice none 0 0)) :=
    World.rowIs_alloc w #[.int .i64 0, .int .i64 0, .slice none 0 0] _ _ (fun i hi => by
      have hi' : i < 3 := hi
      rcases (show i = 0 ∨ i = 1 ∨ i = 2 by omega) with rfl | rfl | rfl <;> rfl)
  have hg8 : 10 < w.heap.size := World.block_lt_of_cell? _ _ ((hH.use C.errs).at_ 0 (C.all 0 (by decide)))
  have hg9 : ¬ 10 = w.heap.size := by omega
  have e0 := hrow0.cell (i := 0) (by omega)
  have e1 := hrow0.cell (i := 1) (by omega)
  have e2 := hrow0.cell (i := 2) (by omega)
  have f0 := hrow0.frozen 0
  have f1 := hrow0.frozen 1
  have f2 := hrow0.frozen 2
  have HB1 : Hid (Below (w.heap.size + 1) (w.alloc (.cells #[.int .i64 0, .int .i64 0, .slice none 0 0] 38)) (w.alloc (.cells #[.int .i64 0, .int .i64 0, .slice none 0 0] 38))) := Below.refl _ _
  have hsz1 : w.heap.size < (w.alloc (.cells #[.int .i64 0, .int .i64 0, .slice none 0 0] 38)).heap.size := by simp
  clear hH hH1 hb1 h hcap hn
  go_enter Tryz.func110, Tryz.ntmps110
  go_wp2_with fail
  go_region_held3 (fun w' => w'.cell? ⟨10, 0, none⟩ = some (.iface 289 (.pointer (some (E 0)))))
    (first
      | go_keep
      | assumption)
    (fail)
  go_wp2_with fail
  have z0 : (w.alloc (.cells #[.int .i64 0, .int .i64 0, .slice none 0 0] 38)).drew.cell? ⟨w.heap.size, 0, none⟩ = some (.int .i64 0) := e0
  have z1 : (w.alloc (.cells #[.int .i64 0, .int .i64 0, .slice none 0 0] 38)).drew.cell? ⟨w.heap.size, 1, none⟩ = some (.int .i64 0) := e1
  have z2 : (w.alloc (.cells #[.int .i64 0, .int .i64 0, .slice none 0 0] 38)).drew.cell? ⟨w.heap.size, 2, none⟩ = some (.slice none 0 0) := e2
  exact bodyPost_ret (v := .tuple #[.agg #[.int .i64 0, .int .i64 0, .slice none 0 0], .int .i64 0, .iface 289 (.pointer (some (E 0)))]) (by simp [results, Tryz.results110, go_sem, z0, z1, z2]) rfl ⟨0, P, rfl, Sub.refl P, H1.out.drew⟩
set_option maxRecDepth 100000 in
set_option maxHeartbeats 1000000 in
theorem short_b (bd : List Nat) (hbl : bd.length ≤ 65536) (m : Nat) (hm : m < bd.length) : RdBad S E B (leB bd.length 4 ++ (leB (crcF 0 bd) 4 ++ bd.take m)) := by
  intro P F w v C hH h
  obtain ⟨xs, hxs⟩ : ∃ xs, leB bd.length 4 ++ (leB (crcF 0 bd) 4 ++ bd.take m) = xs := ⟨_, rfl⟩
  have hlen : xs.length = 8 + m := by rw [← hxs]; simp [leB_len]; omega
  have ht8 : (xs.drop 0).take 8 = leB bd.length 4 ++ leB (crcF 0 bd) 4 := by
    rw [← hxs, List.drop_zero, ← List.append_assoc]
    exact List.take_left' (by simp [leB_len])
  rw [hxs] at h
  obtain ⟨g, off, cap, hv, hg, -⟩ := slB_cell h (k := 0) (by omega)
  subst hv
  obtain ⟨a0, cap0, hcc, hcap⟩ := h.shape
  cases hcc
  have hs8 : SlB w (.slice (some ⟨g, off, none⟩) 8 cap) (leB bd.length 4 ++ leB (crcF 0 bd) 4) := by
    have := h.drop (p := 0) (by omega) (m := 8) (by omega) cap (by omega)
    rwa [ht8, Nat.add_zero] at this
  obtain ⟨n, hn⟩ : ∃ n, bd.length = n := ⟨_, rfl⟩
  obtain ⟨c, hc⟩ : ∃ c, crcF 0 bd = c := ⟨_, rfl⟩
  have hclt : c < 4294967296 := by rw [← hc]; exact crcF_lt 0 bd
  rw [hn, hc] at hs8
  rw [hn] at hbl hm
  have l4 : leV (leB n 4) = n := by rw [leV_leB]; omega
  have l4c : leV (leB c 4) = c := by rw [leV_leB]; omega
  have L4 := Lib.hid l4
  have L4C := Lib.hid l4c
  have HX0 : Hid ((leB n 4 ++ leB c 4).drop 0 = leB n 4 ++ leB c 4) := List.drop_zero
  have HX4 : Hid ((leB n 4 ++ leB c 4).drop 4 = leB c 4 ++ []) := by show _ = _; rw [List.append_nil]; exact drop_len _ _ _ (leB_len _ _)
  have HLN : Hid ((leB n 4 ++ leB c 4).length ≤ 1099511627776) := by show _ ≤ _; simp [leB_len]
  have HS8 := Lib.hid (hs8.below ((Below.refl _ _).alloc (Nat.le_refl _) (.cells #[.int .i64 0, .int .i64 0, .slice none 0 0] 38)) rfl)
  obtain ⟨q, hq⟩ : ∃ q, xs.length = q := ⟨_, rfl⟩
  rw [hq] at hlen hcap
  rw [hq]
  have i1 : ¬ (q : Int) < 8 := by omega
  have i2 : (8 : Int) ≤ (cap : Int) := by omega
  have i3 : ¬ cap = 0 := by omega
  have i4 : ¬ (65536 : Int) < (n : Int) := by omega
  have i5 : ((q : Int) - 8) < (n : Int) := by omega
  have H0 := Lib.hid hH
  clear h hs8 hn hc l4 l4c hxs ht8 hq hlen hm
  go_enter Tryz.func110, Tryz.ntmps110
  go_wp2_with fail
  refine (newreader_any _ (leB n 4 ++ leB c 4) _ HS8.out HLN.out).mono ?_
  rintro e w1 ⟨⟨r, v1, rfl, hr, hrd⟩, hb1⟩
  simp only [World.alloc_size'] at hr
  have hb1' : Below (w.heap.size + 1) (w.alloc (.cells #[.int .i64 0, .int .i64 0, .slice none 0 0] 38)) w1 := hb1.mono (by simp)
  clear hb1
  go_wp2_with fail
  refine (fixed_at 4 (leB n 4) (leB_len _ _) (by omega) (by omega) (leB_lt _ _) n L4.out r 0 v1 _ _ w1 hrd HX0.out).mono ?_
  rintro e w2 ⟨rfl, hrd2, hup2⟩
  have hb2 := hb1'.trans (hup2.to_below (B := w.heap.size + 1) (by have := hb1'.size; simpa using this) (fun b hb => by simp at hb; omega))
  clear hrd hup2 hb1'
  go_wp2_with fail
  refine (fixed_at 4 (leB c 4) (leB_len _ _) (by omega) (by omega) (leB_lt _ _) c L4C.out r _ v1 _ [] w2 hrd2 HX4.out).mono ?_
  rintro e w3 ⟨rfl, hrd3, hup3⟩
  have hb3 := hb2.trans (hup3.to_below (B := w.heap.size + 1) (by have := hb2.size; simpa using this) (fun b hb => by simp at hb; omega))
  have hH3 := H0.out.below (below_box hb3 (Nat.le_refl _)) (Nat.le_refl _)
  have c3 : w3.cell? ⟨10, 0, none⟩ = some (.iface 289 (.pointer (some (E 0)))) := (hH3.use C.errs).at_ 0 (C.all 0 (by decide))
  have hrow0 : (w.alloc (.cells #[.int .i64 0, .int .i64 0, .slice none 0 0] 38)).rowIs w.heap.size 38 3 (btF 0 0 (.slice none 0 0)) :=
    World.rowIs_alloc w #[.int .i64 0, .int .i64 0, .slice none 0 0] _ _ (fun i hi => by
      have hi' : i < 3 := hi
      rcases (show i = 0 ∨ i = 1 ∨ i = 2 by omega) with rfl | rfl | rfl <;> rfl)
  have hrow3 := hrow0.of_block (hb3.block w.heap.size (by omega))
  have hg8 : 10 < w.heap.size := World.block_lt_of_cell? _ _ ((hH.use C.errs).at_ 0 (C.all 0 (by decide)))
  have hg9 : ¬ 10 = w.heap.size := by omega
  have e0 := hrow3.cell (i := 0) (by omega)
  have e1 := hrow3.cell (i := 1) (by omega)
  have e2 := hrow3.cell (i := 2) (by omega)
  have f0 := hrow3.frozen 0
  have f1 := hrow3.frozen 1
  have f2 := hrow3.frozen 2
  have hrF := ((hrow3.set 0 (.int .i64 0)).set 1 (.int .i64 0)).set 2 (.slice none 0 0)
  have huF : Upd [w.heap.size] w3 (((w3.setCell ⟨w.heap.size, 0, none⟩ (.int .i64 0)).setCell ⟨w.heap.size, 1, none⟩ (.int .i64 0)).setCell ⟨w.heap.size, 2, none⟩ (.slice none 0 0)) :=
    (((Upd.refl _ _).setCell _ _ _ (.inl (by simp))).setCell _ _ _ (.inl (by simp))).setCell _ _ _ (.inl (by simp))
  have hbF : Below w.heap.size w (((w3.setCell ⟨w.heap.size, 0, none⟩ (.int .i64 0)).setCell ⟨w.heap.size, 1, none⟩ (.int .i64 0)).setCell ⟨w.heap.size, 2, none⟩ (.slice none 0 0)) := (below_box hb3 (Nat.le_refl _)).trans (huF.to_below (by have := hb3.size; simp at this; omega) (fun b hb => by simp at hb; omega))
  have hHF := H0.out.below hbF (Nat.le_refl _)
  have c8 : (((w3.setCell ⟨w.heap.size, 0, none⟩ (.int .i64 0)).setCell ⟨w.heap.size, 1, none⟩ (.int .i64 0)).setCell ⟨w.heap.size, 2, none⟩ (.slice none 0 0)).cell? ⟨10, 0, none⟩ = some (.iface 289 (.pointer (some (E 0)))) := (hHF.use C.errs).at_ 0 (C.all 0 (by decide))
  have HHF := Lib.hid hHF
  have HRF := Lib.hid hrF
  clear hrF huF hHF hbF
  have HB3 := Lib.hid hb3
  clear hrd2 hrd3 hup3 hb2 hb3 hH3 hrow0 hH
  go_wp2_with fail
  go_region_held3 (fun w' => w'.cell? ⟨10, 0, none⟩ = some (.iface 289 (.pointer (some (E 0)))))
    (first
      | go_keep
      | exact c3
      | exact c8)
    (fail)
  go_wp2_with fail
  have g0 : (((w3.setCell ⟨w.heap.size, 0, none⟩ (.int .i64 0)).setCell ⟨w.heap.size, 1, none⟩ (.int .i64 0)).setCell ⟨w.heap.size, 2, none⟩ (.slice none 0 0)).drew.cell? ⟨w.heap.size, 0, none⟩ = some (.int .i64 0) := HRF.out.cell (i := 0) (by omega)
  have g1 : (((w3.setCell ⟨w.heap.size, 0, none⟩ (.int .i64 0)).setCell ⟨w.heap.size, 1, none⟩ (.int .i64 0)).setCell ⟨w.heap.size, 2, none⟩ (.slice none 0 0)).drew.cell? ⟨w.heap.size, 1, none⟩ = some (.int .i64 0) := HRF.out.cell (i := 1) (by omega)
  have g2 : (((w3.setCell ⟨w.heap.size, 0, none⟩ (.int .i64 0)).setCell ⟨w.heap.size, 1, none⟩ (.int .i64 0)).setCell ⟨w.heap.size, 2, none⟩ (.slice none 0 0)).drew.cell? ⟨w.heap.size, 2, none⟩ = some (.slice none 0 0) := HRF.out.cell (i := 2) (by omega)
  exact bodyPost_ret (v := .tuple #[.agg #[.int .i64 0, .int .i64 0, .slice none 0 0], .int .i64 0, .iface 289 (.pointer (some (E 0)))]) (by simp [results, Tryz.results110, go_sem, g0, g1, g2]) rfl ⟨0, P, rfl, Sub.refl P, HHF.out.drew⟩
/-- A batch's bytes that are torn read as no batch. -/
theorem torn (x : Bt) (hok : BtOk x) (m : Nat) (hm : m < (batB x).length) : RdBad S E B ((batB x).take m) := by
  by_cases h8 : m < 8
  · exact short_a _ (by rw [List.length_take]; omega)
  · have e : (batB x).take m = leB (bodyB x).length 4 ++ (leB (crcF 0 (bodyB x)) 4 ++ (bodyB x).take (m - 8)) := by
      have hl : (leB (bodyB x).length 4 ++ leB (crcF 0 (bodyB x)) 4).length = 8 := by simp [leB_len]
      rw [show batB x = (leB (bodyB x).length 4 ++ leB (crcF 0 (bodyB x)) 4) ++ bodyB x from rfl, List.take_append, List.take_of_length_le (by omega), hl, List.append_assoc]
    rw [e]
    exact short_b _ (by have := bodyB_len x hok; omega) _ (by have := batB_len x; omega)

/-- A file of batches, cut anywhere: whole batches, and what reads as no batch. -/
theorem flat_cut : ∀ (l : List Bt) (p : Nat), (∀ x, x ∈ l → BtOk x ∧ BtBy x) → p ≤ sizes l → ∃ k t, k ≤ l.length ∧ (flatB l).take p = flatB (l.take k) ++ t ∧ (t = [] ∨ RdBad S E B t) ∧ sizes (l.take k) ≤ p ∧ (∀ j, j ≤ l.length → sizes (l.take j) ≤ p → j ≤ k)
  | [], p, _, _ => ⟨0, [], by simp, by simp [flatB], .inl rfl, by simp [sizes], fun j hj _ => by simpa using hj⟩
  | x :: l, p, hok, hp => by
    have e : flatB (x :: l) = batB x ++ flatB l := rfl
    have hz : sizes (x :: l) = szB x + sizes l := by simp [sizes]
    by_cases h : p < szB x
    · refine ⟨0, (batB x).take p, by simp, ?_, .inr (torn x (hok x List.mem_cons_self).1 p h), by simp [sizes], fun j hj hjp => ?_⟩
      · rw [e, List.take_append_of_le_length (by unfold szB at h; omega)]; rfl
      · cases j with
        | zero => omega
        | succ j =>
          have h2 : sizes ((x :: l).take (j + 1)) = szB x + sizes (l.take j) := by simp [sizes]
          omega
    · obtain ⟨k, t, h1, h2, h3, h4, h5⟩ := flat_cut l (p - szB x) (fun y hy => hok y (List.mem_cons_of_mem _ hy)) (by omega)
      refine ⟨k + 1, t, by simpa using h1, ?_, h3, ?_, fun j hj hjp => ?_⟩
      · rw [e, List.take_append, List.take_of_length_le (by unfold szB at h; omega)]
        show _ = (batB x ++ flatB (l.take k)) ++ t
        rw [List.append_assoc, ← h2]
        rfl
      · have h6 : sizes ((x :: l).take (k + 1)) = szB x + sizes (l.take k) := by simp [sizes]
        omega
      · cases j with
        | zero => omega
        | succ j =>
          have h6 : sizes ((x :: l).take (j + 1)) = szB x + sizes (l.take j) := by simp [sizes]
          have := h5 j (by simpa using hj) (by omega)
          omega
end
end Go.Proofs.YtncjffkpkmjgkaaGreatDoor.Sg

/-! Ue -/
namespace Go.Proofs.YtncjffkpkmjgkaaGreatDoor.Sg
open Go.RowKit Er Go.Maps

theorem vs_of_owns {w : World} {base : Nat} {v : Value} {xs : List Nat} (h : w.ownsRow base 5 1 v xs.length (bcells xs)) : VS v xs := by
  rcases h.2 with ⟨rfl, h0⟩ | ⟨g, cap, cur, rfl, -, -, hc, -⟩
  · exact .inl ⟨rfl, List.eq_nil_of_length_eq_zero h0⟩
  · exact .inr ⟨g, cap, rfl, hc⟩

set_option maxRecDepth 100000 in
set_option maxHeartbeats 400000 in
theorem newreader_vs (v : Value) (xs : List Nat) (w : World) (h : SlB w v xs) (hl : xs.length ≤ 1099511627776) :
    Calls Tryz.prog 143 #[v] w fun e w' => (∃ r v', e = .returned (.pointer (some ⟨r, 0, none⟩)) ∧ w.heap.size ≤ r ∧ RdV w' r v' xs 0 ∧ VS v' xs ∧ ∀ b, v'.ownBlock = some b → w.heap.size ≤ b ∧ b < w'.heap.size) ∧ Below w.heap.size w w' := by
  go_enter Tryz.func143, Tryz.ntmps143
  go_wp2_with fail
  refine (clone_any v xs w h hl).mono ?_
  rintro e w1 ⟨⟨v1, rfl, hown, -⟩, hb1⟩
  have hsl := (owns_read hown).2
  have hne := owns_lt hown (Nat.le_refl _)
  have hvs := vs_of_owns hown
  have hbl : ∀ b, v1.ownBlock = some b → w.heap.size ≤ b ∧ b < w1.heap.size := fun b hb => World.ownsRow.lt hown b hb
  obtain ⟨va, vc, hv, -⟩ := hsl.shape
  subst hv
  have HSL := Lib.hid hsl
  have HVS := Lib.hid hvs
  have HBL := Lib.hid hbl
  have hw1 := hb1.size
  clear hown hsl hvs hbl
  go_wp2_with fail
  go_ret
  refine ⟨⟨_, _, rfl, hw1, ⟨?_, HSL.out.below ((Below.refl _ _).alloc (Nat.le_refl _) _) rfl, hne, by omega, hl⟩, HVS.out, fun b hb => ⟨(HBL.out b hb).1, by have := (HBL.out b hb).2; simp; omega⟩⟩, hb1.alloc hw1 _⟩
  exact World.rowIs_alloc w1 #[.slice va xs.length vc, .int .i64 0, .nilIface] 228 (rdF (.slice va xs.length vc) 0) (fun i hi => by
    have hi' : i < 3 := hi
    rcases (show i = 0 ∨ i = 1 ∨ i = 2 by omega) with rfl | rfl | rfl <;> rfl)

section
variable {S : List Nat} {E : Nat → Addr} {B : Nat} {w : World} {r p : Nat} {v : Value} {xs : List Nat}
set_option maxRecDepth 100000 in
theorem fixed_e (n : Nat) (h : RdE w r v xs) : Calls Tryz.prog 144 #[.pointer (some ⟨r, 0, none⟩), .int .i64 n] w fun e w' => e = .returned (.int .u64 0) ∧ w = w' := by
  obtain ⟨t, x, c2⟩ := h.c2
  clear h
  go_enter Tryz.func144, Tryz.ntmps144
  go_wp2_with fail
  go_ret
  exact ⟨rfl, rfl⟩
set_option maxRecDepth 100000 in
set_option maxHeartbeats 1000000 in
theorem fixed_v (h0 : 0 ∈ S) (n : Nat) (hn0 : 0 < n) (hn : n ≤ 8) (hE : Errs S w E B) (hB : B ≤ r) (hby : ∀ y ∈ xs, y < 256) (h : RdV w r v xs p) :
    Calls Tryz.prog 144 #[.pointer (some ⟨r, 0, none⟩), .int .i64 n] w fun e w' => (∃ z : Nat, e = .returned (.int .u64 z) ∧ z < 2 ^ (8 * n)) ∧ RdA w' r v xs ∧ Upd [r] w w' := by
  have hle := h.le
  have hlt := h.lt
  by_cases hc : n ≤ xs.length - p
  · have hyl : ((xs.drop p).take n).length = n := by simp; omega
    have hyb : ∀ y ∈ (xs.drop p).take n, y < 256 := fun y hy => hby y (List.mem_of_mem_drop (List.mem_of_mem_take hy))
    have hx : xs.drop p = (xs.drop p).take n ++ (xs.drop p).drop n := (List.take_append_drop _ _).symm
    have hb := leV_lt _ hyb
    rw [hyl] at hb
    refine (fixed_at n _ hyl hn hn0 hyb _ rfl r p v xs _ w h hx).mono ?_
    rintro e w' ⟨rfl, h1, h2⟩
    exact ⟨⟨_, rfl, hb⟩, .inl ⟨_, h1⟩, h2⟩
  · have c0 := h.c0
    have c1 := h.c1
    have c2 := h.c2
    have HR := Lib.hid h
    have HE := Lib.hid hE
    have i5 : ((xs.length - p : Nat) : Int) < (n : Int) := by omega
    have HBD : Hid (∀ wz, Below w.heap.size w wz → Calls Tryz.prog 175 #[.pointer (some ⟨r, 0, none⟩), .int .i64 p, .iface 289 (.pointer (some (E 0)))] wz fun e w' => e = .returned (.tuple #[]) ∧ RdE w' r v xs ∧ (w'.cell? ⟨r, 1, none⟩ = some (.int .i64 p) ∧ w'.cell? ⟨10, 0, none⟩ = some (.iface 289 (.pointer (some (E 0))))) ∧ Upd [r] w w') := fun wz hz => by
      refine (bad_any (p := p) h0 0 h0 (hE.below (hz.mono hE.hi)) hB p hle (h.below hz (Nat.le_refl _))).mono ?_
      rintro e w' ⟨rfl, q1, q3, q2⟩
      have hu := (Upd.of_below (M := [r]) hz (Nat.le_refl _)).trans q2
      exact ⟨rfl, q1, ⟨q3, (hE.below (hu.to_below hE.hi (fun k hk => by simp at hk; omega))).at_ 0 h0⟩, hu⟩
    clear h hE
    go_enter Tryz.func144, Tryz.ntmps144
    go_wp2_with fail
    refine (left_ok r p _ xs w HR.out).mono ?_
    rintro e w2 ⟨rfl, hb2⟩
    have hr2 := HR.out.below hb2 (Nat.le_refl _)
    have e1 := hr2.c1
    have ce : w2.cell? ⟨10, 0, none⟩ = some (.iface 289 (.pointer (some (E 0)))) := (HE.out.below (hb2.mono HE.out.hi)).at_ 0 h0
    have HB2 := Lib.hid hb2
    clear hr2 hb2 c0 c1 c2
    go_wp2_with fail
    go_region_held3 (fun w' => w'.cell? ⟨r, 1, none⟩ = some (.int .i64 p) ∧ w'.cell? ⟨10, 0, none⟩ = some (.iface 289 (.pointer (some (E 0)))))
      (first
        | go_keep
        | exact HQ3)
      (first
        | (with_reducible refine (HBD.out _ ?_).mono ?_
           · exact below_drewN HB2.out _
           rintro e w3 ⟨rfl, HQ1, HQ3, HQ2⟩))
    go_wp2_with fail
    go_ret
    exact ⟨⟨0, rfl, Nat.pow_pos (by omega)⟩, .inr HQ1, HQ2⟩

set_option maxRecDepth 100000 in
set_option maxHeartbeats 2000000 in
theorem bytes_v (h0 : 0 ∈ S) (h2 : 2 ∈ S) (h4 : 4 ∈ S) (most : Nat) (hmm : most ≤ 1099511627776) (hE : Errs S w E B) (hB : B ≤ r) (hby : ∀ y ∈ xs, y < 256) (hv : VS v xs) (h : RdV w r v xs p) :
    Calls Tryz.prog 179 #[.pointer (some ⟨r, 0, none⟩), .int .i64 most] w fun e w' => (∃ (ys : List Nat) (a : Option Addr) (c : Nat), e = .returned (.slice a ys.length c) ∧ w'.ownsRow w.heap.size 5 1 (.slice a ys.length c) ys.length (bcells ys) ∧ ys.length ≤ most ∧ ∀ y ∈ ys, y < 256) ∧ RdA w' r v xs ∧ Upd [r] w w' := by
  have c1 := h.c1
  have hle0 := h.le
  have HR := Lib.hid h
  have HE := Lib.hid hE
  have HV := Lib.hid hv
  have HBY := Lib.hid hby
  clear h hE hv hby
  go_enter Tryz.func179, Tryz.ntmps179
  go_wp2_with fail
  refine (num_v h0 h2 h4 most HE.out hB HBY.out HV.out HR.out).mono ?_
  rintro e w1 ⟨⟨z, rfl, hz⟩, hra, hu1⟩
  have HE1 : Hid (Errs S w1 E B) := HE.out.below (hu1.to_below HE.out.hi (fun k hk => by simp at hk; omega))
  rcases hra with ⟨q, hr1⟩ | hre
  · have hql := hr1.le
    have hxl := hr1.lt
    have d0 := hr1.c0
    have d1 := hr1.c1
    have d2 := hr1.c2
    have HR1 := Lib.hid hr1
    have HU1 := Lib.hid hu1
    have hzn : z ≤ xs.length - q ∨ xs.length - q < z := by omega
    clear hr1 hu1 c1
    rcases hzn with hzl | hzl
    · obtain ⟨ys, hys⟩ : ∃ ys, (xs.drop q).take z = ys := ⟨_, rfl⟩
      have hyl : ys.length = z := by rw [← hys]; simp; omega
      have hyb : ∀ y ∈ ys, y < 256 := fun y hy => HBY.out y (List.mem_of_mem_drop (List.mem_of_mem_take (by rw [hys]; exact hy)))
      have HYB := Lib.hid hyb
      have HYS := Lib.hid hys
      have HYL := Lib.hid hyl
      have i5 : ¬ ((xs.length - q : Nat) : Int) < (z : Int) := by omega
      have i6 : ((xs.length - q : Nat) : Int) ≤ 1099511627776 := by omega
      clear hyb hys hyl
      go_wp2_with fail
      refine (left_ok r q _ xs w1 HR1.out).mono ?_
      rintro e w2 ⟨rfl, hb2⟩
      have hr2 := HR1.out.below hb2 (Nat.le_refl _)
      have HR2 := Lib.hid hr2
      have e0 := hr2.c0
      have e1 := hr2.c1
      have e2 := hr2.c2
      have hf2 := hr2.row.frozen 1
      have hu2 := HU1.out.trans (Upd.of_below hb2 (Nat.le_refl _))
      have HU2 := Lib.hid hu2
      clear hr2 d0 d1 d2 hb2 hu2
      go_upto_region 8 with fail
      have hset := HR2.out.set (q + z) (by omega)
      rw [show ((q + z : Nat) : Int) = (q : Int) + (z : Int) from by omega] at hset
      have hu3 := HU2.out.setCell r 1 (.int .i64 ((q : Int) + (z : Int))) (.inl (by simp))
      generalize hw3 : w2.setCell ⟨r, 1, none⟩ (.int .i64 ((q : Int) + (z : Int))) = w3
      rw [hw3] at hset hu3
      have HR3 := Lib.hid hset
      have HU3 := Lib.hid hu3
      have e0 := hset.c0
      have e1 := hset.c1
      rw [show ((q + z : Nat) : Int) = (q : Int) + (z : Int) from by omega] at e1
      have hr3 := hset.row.lt
      have hsz3 := hu3.size
      have hsl3 := hset.sl
      have i0 : (0 : Int) ≤ (q : Int) + (z : Int) := by omega
      have i1 : (0 : Int) ≤ (q : Int) := by omega
      have i2 : (q : Int) ≤ (q : Int) + (z : Int) := by omega
      have i9 : IntKind.i64.wrap (q : Int) = (q : Int) := by rw [IntKind.wrap_i64]; omega
      have i10 : IntKind.i64.wrap (z : Int) = (z : Int) := by rw [IntKind.wrap_i64]; omega
      have i8 : ((q : Int) + (z : Int)).toNat = q + z := by omega
      clear hset hw3 hu3
      have hcs : v = .slice none 0 0 ∧ xs = [] ∨ ∃ g cap, v = .slice (some ⟨g, 0, none⟩) xs.length cap ∧ xs.length ≤ cap := HV.out
      rcases hcs with ⟨hv1, hx1⟩ | ⟨g, cap, hv1, hcap⟩
      · have hq0 : q = 0 := by rw [hx1] at hql; simpa using hql
        have hz0 : z = 0 := by rw [hx1] at hzl; simp at hzl; omega
        rw [hv1] at e0
        have HX1 := Lib.hid hx1
        have HV1 := Lib.hid hv1
        have j1 : IntKind.i64.wrap 0 = 0 := by decide
        have HS : Hid (∀ wz, Below w3.heap.size w3 wz → SlB wz (.slice none 0 0) []) := fun wz hz => .inl ⟨rfl, rfl⟩
        subst hq0 hz0
        simp only [Int.natCast_zero, Int.add_zero] at e1
        clear i0 i1 i2 i8 i9 i10 i5 i6 hx1 hv1 hsl3
        go_region_held3 (fun w' => w'.cell? ⟨r, 0, none⟩ = some (.slice none 0 0) ∧ w'.cell? ⟨r, 1, none⟩ = some (.int .i64 0))
          (first
            | go_keep
            | (go_split_ands
               exact ⟨(hb4.cell (p := ⟨r, 0, none⟩) (by simpa using hr3)).trans (by assumption), (hb4.cell (p := ⟨r, 1, none⟩) (by simpa using hr3)).trans (by assumption)⟩))
          (first
            | (with_reducible refine (clone_any _ [] _ ?_ ?_).mono ?_
               · exact HS.out _ (below_drewN (Below.refl _ _) _)
               · simp
               rintro e w4 ⟨⟨v4, rfl, hown4, -⟩, hb4⟩))
        go_wp2_with fail
        go_ret
        obtain ⟨ra, rc, rfl⟩ := owns_shape hown4
        refine ⟨⟨[], ra, rc, rfl, owns_bound hown4 (by simpa using hsz3), Nat.zero_le _, by simp⟩, .inl ⟨_, HR3.out.below ((Below.refl _ _).drew.trans (hb4.mono (by simp))) (Nat.le_refl _)⟩, ?_⟩
        exact HU3.out.trans (Upd.of_below ((Below.refl _ _).drew.trans (hb4.mono (by simp))) (Nat.le_refl _))
      · rw [hv1] at e0 hsl3
        have i7 : (q : Int) + (z : Int) ≤ (cap : Int) := by omega
        have HV1 := Lib.hid hv1
        by_cases hcq : cap = q
        · have hz0 : z = 0 := by omega
          have hxq : xs.length = q := by omega
          subst hz0
          rw [hxq] at e0
          subst hcq
          simp only [Int.natCast_zero, Int.add_zero] at e1
          have j1 : (0 : Int) ≤ (cap : Int) := by omega
          have j2 : IntKind.i64.wrap 0 = 0 := by decide
          have HS : Hid (∀ wz, Below w3.heap.size w3 wz → SlB wz (.slice (some ⟨g, 0, none⟩) 0 0) []) := fun wz hz => .inr (.inr ⟨_, 0, rfl, rfl⟩)
          clear i0 i1 i2 i7 i8 i10 i5 i6 hsl3 hcap hxq hv1
          go_region_held3 (fun w' => w'.cell? ⟨r, 0, none⟩ = some (.slice (some ⟨g, 0, none⟩) cap cap) ∧ w'.cell? ⟨r, 1, none⟩ = some (.int .i64 (cap : Int)))
            (first
              | go_keep
              | (go_split_ands
                 exact ⟨(hb4.cell (p := ⟨r, 0, none⟩) (by simpa using hr3)).trans (by assumption), (hb4.cell (p := ⟨r, 1, none⟩) (by simpa using hr3)).trans (by assumption)⟩))
            (first
              | (with_reducible refine (clone_any _ [] _ ?_ ?_).mono ?_
                 · exact HS.out _ (below_drewN (Below.refl _ _) _)
                 · simp
                 rintro e w4 ⟨⟨v4, rfl, hown4, -⟩, hb4⟩))
          go_wp2_with fail
          go_ret
          obtain ⟨ra, rc, rfl⟩ := owns_shape hown4
          refine ⟨⟨[], ra, rc, rfl, owns_bound hown4 (by simpa using hsz3), Nat.zero_le _, by simp⟩, .inl ⟨_, HR3.out.below ((Below.refl _ _).drew.trans (hb4.mono (by simp))) (Nat.le_refl _)⟩, ?_⟩
          exact HU3.out.trans (Upd.of_below ((Below.refl _ _).drew.trans (hb4.mono (by simp))) (Nat.le_refl _))
        · have hsl : SlB w3 (.slice (some ⟨g, q, none⟩) z (cap - q)) ys := by
            have := hsl3.drop (p := q) (by omega) (m := z) (by omega) (cap - q) (by omega)
            rwa [HYS.out, Nat.zero_add] at this
          have HS : Hid (∀ wz, Below w3.heap.size w3 wz → SlB wz (.slice (some ⟨g, q, none⟩) z (cap - q)) ys) := fun wz hz => hsl.below hz rfl
          obtain ⟨n, hn⟩ : ∃ n, xs.length = n := ⟨_, rfl⟩
          rw [hn] at e0 hcap hql
          have HN := Lib.hid hn
          have hyl := HYL.out
          have hy9 : ys.length ≤ 1099511627776 := by rw [hn] at hxl; omega
          clear hsl hsl3 hv1 hn hxl hzl i5 i6
          go_region_held3 (fun w' => w'.cell? ⟨r, 0, none⟩ = some (.slice (some ⟨g, 0, none⟩) n cap) ∧ w'.cell? ⟨r, 1, none⟩ = some (.int .i64 ((q : Int) + (z : Int))))
            (first
              | go_keep
              | (go_split_ands
                 exact ⟨(hb4.cell (p := ⟨r, 0, none⟩) (by simpa using hr3)).trans (by assumption), (hb4.cell (p := ⟨r, 1, none⟩) (by simpa using hr3)).trans (by assumption)⟩))
            (first
              | (with_reducible refine (clone_any _ ys _ ?_ ?_).mono ?_
                 · exact HS.out _ (below_drewN (Below.refl _ _) _)
                 · omega
                 rintro e w4 ⟨⟨v4, rfl, hown4, -⟩, hb4⟩))
          go_wp2_with fail
          go_ret
          obtain ⟨ra, rc, rfl⟩ := owns_shape hown4
          refine ⟨⟨ys, ra, rc, rfl, owns_bound hown4 (by simpa using hsz3), by rw [HYL.out]; exact hz, HYB.out⟩, .inl ⟨_, HR3.out.below ((Below.refl _ _).drew.trans (hb4.mono (by simp))) (Nat.le_refl _)⟩, ?_⟩
          exact HU3.out.trans (Upd.of_below ((Below.refl _ _).drew.trans (hb4.mono (by simp))) (Nat.le_refl _))
    · have i5 : ((xs.length - q : Nat) : Int) < (z : Int) := by omega
      have i6 : ((xs.length - q : Nat) : Int) ≤ 1099511627776 := by omega
      go_wp2_with fail
      refine (left_ok r q _ xs w1 HR1.out).mono ?_
      rintro e w2 ⟨rfl, hb2⟩
      have ce : w2.cell? ⟨10, 0, none⟩ = some (.iface 289 (.pointer (some (E 0)))) := (HE1.out.below (hb2.mono HE1.out.hi)).at_ 0 h0
      have HB2 := Lib.hid hb2
      clear hb2 d0 d1 d2
      go_wp2_with fail
      refine (bad_any (p := q) h0 0 h0 (HE1.out.below (HB2.out.mono HE1.out.hi)) hB p hle0 (HR1.out.below HB2.out (Nat.le_refl _))).mono ?_
      rintro e w3 ⟨rfl, q1, -, q2⟩
      obtain ⟨t, x, k2⟩ := q1.c2
      have Q1 := Lib.hid q1
      have Q2 := Lib.hid ((HU1.out.trans (Upd.of_below HB2.out (Nat.le_refl _))).trans q2)
      clear q1 q2 ce
      go_wp2_with fail
      go_ret
      exact ⟨⟨[], none, 0, rfl, World.ownsRow_nil _ _ _ _, Nat.zero_le _, by simp⟩, .inr Q1.out, Q2.out⟩
  · obtain ⟨t, x, d2⟩ := hre.c2
    have HRE := Lib.hid hre
    have HU1 := Lib.hid hu1
    clear hre hu1 c1
    go_wp2_with fail
    go_ret
    exact ⟨⟨[], none, 0, rfl, World.ownsRow_nil _ _ _ _, Nat.zero_le _, by simp⟩, .inr HRE.out, HU1.out⟩
end
end Go.Proofs.YtncjffkpkmjgkaaGreatDoor.Sg

/-! Uf -/
namespace Go.Proofs.YtncjffkpkmjgkaaGreatDoor.Sg
open Go.RowKit Er Go.Maps

section
variable {S : List Nat} {E : Nat → Addr} {B : Nat} {w : World} {r : Nat} {v : Value} {xs : List Nat}
theorem fixed_a (h0 : 0 ∈ S) (n : Nat) (hn0 : 0 < n) (hn : n ≤ 8) (hE : Errs S w E B) (hB : B ≤ r) (hby : ∀ y ∈ xs, y < 256) (h : RdA w r v xs) :
    Calls Tryz.prog 144 #[.pointer (some ⟨r, 0, none⟩), .int .i64 n] w fun e w' => (∃ z : Nat, e = .returned (.int .u64 z) ∧ z < 2 ^ (8 * n)) ∧ RdA w' r v xs ∧ Upd [r] w w' := by
  rcases h with ⟨p, h⟩ | h
  · exact fixed_v h0 n hn0 hn hE hB hby h
  · refine (fixed_e n h).mono ?_
    rintro e w' ⟨rfl, rfl⟩
    exact ⟨⟨0, rfl, Nat.pow_pos (by omega)⟩, .inr h, Upd.refl _ _⟩
theorem int_a (h0 : 0 ∈ S) (h2 : 2 ∈ S) (h4 : 4 ∈ S) (a b : Int) (ha : a ≤ 0) (hb : 0 ≤ b) (hE : Errs S w E B) (hB : B ≤ r) (hby : ∀ y ∈ xs, y < 256) (hv : VS v xs) (h : RdA w r v xs) :
    Calls Tryz.prog 177 #[.pointer (some ⟨r, 0, none⟩), .int .i64 a, .int .i64 b] w fun e w' => (∃ z : Int, e = .returned (.int .i64 z) ∧ a ≤ z ∧ z ≤ b) ∧ RdA w' r v xs ∧ Upd [r] w w' := by
  rcases h with ⟨p, h⟩ | h
  · exact int_v h0 h2 h4 a b ha hb hE hB hby hv h
  · refine (int_e a b ha hb h).mono ?_
    rintro e w' ⟨h1, rfl⟩
    exact ⟨h1, .inr h, Upd.refl _ _⟩
set_option maxRecDepth 100000 in
set_option maxHeartbeats 400000 in
theorem bytes_e (most : Nat) (hmm : most ≤ 1099511627776) (h : RdE w r v xs) :
    Calls Tryz.prog 179 #[.pointer (some ⟨r, 0, none⟩), .int .i64 most] w fun e w' => e = .returned (.slice none 0 0) ∧ w = w' := by
  have HR := Lib.hid h
  obtain ⟨p, t, a, h1, -⟩ := h.ex
  have c1 := h1.cell (i := 1) (by omega)
  have c2 := h1.cell (i := 2) (by omega)
  rw [show rdE v p (.iface t (.pointer (some a))) 1 = .int .i64 p from rfl] at c1
  rw [show rdE v p (.iface t (.pointer (some a))) 2 = .iface t (.pointer (some a)) from rfl] at c2
  clear h h1
  go_enter Tryz.func179, Tryz.ntmps179
  go_wp2_with fail
  refine (num_e most HR.out).mono ?_
  rintro e w' ⟨⟨z, rfl, hz⟩, rfl⟩
  go_wp2_with fail
  go_ret
  exact ⟨rfl, rfl⟩
theorem bytes_a (h0 : 0 ∈ S) (h2 : 2 ∈ S) (h4 : 4 ∈ S) (most : Nat) (hmm : most ≤ 1099511627776) (hE : Errs S w E B) (hB : B ≤ r) (hby : ∀ y ∈ xs, y < 256) (hv : VS v xs) (h : RdA w r v xs) :
    Calls Tryz.prog 179 #[.pointer (some ⟨r, 0, none⟩), .int .i64 most] w fun e w' => (∃ (ys : List Nat) (a : Option Addr) (c : Nat), e = .returned (.slice a ys.length c) ∧ w'.ownsRow w.heap.size 5 1 (.slice a ys.length c) ys.length (bcells ys) ∧ ys.length ≤ most ∧ ∀ y ∈ ys, y < 256) ∧ RdA w' r v xs ∧ Upd [r] w w' := by
  rcases h with ⟨p, h⟩ | h
  · exact bytes_v h0 h2 h4 most hmm hE hB hby hv h
  · refine (bytes_e most hmm h).mono ?_
    rintro e w' ⟨rfl, rfl⟩
    exact ⟨⟨[], none, 0, rfl, World.ownsRow_nil _ _ _ _, Nat.zero_le _, by simp⟩, .inr h, Upd.refl _ _⟩
theorem bytes_c (h0 : 0 ∈ S) (h2 : 2 ∈ S) (h4 : 4 ∈ S) (mI : Int) (most : Nat) (hmi : (most : Int) = mI) (hmm : most ≤ 1099511627776) (hE : Errs S w E B) (hB : B ≤ r) (hby : ∀ y ∈ xs, y < 256) (hv : VS v xs) (h : RdA w r v xs) :
    Calls Tryz.prog 179 #[.pointer (some ⟨r, 0, none⟩), .int .i64 mI] w fun e w' => (∃ (ys : List Nat) (a : Option Addr) (c : Nat), e = .returned (.slice a ys.length c) ∧ w'.ownsRow w.heap.size 5 1 (.slice a ys.length c) ys.length (bcells ys) ∧ ys.length ≤ most ∧ ∀ y ∈ ys, y < 256) ∧ RdA w' r v xs ∧ Upd [r] w w' := by
  subst hmi
  exact bytes_a h0 h2 h4 most hmm hE hB hby hv h
set_option maxRecDepth 100000 in
theorem err_at (r : Nat) (t : TypeId) (a : Addr) (w : World) (c2 : w.cell? ⟨r, 2, none⟩ = some (.iface t (.pointer (some a)))) : Calls Tryz.prog 178 #[.pointer (some ⟨r, 0, none⟩)] w fun e w' => e = .returned (.iface t (.pointer (some a))) ∧ w = w' := by
  go_enter Tryz.func178, Tryz.ntmps178
  go_wp2_with fail
  go_ret
  exact ⟨rfl, rfl⟩
theorem err_a (h : RdA w r v xs) : Calls Tryz.prog 178 #[.pointer (some ⟨r, 0, none⟩)] w fun e w' => (∃ q, e = .returned q ∧ (q = .nilIface ∨ ∃ t a, q = .iface t (.pointer (some a)))) ∧ w = w' := by
  rcases h with ⟨p, h⟩ | h
  · refine (err_ok r p v xs w h).mono ?_
    rintro e w' ⟨rfl, rfl⟩
    exact ⟨⟨_, rfl, .inl rfl⟩, rfl⟩
  · refine (err_e h).mono ?_
    rintro e w' ⟨⟨t, a, rfl⟩, rfl⟩
    exact ⟨⟨_, rfl, .inr ⟨t, a, rfl⟩⟩, rfl⟩
end

/-- What read comes to. -/
def ReadAny (b0 : Nat) (N : List Nat) (e : Ending) (w' : World) : Prop := ∃ (x : Bt) (rs : Value) (is : Bool), e = .returned (.tuple #[.agg #[.int .i64 x.b, .int .i64 x.e, rs], .bool is]) ∧ RcO w' b0 rs x.r N ∧ x.r.length ≤ 65536 ∧ BtBy x
/-- Ahead of the result's store, and behind it. -/
def JR (wr wf : World) (b : Nat) (_ : Pm) (w : World) (_ : Value) : Prop := (b = 0 ∧ w = wr.drew) ∨ (0 < b ∧ w = wf)

set_option maxRecDepth 100000 in
set_option maxHeartbeats 4000000 in
theorem read_any {S : List Nat} {E : Nat → Addr} {B : Nat} (h0 : 0 ∈ S) (h2 : 2 ∈ S) (h4 : 4 ∈ S) (N : List Nat) (v : Value) (xs : List Nat) (w : World) (hN : ∀ k, k ∈ N → k < w.heap.size) (hE : Errs S w E B) (h : SlB w v xs) (hby : ∀ y ∈ xs, y < 256) (hl : xs.length ≤ 1099511627776) :
    Calls Tryz.prog 146 #[v] w fun e w' => ReadAny w.heap.size N e w' ∧ Below w.heap.size w w' := by
  have hBw := hE.hi
  have hE1 := hE.below ((Below.refl _ _).alloc hE.hi (.cells #[.int .i64 0, .int .i64 0, .slice none 0 0] 38))
  have HE := Lib.hid hE
  have HBY := Lib.hid hby
  have HV := Lib.hid (h.below ((Below.refl _ _).alloc (Nat.le_refl _) (.cells #[.int .i64 0, .int .i64 0, .slice none 0 0] 38)) rfl)
  have HEU : Hid (∀ wz, Upd [] w wz → Errs S wz E B) := fun wz hz => HE.out.below (hz.to_below HE.out.hi (by simp))
  clear h hE hE1 hby
  go_enter Tryz.func146, Tryz.ntmps146
  go_wp2_with fail
  refine (newreader_vs v xs _ HV.out hl).mono ?_
  rintro e w1 ⟨⟨r, v1, rfl, hr, hrd, hvs, hvb⟩, hb1'⟩
  simp only [World.alloc_size'] at hr hvb
  have hBr : B ≤ r := by omega
  have hrow0 : (w.alloc (.cells #[.int .i64 0, .int .i64 0, .slice none 0 0] 38)).rowIs w.heap.size 38 3 (btF 0 0 (.slice none 0 0)) :=
    World.rowIs_alloc w #[.int .i64 0, .int .i64 0, .slice none 0 0] _ _ (fun i hi => by
      have hi' : i < 3 := hi
      rcases (show i = 0 ∨ i = 1 ∨ i = 2 by omega) with rfl | rfl | rfl <;> rfl)
  have hrow1 := hrow0.of_block (hb1'.block _ (by simp))
  have hu1 : Upd [] w w1 := ((Upd.refl [] w).alloc _).trans (Upd.of_below hb1' (Nat.le_refl _))
  have HVS := Lib.hid hvs
  have hra1 : RdA w1 r v1 xs := .inl ⟨0, hrd⟩
  clear hrow0 hb1' hvs hrd
  go_wp2_with fail
  refine (fixed_a h0 8 (by omega) (by omega) (HEU.out _ hu1) hBr HBY.out hra1).mono ?_
  rintro e w2 ⟨⟨z8, rfl, hz8⟩, hra2, hup2⟩
  have hu2 := hu1.trans' hup2 (fun k hk => .inr (by simp at hk; omega))
  have hs12 := hup2.size
  have hrow2 := hrow1.of_block (hup2.block _ hrow1.lt (by simp; omega))
  obtain ⟨bn, hbn⟩ : ∃ b, IntKind.i64.wrap (z8 : Int) = b := ⟨_, rfl⟩
  clear hra1 hup2 hu1 hrow1 hz8
  go_wp2_with fail
  refine (fixed_a h0 4 (by omega) (by omega) (HEU.out _ hu2) hBr HBY.out hra2).mono ?_
  rintro e w3 ⟨⟨z4, rfl, hz4⟩, hra3, hup3⟩
  have hu3 := hu2.trans' hup3 (fun k hk => .inr (by simp at hk; omega))
  have hs23 := hup3.size
  have hrow3 := hrow2.of_block (hup3.block _ hrow2.lt (by simp; omega))
  have hz4' : z4 < 4294967296 := hz4
  clear hra2 hup3 hu2 hrow2 hz4
  have hr3 := hra3.lt
  have hrow3b : (w3.alloc (.cells #[.int .i64 bn, .int .i64 z4, .slice none 0 0] 38)).rowIs w3.heap.size 38 3 (btF bn z4 (.slice none 0 0)) :=
    World.rowIs_alloc w3 #[.int .i64 bn, .int .i64 z4, .slice none 0 0] _ _ (fun i hi => by
      have hi' : i < 3 := hi
      rcases (show i = 0 ∨ i = 1 ∨ i = 2 by omega) with rfl | rfl | rfl <;> rfl)
  obtain ⟨bb, hbb⟩ : ∃ bb, bb = w3.heap.size := ⟨_, rfl⟩
  rw [← hbb] at hrow3b hr3
  have hw3 := hrow3.lt
  rw [← hbb] at hw3
  have hu13 : w1.heap.size ≤ w3.heap.size := by have := hs12; have := hs23; omega
  have hvl : ∀ b, v1.ownBlock = some b → b < bb := fun b hb => by have := (hvb b hb).2; have := hu13; omega
  obtain ⟨nv, hnv⟩ : ∃ nv : List Nat, ∀ b, b ∈ nv ↔ v1.ownBlock = some b := ⟨v1.ownBlock.toList, fun b => by cases v1.ownBlock <;> simp [eq_comm]⟩
  have hra4 := hra3.below ((Below.refl _ _).alloc (Nat.le_refl _) (.cells #[.int .i64 bn, .int .i64 z4, .slice none 0 0] 38)) (Nat.le_refl _)
  have hrow4 := hrow3.alloc (.cells #[.int .i64 bn, .int .i64 z4, .slice none 0 0] 38)
  have hu4 := hu3.alloc (.cells #[.int .i64 bn, .int .i64 z4, .slice none 0 0] 38)
  have HBB := Lib.hid hbb
  have HBN := Lib.hid hbn
  clear hra3 hu3 hrow3 hu13
  go_wp2_with fail
  refine (fixed_a h0 2 (by omega) (by omega) (HEU.out _ hu4) hBr HBY.out hra4).mono ?_
  rintro e w5 ⟨⟨z2, rfl, hz2⟩, hra5, hup5⟩
  have hz2' : z2 < 65536 := hz2
  have hu5 := hu4.trans' hup5 (fun k hk => .inr (by simp at hk; omega))
  have hrow5 := hrow4.of_block (hup5.block _ hrow4.lt (by simp; omega))
  have hrow5b := hrow3b.of_block (hup5.block _ hrow3b.lt (by simp; omega))
  clear hra4 hup5 hu4 hrow4 hrow3b hbb hbn hz2
  go_wp2_with fail
  refine (int_a h0 h2 h4 _ _ (by omega) (by omega) (HEU.out _ hu5) hBr HBY.out HVS.out hra5).mono ?_
  rintro e w6 ⟨⟨t0, rfl, ht1, ht2⟩, hra6, hup6⟩
  have hu6 := hu5.trans' hup6 (fun k hk => .inr (by simp at hk; omega))
  have hrow6 := hrow5.of_block (hup6.block _ hrow5.lt (by simp; omega))
  have hrow6b := hrow5b.of_block (hup6.block _ hrow5b.lt (by simp; omega))
  clear hra5 hup6 hu5 hrow5 hrow5b
  rw [← HBB.out]
  go_wp2_with fail
  go_loopg [6, 7] z2 (fun m q t wr => ∃ (u : Value) (L : List Rc) (tn : Int), L.length + m = z2 ∧ q = .int .i64 m ∧ t = .int .i64 tn ∧ -(2199023255552 * ((L.length : Int) + 1)) ≤ tn ∧ tn ≤ 2199023255552 * ((L.length : Int) + 1) ∧
    RdA wr r v1 xs ∧ wr.rowIs bb 38 3 (btF bn z4 u) ∧ wr.rowIs w.heap.size 38 3 (btF 0 0 (.slice none 0 0)) ∧
    RcO wr w.heap.size u L (nv ++ r :: bb :: w.heap.size :: N) ∧ Upd [] w wr ∧ ∀ y ∈ L, (∀ b ∈ y.k, b < 256) ∧ (∀ b ∈ y.v, b < 256))
  case atStart => exact ⟨.slice none 0 0, [], t0, by simp, rfl, rfl, by simp; omega, by simp; omega, hra6, hrow6b, hrow6, RcO.nil _ _ _, hu6, by simp⟩
  case round =>
    obtain ⟨u, L, tn, hk, rfl, rfl, htn1, htn2, hra, hrb, hr0, hro, hu, hlb⟩ := hrel
    have HLB := Lib.hid hlb
    have HRA := Lib.hid hra
    have hcs : (gk = 0 ∧ ∃ p, RdV wr r v1 xs p) ∨ (gk = 0 ∧ RdE wr r v1 xs) ∨ (gk ≠ 0 ∧ RdE wr r v1 xs) ∨ (gk ≠ 0 ∧ ∃ p, RdV wr r v1 xs p) := by
      rcases hra with ⟨p, h⟩ | h <;> by_cases hg : gk = 0
      · exact .inl ⟨hg, p, h⟩
      · exact .inr (.inr (.inr ⟨hg, p, h⟩))
      · exact .inr (.inl ⟨hg, h⟩)
      · exact .inr (.inr (.inl ⟨hg, h⟩))
    clear hlb hra
    rcases hcs with ⟨hg, p, hrv⟩ | ⟨hg, hre⟩ | ⟨hg, hre⟩ | ⟨hg, p, hrv⟩
    · subst hg
      have j0 : ¬ (0 : Int) < ((0 : Nat) : Int) := by omega
      have c0 := hrb.cell (i := 0) (by omega)
      have c1 := hrb.cell (i := 1) (by omega)
      have c2 := hrb.cell (i := 2) (by omega)
      rw [show btF bn z4 u 0 = .int .i64 bn from rfl] at c0
      rw [show btF bn z4 u 1 = .int .i64 z4 from rfl] at c1
      rw [show btF bn z4 u 2 = u from rfl] at c2
      obtain ⟨kL, hkL⟩ : ∃ k, L.length = k := ⟨_, rfl⟩
      obtain ⟨cs, hcs⟩ := hro
      obtain ⟨ua, uc, rfl⟩ := owns_shape hcs.1
      rw [hkL] at c2 hk htn1 htn2
      have HKL := Lib.hid hkL
      have HCS := Lib.hid hcs
      have HU := Lib.hid hu
      have hbbr := hrb.lt
      have h0r := hr0.lt
      have hne0 : ¬ bb = w.heap.size := by omega
      have hne1 : ¬ w.heap.size = bb := by omega
      obtain ⟨dl, hdl⟩ : ∃ d, xs.length - p = d := ⟨_, rfl⟩
      obtain ⟨isb, his⟩ : ∃ b : Bool, ((dl : Int) == 0) = b := ⟨_, rfl⟩
      have HRW : Hid (∀ wz, Below wr.heap.size wr wz → RdV wz r v1 xs p) := fun wz hz => hrv.below hz (Nat.le_refl _)
      have HDL := Lib.hid hdl
      clear hu hcs hkL hdl
      go_upto_region 9 with fail
      go_region_held3 (fun w' => w'.cell? ⟨bb, 0, none⟩ = some (.int .i64 bn) ∧ w'.cell? ⟨bb, 1, none⟩ = some (.int .i64 z4) ∧ w'.cell? ⟨bb, 2, none⟩ = some (.slice ua kL uc))
        (first
          | go_keep
          | (go_split_ands
             exact ⟨(hbL.cell (p := ⟨bb, 0, none⟩) (by simpa using hbbr)).trans (by assumption), (hbL.cell (p := ⟨bb, 1, none⟩) (by simpa using hbbr)).trans (by assumption), (hbL.cell (p := ⟨bb, 2, none⟩) (by simpa using hbbr)).trans (by assumption)⟩))
        (first
          | (with_reducible refine (err_ok r p v1 xs _ ?_).mono ?_
             · exact HRW.out _ (Below.refl _ _).drew
             rintro e w' ⟨rfl, rfl⟩)
          | (with_reducible refine (left_ok r p v1 xs _ ?_).mono ?_
             · exact HRW.out _ (Below.refl _ _).drew
             rintro e wl ⟨rfl, hbL⟩
             rw [HDL.out]
             have hr0L := (hr0.drew).of_block (hbL.block _ (by simpa using h0r))
             have e0 := hr0L.cell (i := 0) (by omega)
             have e1 := hr0L.cell (i := 1) (by omega)
             have e2 := hr0L.cell (i := 2) (by omega)
             have f0 := hr0L.frozen 0
             have f1 := hr0L.frozen 1
             have f2 := hr0L.frozen 2))
      go_wp2_with fail
      have huL := ((Upd.refl [] wr).drewN 1).trans (Upd.of_below (M := []) hbL (Nat.le_refl _))
      have hrF := ((hr0L.set 0 (.int .i64 bn)).set 1 (.int .i64 z4)).set 2 (.slice ua kL uc)
      have huF : Upd [w.heap.size] wl (((World.setCell wl ⟨w.heap.size, 0, none⟩ (.int .i64 bn)).setCell ⟨w.heap.size, 1, none⟩ (.int .i64 z4)).setCell ⟨w.heap.size, 2, none⟩ (.slice ua kL uc)) :=
        (((Upd.refl _ _).setCell _ _ _ (.inl (by simp))).setCell _ _ _ (.inl (by simp))).setCell _ _ _ (.inl (by simp))
      generalize hw : ((World.setCell wl ⟨w.heap.size, 0, none⟩ (.int .i64 bn)).setCell ⟨w.heap.size, 1, none⟩ (.int .i64 z4)).setCell ⟨w.heap.size, 2, none⟩ (.slice ua kL uc) = wf
      rw [hw] at hrF huF
      have g0 : wf.cell? ⟨w.heap.size, 0, none⟩ = some (.int .i64 bn) := hrF.cell (i := 0) (by omega)
      have g1 : wf.cell? ⟨w.heap.size, 1, none⟩ = some (.int .i64 z4) := hrF.cell (i := 1) (by omega)
      have g2 : wf.cell? ⟨w.heap.size, 2, none⟩ = some (.slice ua kL uc) := hrF.cell (i := 2) (by omega)
      have hroF : RcO wf w.heap.size (.slice ua L.length uc) L N :=
        RcO.sub ⟨cs, (HCS.out.upd huL (by simp)).upd huF (fun b hb => .inl (by simp at hb; simp [hb]))⟩ (fun b hb => by simp [hb])
      rw [HKL.out] at hroF
      have hbF : Below w.heap.size w wf := ((HU.out.trans huL).trans' huF (fun b hb => .inr (by simp at hb; omega))).to_below (Nat.le_refl _) (by simp)
      exact bodyPost_ret (v := .tuple #[.agg #[.int .i64 bn, .int .i64 z4, .slice ua kL uc], .bool isb]) (by simp [results, Tryz.results146, go_sem, g0, g1, g2]) rfl ⟨⟨⟨bn, z4, L⟩, _, isb, rfl, hroF, by show L.length ≤ _; rw [HKL.out]; omega, HLB.out⟩, hbF⟩
    · subst hg
      have j0 : ¬ (0 : Int) < ((0 : Nat) : Int) := by omega
      have c0 := hrb.cell (i := 0) (by omega)
      have c1 := hrb.cell (i := 1) (by omega)
      have c2 := hrb.cell (i := 2) (by omega)
      rw [show btF bn z4 u 0 = .int .i64 bn from rfl] at c0
      rw [show btF bn z4 u 1 = .int .i64 z4 from rfl] at c1
      rw [show btF bn z4 u 2 = u from rfl] at c2
      obtain ⟨kL, hkL⟩ : ∃ k, L.length = k := ⟨_, rfl⟩
      obtain ⟨cs, hcs⟩ := hro
      obtain ⟨ua, uc, rfl⟩ := owns_shape hcs.1
      rw [hkL] at c2 hk htn1 htn2
      have HKL := Lib.hid hkL
      have HCS := Lib.hid hcs
      have HU := Lib.hid hu
      have hbbr := hrb.lt
      have h0r := hr0.lt
      have hne0 : ¬ bb = w.heap.size := by omega
      have hne1 : ¬ w.heap.size = bb := by omega
      have hr0L := hr0.drew
      have e0 := hr0.cell (i := 0) (by omega)
      have e1 := hr0.cell (i := 1) (by omega)
      have e2 := hr0.cell (i := 2) (by omega)
      have f0 := hr0.frozen 0
      have f1 := hr0.frozen 1
      have f2 := hr0.frozen 2
      obtain ⟨et, ea, k2⟩ := hre.c2
      obtain ⟨wf, hwf⟩ : ∃ wf, ((wr.drew.setCell ⟨w.heap.size, 0, none⟩ (.int .i64 bn)).setCell ⟨w.heap.size, 1, none⟩ (.int .i64 z4)).setCell ⟨w.heap.size, 2, none⟩ (.slice ua kL uc) = wf := ⟨_, rfl⟩
      have hrF := ((hr0L.set 0 (.int .i64 bn)).set 1 (.int .i64 z4)).set 2 (.slice ua kL uc)
      have huF : Upd [w.heap.size] wr wf := by
        rw [← hwf]
        exact ((((Upd.refl _ _).drewN 1).setCell _ _ _ (.inl (by simp))).setCell _ _ _ (.inl (by simp))).setCell _ _ _ (.inl (by simp))
      rw [hwf] at hrF
      have hbF := hrb.of_block (huF.block bb hbbr (by simp; omega))
      have d0 := hbF.cell (i := 0) (by omega)
      have d1 := hbF.cell (i := 1) (by omega)
      have d2 := hbF.cell (i := 2) (by omega)
      rw [show btF bn z4 (.slice ua L.length uc) 0 = .int .i64 bn from rfl] at d0
      rw [show btF bn z4 (.slice ua L.length uc) 1 = .int .i64 z4 from rfl] at d1
      rw [show btF bn z4 (.slice ua L.length uc) 2 = .slice ua L.length uc from rfl, HKL.out] at d2
      have k2F : wf.cell? ⟨r, 2, none⟩ = some (.iface et (.pointer (some ea))) := (huF.cell (b := r) (o := 2) (by obtain ⟨p, t, a, z, -⟩ := hre.ex; exact z.lt) (by simp; omega)).trans k2
      have HERR : Hid (∀ wz, (wz = wr.drew ∨ wz = wf) → Calls Tryz.prog 178 #[.pointer (some ⟨r, 0, none⟩)] wz fun e w' => e = .returned (.iface et (.pointer (some ea))) ∧ wz = w') := fun wz hz => by
        rcases hz with rfl | rfl
        · exact err_at r et ea _ k2
        · exact err_at r et ea _ k2F
      have g0 : wf.cell? ⟨w.heap.size, 0, none⟩ = some (.int .i64 bn) := hrF.cell (i := 0) (by omega)
      have g1 : wf.cell? ⟨w.heap.size, 1, none⟩ = some (.int .i64 z4) := hrF.cell (i := 1) (by omega)
      have g2 : wf.cell? ⟨w.heap.size, 2, none⟩ = some (.slice ua kL uc) := hrF.cell (i := 2) (by omega)
      have hroF : RcO wf w.heap.size (.slice ua L.length uc) L N :=
        RcO.sub ⟨cs, HCS.out.upd huF (fun b hb => .inl (by simp at hb; simp [hb]))⟩ (fun b hb => by simp [hb])
      rw [HKL.out] at hroF
      have hbW : Below w.heap.size w wf := (HU.out.trans' huF (fun b hb => .inr (by simp at hb; omega))).to_below (Nat.le_refl _) (by simp)
      have HWF := Lib.hid hwf
      have HROF := Lib.hid hroF
      have HBW := Lib.hid hbW
      have HRF := Lib.hid hrF
      have HEE := Lib.hid (err_at r et ea wr k2)
      clear hu hcs hkL hwf hroF hbW hrF huF hbF hre k2F
      go_upto_region 9 with (go_at_call 178; refine (HEE.out).mono ?_; rintro e w' ⟨rfl, rfl⟩)
      refine wp_region_ph (by kernel_rfl) (by decide) 9 10 (by kernel_rfl) ⟨by decide, by decide⟩ (by decide) (Pm.start wr) (JR wr wf) (fun _ => .inl ⟨rfl, rfl⟩) (fun i _ v => match i with | 0 => v = .agg #[.int .i64 bn, .int .i64 z4, .slice ua kL uc] | 1 => v = .pointer (some ⟨r, 0, none⟩) | 2 => v = .iface et (.pointer (some ea)) | 3 => v = .bool false | 4 => v = .bool false | 5 => v = undef | 6 => v = undef | 7 => v = undef | 8 => v = .bool false | 9 => True | 10 => v = .bool false | _ => True) (by intro i P P' v _ h; exact h) ?_ ?_
      · intro i o ho b u wq Pq hsq hJ hp q1 q2 q3 q4 K hK
        rcases i with _ | _ | _ | _ | _ | _ | _ | _ | _ | _ | _ | i
        · cases ho
          simp only [frOf, Act.put, List.setIfInBounds_toArray, List.set_cons_zero, List.set_cons_succ, Nat.zero_add, Nat.reduceAdd] at hK ⊢
          rcases hJ with ⟨hb, rfl⟩ | ⟨hb, rfl⟩
          · go_simp
            exact hK _ _ Pq (Sub.refl _) (.inl ⟨hb, rfl⟩) rfl
          · go_simp
            exact hK _ _ Pq (Sub.refl _) (.inr ⟨hb, rfl⟩) rfl
        · cases ho
          simp only [frOf, Act.put, List.setIfInBounds_toArray, List.set_cons_zero, List.set_cons_succ, Nat.zero_add, Nat.reduceAdd] at hK ⊢
          go_simp
          exact hK _ _ Pq (Sub.refl _) hJ rfl
        · cases ho
          have h1 : u 1 = .pointer (some ⟨r, 0, none⟩) := hp ⟨1, .data⟩ (by simp) rfl
          simp only [frOf, Act.put, List.setIfInBounds_toArray, List.set_cons_zero, List.set_cons_succ, Nat.zero_add, Nat.reduceAdd] at hK ⊢
          simp only [h1] at hK ⊢
          go_simp
          refine (HERR.out wq (by rcases hJ with ⟨-, h⟩ | ⟨-, h⟩; exact .inl h; exact .inr h)).mono ?_
          rintro e w' ⟨rfl, rfl⟩
          exact hK _ _ Pq (Sub.refl _) hJ rfl
        · cases ho
          have h2 : u 2 = .iface et (.pointer (some ea)) := hp ⟨2, .data⟩ (by simp) rfl
          simp only [frOf, Act.put, List.setIfInBounds_toArray, List.set_cons_zero, List.set_cons_succ, Nat.zero_add, Nat.reduceAdd] at hK ⊢
          simp only [h2] at hK ⊢
          go_simp
          exact hK _ _ Pq (Sub.refl _) hJ rfl
        · cases ho
          have h3 : u 3 = .bool false := hp ⟨3, .data⟩ (by simp) rfl
          simp only [frOf, Act.put, List.setIfInBounds_toArray, List.set_cons_zero, List.set_cons_succ, Nat.zero_add, Nat.reduceAdd] at hK ⊢
          simp only [h3] at hK ⊢
          go_simp
          exact hK _ _ Pq (Sub.refl _) hJ rfl
        · cases ho
          have h4 : u 4 = .bool false := hp ⟨4, .guard⟩ (by simp) rfl
          simp only [frOf, Act.put, List.setIfInBounds_toArray, List.set_cons_zero, List.set_cons_succ, Nat.zero_add, Nat.reduceAdd] at hK ⊢
          simp only [h4]
          first | (go_simp; done) | (rw [if_neg (by decide)]; exact ⟨by decide, by decide, rfl⟩) | (go_simp; exact ⟨by decide, by decide, rfl⟩)
        · cases ho
          have h4 : u 4 = .bool false := hp ⟨4, .guard⟩ (by simp) rfl
          simp only [frOf, Act.put, List.setIfInBounds_toArray, List.set_cons_zero, List.set_cons_succ, Nat.zero_add, Nat.reduceAdd] at hK ⊢
          simp only [h4]
          first | (go_simp; done) | (rw [if_neg (by decide)]; exact ⟨by decide, by decide, rfl⟩) | (go_simp; exact ⟨by decide, by decide, rfl⟩)
        · cases ho
          have h4 : u 4 = .bool false := hp ⟨4, .guard⟩ (by simp) rfl
          simp only [frOf, Act.put, List.setIfInBounds_toArray, List.set_cons_zero, List.set_cons_succ, Nat.zero_add, Nat.reduceAdd] at hK ⊢
          simp only [h4]
          first | (go_simp; done) | (rw [if_neg (by decide)]; exact ⟨by decide, by decide, rfl⟩) | (go_simp; exact ⟨by decide, by decide, rfl⟩)
        · cases ho
          have h4 : u 4 = .bool false := hp ⟨4, .data⟩ (by simp) rfl
          have h7 : u 7 = undef := hp ⟨7, .data⟩ (by simp) rfl
          simp only [frOf, Act.put, List.setIfInBounds_toArray, List.set_cons_zero, List.set_cons_succ, Nat.zero_add, Nat.reduceAdd] at hK ⊢
          simp only [h4, h7] at hK ⊢
          go_simp
          exact hK _ _ Pq (Sub.refl _) hJ rfl
        · cases ho
          have h0 : u 0 = .agg #[.int .i64 bn, .int .i64 z4, .slice ua kL uc] := hp ⟨0, .data⟩ (by simp) rfl
          simp only [frOf, Act.put, List.setIfInBounds_toArray, List.set_cons_zero, List.set_cons_succ, Nat.zero_add, Nat.reduceAdd] at hK ⊢
          simp only [h0] at hK ⊢
          have hb0 : b = 0 := by
            rcases Nat.eq_zero_or_pos b with h | h
            · exact h
            · exact absurd rfl (q1 h).2
          rcases hJ with ⟨hb, rfl⟩ | ⟨hb, rfl⟩
          · go_simp
            exact hK (.bool false) _ Pq (Sub.refl _) (.inr ⟨by simp, HWF.out⟩) trivial
          · omega
        · cases ho
          have h8 : u 8 = .bool false := hp ⟨8, .data⟩ (by simp) rfl
          simp only [frOf, Act.put, List.setIfInBounds_toArray, List.set_cons_zero, List.set_cons_succ, Nat.zero_add, Nat.reduceAdd] at hK ⊢
          simp only [h8] at hK ⊢
          have hb1 : 0 < b := q3 (by kernel_rfl)
          rcases hJ with ⟨hb, rfl⟩ | ⟨hb, rfl⟩
          · omega
          · go_simp
            exact hK _ _ Pq (Sub.refl _) (.inr ⟨by simp, rfl⟩) rfl
        · exact absurd ho (by simp)
      intro u wq Pq hsq hJ hR
      have h10 : u 10 = .bool false := hR 10 (by decide)
      have h0' : u 0 = .agg #[.int .i64 bn, .int .i64 z4, .slice ua kL uc] := hR 0 (by decide)
      rcases hJ with ⟨hb, hwq⟩ | ⟨-, hwq⟩
      · omega
      subst hwq
      simp only [frOf, List.setIfInBounds_toArray, List.set_cons_zero, List.set_cons_succ, Nat.zero_add, Nat.reduceAdd]
      simp only [h10]
      go_wp2_with fail
      exact bodyPost_ret (v := .tuple #[.agg #[.int .i64 bn, .int .i64 z4, .slice ua kL uc], .bool false]) (by simp [results, Tryz.results146, go_sem, g0, g1, g2]) rfl ⟨⟨⟨bn, z4, L⟩, _, false, rfl, HROF.out, by show L.length ≤ _; rw [HKL.out]; omega, HLB.out⟩, HBW.out⟩
    · have j0 : (0 : Int) < (gk : Int) := by omega
      have c0 := hrb.cell (i := 0) (by omega)
      have c1 := hrb.cell (i := 1) (by omega)
      have c2 := hrb.cell (i := 2) (by omega)
      rw [show btF bn z4 u 0 = .int .i64 bn from rfl] at c0
      rw [show btF bn z4 u 1 = .int .i64 z4 from rfl] at c1
      rw [show btF bn z4 u 2 = u from rfl] at c2
      obtain ⟨kL, hkL⟩ : ∃ k, L.length = k := ⟨_, rfl⟩
      obtain ⟨cs, hcs⟩ := hro
      obtain ⟨ua, uc, rfl⟩ := owns_shape hcs.1
      rw [hkL] at c2 hk htn1 htn2
      have HKL := Lib.hid hkL
      have HCS := Lib.hid hcs
      have HU := Lib.hid hu
      have hbbr := hrb.lt
      have h0r := hr0.lt
      have hne0 : ¬ bb = w.heap.size := by omega
      have hne1 : ¬ w.heap.size = bb := by omega
      have hr0L := hr0.drew
      have e0 := hr0.cell (i := 0) (by omega)
      have e1 := hr0.cell (i := 1) (by omega)
      have e2 := hr0.cell (i := 2) (by omega)
      have f0 := hr0.frozen 0
      have f1 := hr0.frozen 1
      have f2 := hr0.frozen 2
      obtain ⟨et, ea, k2⟩ := hre.c2
      obtain ⟨wf, hwf⟩ : ∃ wf, ((wr.drew.setCell ⟨w.heap.size, 0, none⟩ (.int .i64 bn)).setCell ⟨w.heap.size, 1, none⟩ (.int .i64 z4)).setCell ⟨w.heap.size, 2, none⟩ (.slice ua kL uc) = wf := ⟨_, rfl⟩
      have hrF := ((hr0L.set 0 (.int .i64 bn)).set 1 (.int .i64 z4)).set 2 (.slice ua kL uc)
      have huF : Upd [w.heap.size] wr wf := by
        rw [← hwf]
        exact ((((Upd.refl _ _).drewN 1).setCell _ _ _ (.inl (by simp))).setCell _ _ _ (.inl (by simp))).setCell _ _ _ (.inl (by simp))
      rw [hwf] at hrF
      have hbF := hrb.of_block (huF.block bb hbbr (by simp; omega))
      have d0 := hbF.cell (i := 0) (by omega)
      have d1 := hbF.cell (i := 1) (by omega)
      have d2 := hbF.cell (i := 2) (by omega)
      rw [show btF bn z4 (.slice ua L.length uc) 0 = .int .i64 bn from rfl] at d0
      rw [show btF bn z4 (.slice ua L.length uc) 1 = .int .i64 z4 from rfl] at d1
      rw [show btF bn z4 (.slice ua L.length uc) 2 = .slice ua L.length uc from rfl, HKL.out] at d2
      have k2F : wf.cell? ⟨r, 2, none⟩ = some (.iface et (.pointer (some ea))) := (huF.cell (b := r) (o := 2) (by obtain ⟨p, t, a, z, -⟩ := hre.ex; exact z.lt) (by simp; omega)).trans k2
      have HERR : Hid (∀ wz, (wz = wr.drew ∨ wz = wf) → Calls Tryz.prog 178 #[.pointer (some ⟨r, 0, none⟩)] wz fun e w' => e = .returned (.iface et (.pointer (some ea))) ∧ wz = w') := fun wz hz => by
        rcases hz with rfl | rfl
        · exact err_at r et ea _ k2
        · exact err_at r et ea _ k2F
      have g0 : wf.cell? ⟨w.heap.size, 0, none⟩ = some (.int .i64 bn) := hrF.cell (i := 0) (by omega)
      have g1 : wf.cell? ⟨w.heap.size, 1, none⟩ = some (.int .i64 z4) := hrF.cell (i := 1) (by omega)
      have g2 : wf.cell? ⟨w.heap.size, 2, none⟩ = some (.slice ua kL uc) := hrF.cell (i := 2) (by omega)
      have hroF : RcO wf w.heap.size (.slice ua L.length uc) L N :=
        RcO.sub ⟨cs, HCS.out.upd huF (fun b hb => .inl (by simp at hb; simp [hb]))⟩ (fun b hb => by simp [hb])
      rw [HKL.out] at hroF
      have hbW : Below w.heap.size w wf := (HU.out.trans' huF (fun b hb => .inr (by simp at hb; omega))).to_below (Nat.le_refl _) (by simp)
      have HWF := Lib.hid hwf
      have HROF := Lib.hid hroF
      have HBW := Lib.hid hbW
      have HRF := Lib.hid hrF
      have HEE := Lib.hid (err_at r et ea wr k2)
      clear hu hcs hkL hwf hroF hbW hrF huF hbF hre k2F
      go_upto_region 9 with (go_at_call 178; refine (HEE.out).mono ?_; rintro e w' ⟨rfl, rfl⟩)
      refine wp_region_ph (by kernel_rfl) (by decide) 9 10 (by kernel_rfl) ⟨by decide, by decide⟩ (by decide) (Pm.start wr) (JR wr wf) (fun _ => .inl ⟨rfl, rfl⟩) (fun i _ v => match i with | 0 => v = .agg #[.int .i64 bn, .int .i64 z4, .slice ua kL uc] | 1 => v = .pointer (some ⟨r, 0, none⟩) | 2 => v = .iface et (.pointer (some ea)) | 3 => v = .bool false | 4 => v = .bool false | 5 => v = undef | 6 => v = undef | 7 => v = undef | 8 => v = .bool false | 9 => True | 10 => v = .bool false | _ => True) (by intro i P P' v _ h; exact h) ?_ ?_
      · intro i o ho b u wq Pq hsq hJ hp q1 q2 q3 q4 K hK
        rcases i with _ | _ | _ | _ | _ | _ | _ | _ | _ | _ | _ | i
        · cases ho
          simp only [frOf, Act.put, List.setIfInBounds_toArray, List.set_cons_zero, List.set_cons_succ, Nat.zero_add, Nat.reduceAdd] at hK ⊢
          rcases hJ with ⟨hb, rfl⟩ | ⟨hb, rfl⟩
          · go_simp
            exact hK _ _ Pq (Sub.refl _) (.inl ⟨hb, rfl⟩) rfl
          · go_simp
            exact hK _ _ Pq (Sub.refl _) (.inr ⟨hb, rfl⟩) rfl
        · cases ho
          simp only [frOf, Act.put, List.setIfInBounds_toArray, List.set_cons_zero, List.set_cons_succ, Nat.zero_add, Nat.reduceAdd] at hK ⊢
          go_simp
          exact hK _ _ Pq (Sub.refl _) hJ rfl
        · cases ho
          have h1 : u 1 = .pointer (some ⟨r, 0, none⟩) := hp ⟨1, .data⟩ (by simp) rfl
          simp only [frOf, Act.put, List.setIfInBounds_toArray, List.set_cons_zero, List.set_cons_succ, Nat.zero_add, Nat.reduceAdd] at hK ⊢
          simp only [h1] at hK ⊢
          go_simp
          refine (HERR.out wq (by rcases hJ with ⟨-, h⟩ | ⟨-, h⟩; exact .inl h; exact .inr h)).mono ?_
          rintro e w' ⟨rfl, rfl⟩
          exact hK _ _ Pq (Sub.refl _) hJ rfl
        · cases ho
          have h2 : u 2 = .iface et (.pointer (some ea)) := hp ⟨2, .data⟩ (by simp) rfl
          simp only [frOf, Act.put, List.setIfInBounds_toArray, List.set_cons_zero, List.set_cons_succ, Nat.zero_add, Nat.reduceAdd] at hK ⊢
          simp only [h2] at hK ⊢
          go_simp
          exact hK _ _ Pq (Sub.refl _) hJ rfl
        · cases ho
          have h3 : u 3 = .bool false := hp ⟨3, .data⟩ (by simp) rfl
          simp only [frOf, Act.put, List.setIfInBounds_toArray, List.set_cons_zero, List.set_cons_succ, Nat.zero_add, Nat.reduceAdd] at hK ⊢
          simp only [h3] at hK ⊢
          go_simp
          exact hK _ _ Pq (Sub.refl _) hJ rfl
        · cases ho
          have h4 : u 4 = .bool false := hp ⟨4, .guard⟩ (by simp) rfl
          simp only [frOf, Act.put, List.setIfInBounds_toArray, List.set_cons_zero, List.set_cons_succ, Nat.zero_add, Nat.reduceAdd] at hK ⊢
          simp only [h4]
          first | (go_simp; done) | (rw [if_neg (by decide)]; exact ⟨by decide, by decide, rfl⟩) | (go_simp; exact ⟨by decide, by decide, rfl⟩)
        · cases ho
          have h4 : u 4 = .bool false := hp ⟨4, .guard⟩ (by simp) rfl
          simp only [frOf, Act.put, List.setIfInBounds_toArray, List.set_cons_zero, List.set_cons_succ, Nat.zero_add, Nat.reduceAdd] at hK ⊢
          simp only [h4]
          first | (go_simp; done) | (rw [if_neg (by decide)]; exact ⟨by decide, by decide, rfl⟩) | (go_simp; exact ⟨by decide, by decide, rfl⟩)
        · cases ho
          have h4 : u 4 = .bool false := hp ⟨4, .guard⟩ (by simp) rfl
          simp only [frOf, Act.put, List.setIfInBounds_toArray, List.set_cons_zero, List.set_cons_succ, Nat.zero_add, Nat.reduceAdd] at hK ⊢
          simp only [h4]
          first | (go_simp; done) | (rw [if_neg (by decide)]; exact ⟨by decide, by decide, rfl⟩) | (go_simp; exact ⟨by decide, by decide, rfl⟩)
        · cases ho
          have h4 : u 4 = .bool false := hp ⟨4, .data⟩ (by simp) rfl
          have h7 : u 7 = undef := hp ⟨7, .data⟩ (by simp) rfl
          simp only [frOf, Act.put, List.setIfInBounds_toArray, List.set_cons_zero, List.set_cons_succ, Nat.zero_add, Nat.reduceAdd] at hK ⊢
          simp only [h4, h7] at hK ⊢
          go_simp
          exact hK _ _ Pq (Sub.refl _) hJ rfl
        · cases ho
          have h0 : u 0 = .agg #[.int .i64 bn, .int .i64 z4, .slice ua kL uc] := hp ⟨0, .data⟩ (by simp) rfl
          simp only [frOf, Act.put, List.setIfInBounds_toArray, List.set_cons_zero, List.set_cons_succ, Nat.zero_add, Nat.reduceAdd] at hK ⊢
          simp only [h0] at hK ⊢
          have hb0 : b = 0 := by
            rcases Nat.eq_zero_or_pos b with h | h
            · exact h
            · exact absurd rfl (q1 h).2
          rcases hJ with ⟨hb, rfl⟩ | ⟨hb, rfl⟩
          · go_simp
            exact hK (.bool false) _ Pq (Sub.refl _) (.inr ⟨by simp, HWF.out⟩) trivial
          · omega
        · cases ho
          have h8 : u 8 = .bool false := hp ⟨8, .data⟩ (by simp) rfl
          simp only [frOf, Act.put, List.setIfInBounds_toArray, List.set_cons_zero, List.set_cons_succ, Nat.zero_add, Nat.reduceAdd] at hK ⊢
          simp only [h8] at hK ⊢
          have hb1 : 0 < b := q3 (by kernel_rfl)
          rcases hJ with ⟨hb, rfl⟩ | ⟨hb, rfl⟩
          · omega
          · go_simp
            exact hK _ _ Pq (Sub.refl _) (.inr ⟨by simp, rfl⟩) rfl
        · exact absurd ho (by simp)
      intro u wq Pq hsq hJ hR
      have h10 : u 10 = .bool false := hR 10 (by decide)
      have h0' : u 0 = .agg #[.int .i64 bn, .int .i64 z4, .slice ua kL uc] := hR 0 (by decide)
      rcases hJ with ⟨hb, hwq⟩ | ⟨-, hwq⟩
      · omega
      subst hwq
      simp only [frOf, List.setIfInBounds_toArray, List.set_cons_zero, List.set_cons_succ, Nat.zero_add, Nat.reduceAdd]
      simp only [h10]
      go_wp2_with fail
      exact bodyPost_ret (v := .tuple #[.agg #[.int .i64 bn, .int .i64 z4, .slice ua kL uc], .bool false]) (by simp [results, Tryz.results146, go_sem, g0, g1, g2]) rfl ⟨⟨⟨bn, z4, L⟩, _, false, rfl, HROF.out, by show L.length ≤ _; rw [HKL.out]; omega, HLB.out⟩, HBW.out⟩
    · obtain ⟨gj, rfl⟩ : ∃ x, gk = x + 1 := ⟨gk - 1, by omega⟩
      obtain ⟨kL, hkL⟩ : ∃ k, L.length = k := ⟨_, rfl⟩
      have HKL := Lib.hid hkL
      rw [hkL] at hk htn1 htn2
      have j1 : (0 : Int) < ((gj + 1 : Nat) : Int) := by omega
      clear hg hkL
      go_wp2_with fail
      refine (err_ok r p v1 xs wr hrv).mono ?_
      rintro e w' ⟨rfl, rfl⟩
      go_wp2_with fail
      refine (int_a h0 h2 h4 _ _ (by omega) (by omega) (HEU.out _ hu) hBr HBY.out HVS.out HRA.out).mono ?_
      rintro e w7 ⟨⟨dz, rfl, hd1, hd2⟩, hra7, hup7⟩
      have hu7 := hu.trans' hup7 (fun k hk => .inr (by simp at hk; omega))
      have hrb7 := hrb.of_block (hup7.block _ hrb.lt (by simp; omega))
      have hr07 := hr0.of_block (hup7.block _ hr0.lt (by simp; omega))
      have hro7 := hro.upd hup7 (fun k hk => .inl (by simp at hk; simp [hk]))
      obtain ⟨tm, htm⟩ : ∃ t, tn + dz = t := ⟨_, rfl⟩
      have htm1 : -(2199023255552 * ((kL : Int) + 2)) ≤ tm := by omega
      have htm2 : tm ≤ 2199023255552 * ((kL : Int) + 2) := by omega
      have HRA7 : Hid (∀ wz, Below w7.heap.size w7 wz → RdA wz r v1 xs) := fun wz hz => hra7.below hz (Nat.le_refl _)
      have HU7 : Hid (∀ wz, Upd [r] w7 wz → Errs S wz E B) := fun wz hz => HEU.out wz (hu7.trans' hz (fun k hk => .inr (by simp at hk; omega)))
      obtain ⟨cs, hcs⟩ := hro7
      have hc2 := hrb7.cell (i := 2) (by omega)
      rw [show btF bn z4 u 2 = u from rfl] at hc2
      have hf2 := hrb7.frozen 2
      have hbb7 := hrb7.lt
      have hrr7 := hra7.lt
      obtain ⟨i0, hi0, hz0, hz1', hz2'⟩ := info_parts infoRc
      have HI := Lib.hid hi0
      have hneb : u.ownBlock ≠ some bb := by
        obtain ⟨-, h2, -⟩ := hcs
        exact fun e => h2 bb e (by simp)
      have HTM1 := Lib.hid htm1
      have HTM2 := Lib.hid htm2
      clear hra7 hi0 htm1 htm2 hrv
      go_upto_region 8 with fail
      go_region_law
        (first
          | (go_simp
             with_reducible refine (bytes_c (E := E) (B := B) h0 h2 h4 64 64 rfl (by omega) ?_ hBr HBY.out HVS.out ?_).mono ?_
             · exact HU7.out _ ((Upd.refl _ _).drewN 1)
             · exact HRA7.out _ (Below.refl _ _).drew
             rintro e w8 ⟨⟨yk, ka, kc, rfl, howK, hk64, hkb⟩, hraK, hupK⟩
             have hszK := hupK.size
             simp at hszK
             have hbb8 : bb < w8.heap.size := by omega
             have HUK : Hid (Errs S w8 E B) := HU7.out _ (Upd.drewN_l (n := 1) hupK)
             have hcK := (hupK.cell (b := bb) (o := 2) (by simpa using hbb7) (by simp; omega)).trans (show _ = some u from hc2))
          | (go_simp
             with_reducible refine (bytes_c (E := E) (B := B) h0 h2 h4 512 512 rfl (by omega) ?_ hBr HBY.out HVS.out ?_).mono ?_
             · exact HUK.out
             · exact hraK
             rintro e w9 ⟨⟨yv, va, vc, rfl, howV, hv512, hvb2⟩, hraV, hupV⟩
             have hszV := hupV.size
             have hbb9 : bb < w9.heap.size := by omega
             have hcV := (hupV.cell (b := bb) (o := 2) (by omega) (by simp; omega)).trans hcK)
          | (have hcs9 := ((hcs.upd ((Upd.refl [] _).drewN 1) (by simp)).upd hupK (fun k hk => .inl (by simp at hk; simp [hk]))).upd hupV (fun k hk => .inl (by simp at hk; simp [hk]))
             refine step_append_lies _ (by rfl) _ _ _ (by rfl) w.heap.size 116 i0 _ 3 56 Tryz.underlying36 HI.out hz0 hz1' hz2' rfl (by omega) u L.length cs (by rfl) (hcs9.1.alloc _)
               ⟨w9.heap.size, 0, none⟩ 1 1 [.int .i64 tm, .slice ka yk.length kc, .slice va yv.length vc] (by rfl) (by rfl)
               (World.news_of_block (cs := #[.int .i64 tm, .slice ka yk.length kc, .slice va yv.length vc]) (t := 116) (fr := (0, 0)) (heap_alloc_new w9 _)) (by simp [Value.oneCell'])
               (by omega) (by rw [HKL.out]; unfold maxLen; omega) (by rw [HKL.out]; omega) (by simp; omega) (w9.heap.size + 1) (by simp) ?_
             intro gg cap1 w10 hown10 hgrow hat hltg
             have hrb10 := ((((hrb7.drew).of_block (hupK.block bb (by simpa using hbb7) (by simp; omega))).of_block (hupV.block bb (by omega) (by simp; omega))).alloc _).of_block (hgrow.block bb (by simp; omega) (fun e => hneb e.symm))
             have hf10 := hrb10.frozen 2
             have hc10 := hrb10.cell (i := 2) (by omega)
             rw [show btF bn z4 u 2 = u from rfl] at hc10))
      all_goals
        go_wp2_with fail
        go_roundg gj
        case measure => omega
        case rel =>
          have hs7 : w.heap.size < w7.heap.size := hr07.lt
          have hul : ∀ b, u.ownBlock = some b → b < w7.heap.size := fun b hb => (World.ownsRow.lt hcs.1 b hb).2
          have hNl : ∀ b, b ∈ nv ++ r :: bb :: w.heap.size :: N → b < w7.heap.size := by
            intro b hb
            simp only [List.mem_append, List.mem_cons] at hb
            rcases hb with hb | rfl | rfl | rfl | hb
            · have := hvl b ((hnv b).1 hb); omega
            · exact hrr7
            · exact hbb7
            · exact hs7
            · have := hN b hb; omega
          have hkK : SlB w9 (.slice ka yk.length kc) yk := (owns_read howK).2.upd hupV (fun b hb e => by
            have := (World.ownsRow.lt howK b e).1
            simp at hb this; omega)
          have hkV := (owns_read howV).2
          have nK : ∀ b, (Value.slice ka yk.length kc).ownBlock = some b → b ∉ nv ++ r :: bb :: w.heap.size :: N ∧ u.ownBlock ≠ some b := fun b hb => by
            have := (World.ownsRow.lt howK b hb).1
            simp at this
            exact ⟨fun hm => by have := hNl b hm; omega, fun e => by have := hul b e; omega⟩
          have nV : ∀ b, (Value.slice va yv.length vc).ownBlock = some b → b ∉ nv ++ r :: bb :: w.heap.size :: N ∧ u.ownBlock ≠ some b := fun b hb => by
            have := (World.ownsRow.lt howV b hb).1
            exact ⟨fun hm => by have := hNl b hm; omega, fun e => by have := hul b e; omega⟩
          have hal := (Upd.refl [] w9).alloc (.cells #[.int .i64 tm, .slice ka yk.length kc, .slice va yv.length vc] 116)
          have hunot : ∀ b, b ∈ nv ++ r :: bb :: w.heap.size :: N → u.ownBlock ≠ some b := fun b hb e => hcs.2.1 b e hb
          have hpush := (hcs9.upd hal (by simp)).push (w' := w10) (u' := .slice (some ⟨gg, 0, none⟩) (L.length + 1) cap1) ⟨tm, yk, yv⟩ (.slice ka yk.length kc) (.slice va yv.length vc) hown10 hgrow
            (by rcases hat with e | e; exact .inl (by rw [e]; rfl); exact .inr ⟨gg, rfl, by rw [e]; simp⟩) (fun b hb => by have := hNl b hb; simp; omega) (hkK.upd hal (by simp)) (hkV.upd hal (by simp)) (.inr nK) (.inr nV)
          have hset : Upd [bb] w10 (w10.setCell ⟨bb, 2, none⟩ (.slice (some ⟨gg, 0, none⟩) (L.length + 1) cap1)) := (Upd.refl _ _).setCell _ _ _ (.inl (by simp))
          have hro11 := hpush.upd hset (fun b hb => .inl (by simp at hb; simp [hb]))
          have hra11 := ((hraV.upd hal (by simp) (by simp)).upd (Upd.of_grown hgrow) (fun hm => by simp at hm; exact hunot r (by simp) hm) (fun b hb e => by simp at hb; exact hunot b (by simp [(hnv b).2 e]) hb)).upd hset (by simp; omega) (fun b hb e => by simp at hb; have := hvl b e; omega)
          have hr010 := ((((hr07.drew).of_block (hupK.block _ (by simpa using hs7) (by simp; omega))).of_block (hupV.block _ (by omega) (by simp; omega))).alloc _).of_block (hgrow.block w.heap.size (by simp; omega) (fun e => hunot w.heap.size (by simp) e.symm))
          have hr011 := hr010.setOther (a := ⟨bb, 2, none⟩) (by simp; omega) (.slice (some ⟨gg, 0, none⟩) (L.length + 1) cap1)
          have hrb11 := (hrb10.set 2 (.slice (some ⟨gg, 0, none⟩) (L.length + 1) cap1)).congr (g := btF bn z4 (.slice (some ⟨gg, 0, none⟩) (L.length + 1) cap1)) (fun i hi => by rcases (show i = 0 ∨ i = 1 ∨ i = 2 by omega) with rfl | rfl | rfl <;> simp [btF])
          have hu11 : Upd [] w (w10.setCell ⟨bb, 2, none⟩ (.slice (some ⟨gg, 0, none⟩) (L.length + 1) cap1)) :=
            (((((hu7.drewN 1).trans' hupK (fun b hb => .inr (by simp at hb; omega))).trans' hupV (fun b hb => .inr (by simp at hb; omega))).alloc _).grown hgrow (fun b hb => .inr (World.ownsRow.lt hcs.1 b hb).1)).setCell _ _ _ (.inr (by omega))
          have hlb11 : ∀ y ∈ L ++ [(⟨tm, yk, yv⟩ : Rc)], (∀ b ∈ y.k, b < 256) ∧ (∀ b ∈ y.v, b < 256) := fun y hy => by
            rcases List.mem_append.1 hy with hy | hy
            · exact HLB.out y hy
            · rw [List.mem_singleton.1 hy]; exact ⟨hkb, hvb2⟩
          have hlen : (L ++ [(⟨tm, yk, yv⟩ : Rc)]).length = kL + 1 := by rw [List.length_append, HKL.out]; rfl
          exact ⟨_, L ++ [⟨tm, yk, yv⟩], tm, by rw [hlen]; omega, by go_num, rfl, by rw [hlen]; have := HTM1.out; omega, by rw [hlen]; have := HTM2.out; omega, hra11, hrb11, hr011, hro11, hu11, hlb11⟩
end Go.Proofs.YtncjffkpkmjgkaaGreatDoor.Sg

/-! Ua -/
namespace Go.Proofs.YtncjffkpkmjgkaaGreatDoor.Sg
open Go.RowKit Er Go.Maps

/-- These bytes begin with a batch's bytes. -/
def HasB (b : List Nat) : Prop := ∃ x rest, BtOk x ∧ BtBy x ∧ b = batB x ++ rest

theorem all_split : ∀ (n : Nat) (b : List Nat), b.length ≤ n → ∃ l t, b = flatB l ++ t ∧ (∀ x, x ∈ l → BtOk x ∧ BtBy x) ∧ (t = [] ∨ ¬ HasB t)
  | 0, b, h => ⟨[], [], by rw [List.eq_nil_of_length_eq_zero (Nat.le_zero.1 h)]; rfl, fun x hx => (by cases hx), .inl rfl⟩
  | n + 1, b, h => by
    by_cases hb : HasB b
    · obtain ⟨x, rest, h1, h2, rfl⟩ := hb
      have hp := szB_pos x
      unfold szB at hp
      rw [List.length_append] at h
      obtain ⟨l, t, e, hl, ht⟩ := all_split n rest (by omega)
      refine ⟨x :: l, t, ?_, fun y hy => ?_, ht⟩
      · rw [e]
        show _ = (batB x ++ flatB l) ++ t
        rw [List.append_assoc]
      · rcases List.mem_cons.1 hy with rfl | hy
        · exact ⟨h1, h2⟩
        · exact hl y hy
    · exact ⟨[], b, rfl, fun x hx => (by cases hx), .inr hb⟩
end Go.Proofs.YtncjffkpkmjgkaaGreatDoor.Sg

/-! Ug -/
namespace Go.Proofs.YtncjffkpkmjgkaaGreatDoor.Sg
open Go.RowKit Er Go.Maps

theorem leB4 (ys : List Nat) (h4 : ys.length = 4) (hb : ∀ y ∈ ys, y < 256) : leB (leV ys) 4 = ys := by
  match ys, h4 with
  | [a, b, c, d], _ =>
    have ha := hb a (by simp)
    have hb1 := hb b (by simp)
    have hc := hb c (by simp)
    have hd := hb d (by simp)
    simp only [leB, leV, List.range_succ, List.range_zero, List.nil_append, List.cons_append, List.map_cons, List.map_nil]
    simp only [List.cons.injEq, and_true]
    refine ⟨?_, ?_, ?_, ?_⟩ <;> omega

theorem vcode_cs (x : Bt) : vcode x = 0 ∨ vcode x = 101 + 3 ∨ vcode x = 101 + 4 := by
  unfold vcode
  split
  · exact .inr (.inl rfl)
  · split
    · exact .inr (.inr rfl)
    · split
      · exact .inl rfl
      · exact .inr (.inr rfl)

set_option maxRecDepth 100000 in
set_option maxHeartbeats 400000 in
theorem equal_diff (v1 v2 : Value) (xs ys : List Nat) (w : World) (h1 : SlB w v1 xs) (h2 : SlB w v2 ys) (hne : xs ≠ ys) (hx9 : xs.length ≤ 1099511627776) :
    Calls Tryz.prog 147 #[v1, v2] w fun e w' => e = .returned (.bool false) ∧ Below w.heap.size w w' := by
  have H1 := Lib.hid h1
  have H2 := Lib.hid h2
  obtain ⟨va, vc, rfl, -⟩ := h1.shape
  obtain ⟨ua, uc, rfl, -⟩ := h2.shape
  have HNE := Lib.hid hne
  clear h1 h2 hne
  by_cases hl : xs.length = ys.length
  · obtain ⟨n, hn⟩ : ∃ n, ys.length = n := ⟨_, rfl⟩
    have hnx : xs.length = n := hl.trans hn
    have HN := Lib.hid hn
    have HNX := Lib.hid hnx
    rw [hnx] at hx9 ⊢
    rw [hn]
    clear hl hn hnx
    go_enter Tryz.func147, Tryz.ntmps147
    go_wp2_with fail
    go_loopg [13] n (fun m j wr => ∃ k : Nat, k + m = n ∧ j = .int .i64 k ∧ Below w.heap.size w wr ∧ xs.take k = ys.take k)
    case atStart => exact ⟨0, by omega, rfl, Below.refl _ _, rfl⟩
    case round =>
      obtain ⟨k, hk, rfl, hb, htk⟩ := hrel
      by_cases hlt : k < n
      · have hx : k < xs.length := by rw [HNX.out]; exact hlt
        have hy : k < ys.length := by rw [HN.out]; exact hlt
        obtain ⟨g1, o1, c1, hv1, -, hc1⟩ := slB_cell (H1.out.below hb rfl) hx
        obtain ⟨g2, o2, c2, hv2, -, hc2⟩ := slB_cell (H2.out.below hb rfl) hy
        rw [HNX.out] at hv1
        rw [HN.out] at hv2
        cases hv1
        cases hv2
        obtain ⟨a, ha⟩ : ∃ a, xs[k] = a := ⟨_, rfl⟩
        obtain ⟨b, hb'⟩ : ∃ a, ys[k] = a := ⟨_, rfl⟩
        rw [ha] at hc1
        rw [hb'] at hc2
        have i1 : (0 : Int) ≤ (k : Int) := by omega
        have i2 : (k : Int) < (n : Int) := by omega
        by_cases hab : a = b
        · subst hab
          have htk2 : xs.take (k + 1) = ys.take (k + 1) := by rw [List.take_add_one, List.take_add_one, htk, List.getElem?_eq_getElem hx, List.getElem?_eq_getElem hy, ha, hb']
          have HT := Lib.hid htk2
          obtain ⟨gj, rfl⟩ : ∃ x, gk = x + 1 := ⟨gk - 1, by omega⟩
          clear htk htk2 ha hb' hx hy
          go_wp2_with fail
          go_quiet (fail)
          go_wp2_with fail
          go_roundg gj
          case measure => omega
          case rel => exact ⟨k + 1, by omega, by go_num, below_drewN hb _, HT.out⟩
        · have hab2 : ¬ (a : Int) = (b : Int) := by omega
          clear htk ha hb' hx hy
          go_wp2_with fail
          go_quiet (fail)
          go_wp2_with fail
          go_ret
          exact ⟨rfl, below_drewN hb _⟩
      · have hkn : k = n := by omega
        exact absurd (by rw [hkn, List.take_of_length_le (by rw [HNX.out]; exact Nat.le_refl _), List.take_of_length_le (by rw [HN.out]; exact Nat.le_refl _)] at htk; exact htk) HNE.out
  · have hl2 : ¬ (xs.length : Int) = (ys.length : Int) := by omega
    go_enter Tryz.func147, Tryz.ntmps147
    go_wp2_with fail
    go_ret
    exact ⟨rfl, Below.refl _ _⟩

section
variable {S : List Nat} {E : Nat → Addr} {B : Nat}
set_option maxRecDepth 100000 in
set_option maxHeartbeats 2000000 in
/-- Bytes that begin with no batch are read as none. -/
theorem bad_read (xs : List Nat) (hby : ∀ y ∈ xs, y < 256) (hxl : xs.length ≤ 1099511627776) (hno : ¬ HasB xs) : RdBad S E B xs := by
  by_cases h8 : xs.length < 8
  · exact short_a xs h8
  intro P F w v C hH h
  obtain ⟨q, hq⟩ : ∃ q, xs.length = q := ⟨_, rfl⟩
  obtain ⟨g, off, cap, hv, hg, -⟩ := slB_cell h (k := 0) (by omega)
  subst hv
  obtain ⟨a0, cap0, hcc, hcap⟩ := h.shape
  cases hcc
  obtain ⟨y1, hy1⟩ : ∃ y, xs.take 4 = y := ⟨_, rfl⟩
  obtain ⟨y2, hy2⟩ : ∃ y, (xs.drop 4).take 4 = y := ⟨_, rfl⟩
  have l1 : y1.length = 4 := by rw [← hy1]; simp; omega
  have l2 : y2.length = 4 := by rw [← hy2]; simp; omega
  have b1 : ∀ y ∈ y1, y < 256 := fun y hy => hby y (by rw [← hy1] at hy; exact List.mem_of_mem_take hy)
  have b2 : ∀ y ∈ y2, y < 256 := fun y hy => hby y (by rw [← hy2] at hy; exact List.mem_of_mem_drop (List.mem_of_mem_take hy))
  have ht8 : (xs.drop 0).take 8 = y1 ++ y2 := by
    rw [← hy1, ← hy2, List.drop_zero, show (8 : Nat) = 4 + 4 from rfl, List.take_add]
  have hsp : xs = y1 ++ (y2 ++ xs.drop 8) := by
    have h1 : xs = xs.take 8 ++ xs.drop 8 := (List.take_append_drop 8 xs).symm
    rw [List.drop_zero] at ht8
    rw [ht8, List.append_assoc] at h1
    exact h1
  obtain ⟨n, hn⟩ : ∃ n, leV y1 = n := ⟨_, rfl⟩
  obtain ⟨c, hc⟩ : ∃ c, leV y2 = c := ⟨_, rfl⟩
  have hn32 : n < 4294967296 := by have := leV_lt y1 b1; rw [l1] at this; omega
  have hc32 : c < 4294967296 := by have := leV_lt y2 b2; rw [l2] at this; omega
  have hs8 : SlB w (.slice (some ⟨g, off, none⟩) 8 cap) (y1 ++ y2) := by
    have := h.drop (p := 0) (by omega) (m := 8) (by omega) cap (by omega)
    rwa [ht8, Nat.add_zero] at this
  obtain ⟨bd, hbd⟩ : ∃ bd, (xs.drop 8).take n = bd := ⟨_, rfl⟩
  have HX0 : Hid ((y1 ++ y2).drop 0 = y1 ++ y2) := List.drop_zero
  have HX4 : Hid ((y1 ++ y2).drop 4 = y2 ++ []) := by show _ = _; rw [List.append_nil]; exact drop_len _ _ _ l1
  have HLN : Hid ((y1 ++ y2).length ≤ 1099511627776) := by show _ ≤ _; simp [l1, l2]
  have hnobd : bd.length = n → crcF 0 bd = c → ∀ x, BtOk x → BtBy x → bodyB x ≠ bd := fun e1 e2 x hx1 hx2 e => by
    refine hno ⟨x, (xs.drop 8).drop n, hx1, hx2, ?_⟩
    have h1 : leB n 4 = y1 := by rw [← hn]; exact leB4 y1 l1 b1
    have h2 : leB c 4 = y2 := by rw [← hc]; exact leB4 y2 l2 b2
    unfold batB
    rw [e, e1, e2, h1, h2, List.append_assoc, List.append_assoc, ← hbd, List.take_append_drop]
    exact hsp
  have hbdb : ∀ y ∈ bd, y < 256 := fun y hy => hby y (by rw [← hbd] at hy; exact List.mem_of_mem_drop (List.mem_of_mem_take hy))
  have hsb : n ≤ q - 8 → SlB w (.slice (some ⟨g, off + 8, none⟩) n (cap - 8)) bd := fun hn' => by
    have := h.drop (p := 8) (by omega) (m := n) (by omega) (cap - 8) (by omega)
    rwa [hbd] at this
  have hbl : n ≤ q - 8 → bd.length = n := fun h => by rw [← hbd]; simp; omega
  have HSP := Lib.hid hnobd
  have HBDB := Lib.hid hbdb
  have HSB := Lib.hid hsb
  have HBL := Lib.hid hbl
  have HB1 := Lib.hid b1
  have HB2 := Lib.hid b2
  have HL1 := Lib.hid l1
  have HL2 := Lib.hid l2
  have HNV := Lib.hid hn
  have HCV := Lib.hid hc
  have HS8 := Lib.hid (hs8.below ((Below.refl _ _).alloc (Nat.le_refl _) (.cells #[.int .i64 0, .int .i64 0, .slice none 0 0] 38)) rfl)
  rw [hq] at h8 hcap hxl ⊢
  have i1 : ¬ (q : Int) < 8 := by omega
  have i2 : (8 : Int) ≤ (cap : Int) := by omega
  have i3 : ¬ cap = 0 := by omega
  have H0 := Lib.hid hH
  clear h hs8 hn hc ht8 hsp hbd hnobd hbdb hsb hbl b1 b2 l1 l2 hy1 hy2 hq hno hby hH
  go_enter Tryz.func110, Tryz.ntmps110
  go_wp2_with fail
  refine (newreader_any _ (y1 ++ y2) _ HS8.out HLN.out).mono ?_
  rintro e w1 ⟨⟨r, v1, rfl, hr, hrd⟩, hb1⟩
  simp only [World.alloc_size'] at hr
  have hb1' : Below (w.heap.size + 1) (w.alloc (.cells #[.int .i64 0, .int .i64 0, .slice none 0 0] 38)) w1 := hb1.mono (by simp)
  clear hb1
  go_wp2_with fail
  refine (fixed_at 4 y1 HL1.out (by omega) (by omega) HB1.out n HNV.out r 0 v1 _ _ w1 hrd HX0.out).mono ?_
  rintro e w2 ⟨rfl, hrd2, hup2⟩
  have hb2 := hb1'.trans (hup2.to_below (B := w.heap.size + 1) (by have := hb1'.size; simpa using this) (fun b hb => by simp at hb; omega))
  clear hrd hup2 hb1'
  go_wp2_with fail
  refine (fixed_at 4 y2 HL2.out (by omega) (by omega) HB2.out c HCV.out r _ v1 _ [] w2 hrd2 HX4.out).mono ?_
  rintro e w3 ⟨rfl, hrd3, hup3⟩
  have hb3 := hb2.trans (hup3.to_below (B := w.heap.size + 1) (by have := hb2.size; simpa using this) (fun b hb => by simp at hb; omega))
  have HB3 := Lib.hid hb3
  clear hrd2 hrd3 hup3 hb2 hb3
  rcases (show 65536 < n ∨ (n ≤ 65536 ∧ q - 8 < n) ∨ (n ≤ 65536 ∧ n ≤ q - 8) by omega) with hk | ⟨hk1, hk2⟩ | ⟨hk1, hk2⟩
  · have i4 : (65536 : Int) < (n : Int) := by omega
    have hHz := H0.out.below (below_box HB3.out (Nat.le_refl _)) (Nat.le_refl _)
    have cz : w3.cell? ⟨9, 0, none⟩ = some (.iface 289 (.pointer (some (E 3)))) := (hHz.use C.errs).at_ 3 (C.all 3 (by decide))
    have hrow0 : (w.alloc (.cells #[.int .i64 0, .int .i64 0, .slice none 0 0] 38)).rowIs w.heap.size 38 3 (btF 0 0 (.slice none 0 0)) :=
      World.rowIs_alloc w #[.int .i64 0, .int .i64 0, .slice none 0 0] _ _ (fun i hi => by
        have hi' : i < 3 := hi
        rcases (show i = 0 ∨ i = 1 ∨ i = 2 by omega) with rfl | rfl | rfl <;> rfl)
    have hrowz := hrow0.of_block (HB3.out.block w.heap.size (by omega))
    have hg8 : 9 < w.heap.size := World.block_lt_of_cell? _ _ ((H0.out.use C.errs).at_ 3 (C.all 3 (by decide)))
    have hg9 : ¬ 9 = w.heap.size := by omega
    have e0 := hrowz.cell (i := 0) (by omega)
    have e1 := hrowz.cell (i := 1) (by omega)
    have e2 := hrowz.cell (i := 2) (by omega)
    have f0 := hrowz.frozen 0
    have f1 := hrowz.frozen 1
    have f2 := hrowz.frozen 2
    have hrF := ((hrowz.set 0 (.int .i64 0)).set 1 (.int .i64 0)).set 2 (.slice none 0 0)
    have huF : Upd [w.heap.size] w3 (((w3.setCell ⟨w.heap.size, 0, none⟩ (.int .i64 0)).setCell ⟨w.heap.size, 1, none⟩ (.int .i64 0)).setCell ⟨w.heap.size, 2, none⟩ (.slice none 0 0)) :=
      (((Upd.refl _ _).setCell _ _ _ (.inl (by simp))).setCell _ _ _ (.inl (by simp))).setCell _ _ _ (.inl (by simp))
    have hbF : Below w.heap.size w (((w3.setCell ⟨w.heap.size, 0, none⟩ (.int .i64 0)).setCell ⟨w.heap.size, 1, none⟩ (.int .i64 0)).setCell ⟨w.heap.size, 2, none⟩ (.slice none 0 0)) := (below_box HB3.out (Nat.le_refl _)).trans (huF.to_below (by have := HB3.out.size; simp at this ⊢; omega) (fun b hb => by simp at hb; omega))
    have hHF := H0.out.below hbF (Nat.le_refl _)
    have c8 : (((w3.setCell ⟨w.heap.size, 0, none⟩ (.int .i64 0)).setCell ⟨w.heap.size, 1, none⟩ (.int .i64 0)).setCell ⟨w.heap.size, 2, none⟩ (.slice none 0 0)).cell? ⟨9, 0, none⟩ = some (.iface 289 (.pointer (some (E 3)))) := (hHF.use C.errs).at_ 3 (C.all 3 (by decide))
    have HHF := Lib.hid hHF
    have HRF := Lib.hid hrF
    clear hrF huF hHF hbF hHz hrow0 hrowz
    go_wp2_with fail
    go_region_held3 (fun w' => w'.cell? ⟨9, 0, none⟩ = some (.iface 289 (.pointer (some (E 3)))))
      (first
        | go_keep
        | exact cz
        | exact c8)
      (fail)
    go_wp2_with fail
    have g0 : (((w3.setCell ⟨w.heap.size, 0, none⟩ (.int .i64 0)).setCell ⟨w.heap.size, 1, none⟩ (.int .i64 0)).setCell ⟨w.heap.size, 2, none⟩ (.slice none 0 0)).drew.cell? ⟨w.heap.size, 0, none⟩ = some (.int .i64 0) := HRF.out.cell (i := 0) (by omega)
    have g1 : (((w3.setCell ⟨w.heap.size, 0, none⟩ (.int .i64 0)).setCell ⟨w.heap.size, 1, none⟩ (.int .i64 0)).setCell ⟨w.heap.size, 2, none⟩ (.slice none 0 0)).drew.cell? ⟨w.heap.size, 1, none⟩ = some (.int .i64 0) := HRF.out.cell (i := 1) (by omega)
    have g2 : (((w3.setCell ⟨w.heap.size, 0, none⟩ (.int .i64 0)).setCell ⟨w.heap.size, 1, none⟩ (.int .i64 0)).setCell ⟨w.heap.size, 2, none⟩ (.slice none 0 0)).drew.cell? ⟨w.heap.size, 2, none⟩ = some (.slice none 0 0) := HRF.out.cell (i := 2) (by omega)
    exact bodyPost_ret (v := .tuple #[.agg #[.int .i64 0, .int .i64 0, .slice none 0 0], .int .i64 0, .iface 289 (.pointer (some (E 3)))]) (by simp [results, Tryz.results110, go_sem, g0, g1, g2]) rfl ⟨3, P, rfl, Sub.refl P, HHF.out.drew⟩
  · have i4 : ¬ (65536 : Int) < (n : Int) := by omega
    have i5 : ((q : Int) - 8) < (n : Int) := by omega
    have hHz := H0.out.below (below_box HB3.out (Nat.le_refl _)) (Nat.le_refl _)
    have cz : w3.cell? ⟨10, 0, none⟩ = some (.iface 289 (.pointer (some (E 0)))) := (hHz.use C.errs).at_ 0 (C.all 0 (by decide))
    have hrow0 : (w.alloc (.cells #[.int .i64 0, .int .i64 0, .slice none 0 0] 38)).rowIs w.heap.size 38 3 (btF 0 0 (.slice none 0 0)) :=
      World.rowIs_alloc w #[.int .i64 0, .int .i64 0, .slice none 0 0] _ _ (fun i hi => by
        have hi' : i < 3 := hi
        rcases (show i = 0 ∨ i = 1 ∨ i = 2 by omega) with rfl | rfl | rfl <;> rfl)
    have hrowz := hrow0.of_block (HB3.out.block w.heap.size (by omega))
    have hg8 : 10 < w.heap.size := World.block_lt_of_cell? _ _ ((H0.out.use C.errs).at_ 0 (C.all 0 (by decide)))
    have hg9 : ¬ 10 = w.heap.size := by omega
    have e0 := hrowz.cell (i := 0) (by omega)
    have e1 := hrowz.cell (i := 1) (by omega)
    have e2 := hrowz.cell (i := 2) (by omega)
    have f0 := hrowz.frozen 0
    have f1 := hrowz.frozen 1
    have f2 := hrowz.frozen 2
    have hrF := ((hrowz.set 0 (.int .i64 0)).set 1 (.int .i64 0)).set 2 (.slice none 0 0)
    have huF : Upd [w.heap.size] w3 (((w3.setCell ⟨w.heap.size, 0, none⟩ (.int .i64 0)).setCell ⟨w.heap.size, 1, none⟩ (.int .i64 0)).setCell ⟨w.heap.size, 2, none⟩ (.slice none 0 0)) :=
      (((Upd.refl _ _).setCell _ _ _ (.inl (by simp))).setCell _ _ _ (.inl (by simp))).setCell _ _ _ (.inl (by simp))
    have hbF : Below w.heap.size w (((w3.setCell ⟨w.heap.size, 0, none⟩ (.int .i64 0)).setCell ⟨w.heap.size, 1, none⟩ (.int .i64 0)).setCell ⟨w.heap.size, 2, none⟩ (.slice none 0 0)) := (below_box HB3.out (Nat.le_refl _)).trans (huF.to_below (by have := HB3.out.size; simp at this ⊢; omega) (fun b hb => by simp at hb; omega))
    have hHF := H0.out.below hbF (Nat.le_refl _)
    have c8 : (((w3.setCell ⟨w.heap.size, 0, none⟩ (.int .i64 0)).setCell ⟨w.heap.size, 1, none⟩ (.int .i64 0)).setCell ⟨w.heap.size, 2, none⟩ (.slice none 0 0)).cell? ⟨10, 0, none⟩ = some (.iface 289 (.pointer (some (E 0)))) := (hHF.use C.errs).at_ 0 (C.all 0 (by decide))
    have HHF := Lib.hid hHF
    have HRF := Lib.hid hrF
    clear hrF huF hHF hbF hHz hrow0 hrowz
    go_wp2_with fail
    go_region_held3 (fun w' => w'.cell? ⟨10, 0, none⟩ = some (.iface 289 (.pointer (some (E 0)))))
      (first
        | go_keep
        | exact cz
        | exact c8)
      (fail)
    go_wp2_with fail
    have g0 : (((w3.setCell ⟨w.heap.size, 0, none⟩ (.int .i64 0)).setCell ⟨w.heap.size, 1, none⟩ (.int .i64 0)).setCell ⟨w.heap.size, 2, none⟩ (.slice none 0 0)).drew.cell? ⟨w.heap.size, 0, none⟩ = some (.int .i64 0) := HRF.out.cell (i := 0) (by omega)
    have g1 : (((w3.setCell ⟨w.heap.size, 0, none⟩ (.int .i64 0)).setCell ⟨w.heap.size, 1, none⟩ (.int .i64 0)).setCell ⟨w.heap.size, 2, none⟩ (.slice none 0 0)).drew.cell? ⟨w.heap.size, 1, none⟩ = some (.int .i64 0) := HRF.out.cell (i := 1) (by omega)
    have g2 : (((w3.setCell ⟨w.heap.size, 0, none⟩ (.int .i64 0)).setCell ⟨w.heap.size, 1, none⟩ (.int .i64 0)).setCell ⟨w.heap.size, 2, none⟩ (.slice none 0 0)).drew.cell? ⟨w.heap.size, 2, none⟩ = some (.slice none 0 0) := HRF.out.cell (i := 2) (by omega)
    exact bodyPost_ret (v := .tuple #[.agg #[.int .i64 0, .int .i64 0, .slice none 0 0], .int .i64 0, .iface 289 (.pointer (some (E 0)))]) (by simp [results, Tryz.results110, go_sem, g0, g1, g2]) rfl ⟨0, P, rfl, Sub.refl P, HHF.out.drew⟩
  · have i4 : ¬ (65536 : Int) < (n : Int) := by omega
    have i5 : ¬ ((q : Int) - 8) < (n : Int) := by omega
    by_cases hc8 : cap = 8
    · have hn0 : n = 0 := by omega
      have hsi : SlB w3 (.slice (some ⟨g, off, none⟩) 0 0) bd := .inr (.inr ⟨_, 0, rfl, List.eq_nil_of_length_eq_zero (by rw [HBL.out hk2, hn0])⟩)
      subst hn0 hc8
      have HY3 := Lib.hid (hsi.below ((Below.refl _ _).alloc (Nat.le_refl _) (.cells #[.slice (some ⟨g, off, none⟩) 0 0] 22)) rfl)
      have HSI := Lib.hid hsi
      have hs3 := HB3.out.size
      simp only [World.alloc_size'] at hs3
      obtain ⟨cc, hcc⟩ : ∃ c, crcF 0 bd = c := ⟨_, rfl⟩
      have hcc32 : cc < 4294967296 := by rw [← hcc]; exact crcF_lt 0 bd
      have HCC := Lib.hid hcc
      clear hsi hcc
      go_wp2_with fail
      refine (of_any _ _ (.slice (some ⟨g, off, none⟩) 0 0) bd _ (by go_simp) (by simp) HY3.out HBDB.out (by rw [HBL.out hk2]; omega)).mono ?_
      rintro e w4 ⟨rfl, hb4'⟩
      rw [HCC.out]
      have hb4 := (HB3.out.alloc hs3 (.cells #[.slice (some ⟨g, off, none⟩) 0 0] 22)).trans (hb4'.mono (by simp; omega))
      have hs4 := hb4.size
      simp only [World.alloc_size'] at hs4
      have HSI4 := Lib.hid (HSI.out.below (B := w3.heap.size) (((Below.refl _ _).alloc (Nat.le_refl _) (.cells #[.slice (some ⟨g, off, none⟩) 0 0] 22)).trans (hb4'.mono (by simp))) rfl)
      have HB4 := Lib.hid hb4
      clear hb4' HY3 hb4
      by_cases hcq : cc = c
      case neg =>
        have hcq2 : ¬ (cc : Int) = (c : Int) := by omega
        have hHz := H0.out.below (below_box HB4.out (Nat.le_refl _)) (Nat.le_refl _)
        have cz : w4.cell? ⟨11, 0, none⟩ = some (.iface 289 (.pointer (some (E 1)))) := (hHz.use C.errs).at_ 1 (C.all 1 (by decide))
        have hrow0 : (w.alloc (.cells #[.int .i64 0, .int .i64 0, .slice none 0 0] 38)).rowIs w.heap.size 38 3 (btF 0 0 (.slice none 0 0)) :=
          World.rowIs_alloc w #[.int .i64 0, .int .i64 0, .slice none 0 0] _ _ (fun i hi => by
            have hi' : i < 3 := hi
            rcases (show i = 0 ∨ i = 1 ∨ i = 2 by omega) with rfl | rfl | rfl <;> rfl)
        have hrowz := hrow0.of_block (HB4.out.block w.heap.size (by omega))
        have hg8 : 11 < w.heap.size := World.block_lt_of_cell? _ _ ((H0.out.use C.errs).at_ 1 (C.all 1 (by decide)))
        have hg9 : ¬ 11 = w.heap.size := by omega
        have e0 := hrowz.cell (i := 0) (by omega)
        have e1 := hrowz.cell (i := 1) (by omega)
        have e2 := hrowz.cell (i := 2) (by omega)
        have f0 := hrowz.frozen 0
        have f1 := hrowz.frozen 1
        have f2 := hrowz.frozen 2
        have hrF := ((hrowz.set 0 (.int .i64 0)).set 1 (.int .i64 0)).set 2 (.slice none 0 0)
        have huF : Upd [w.heap.size] w4 (((w4.setCell ⟨w.heap.size, 0, none⟩ (.int .i64 0)).setCell ⟨w.heap.size, 1, none⟩ (.int .i64 0)).setCell ⟨w.heap.size, 2, none⟩ (.slice none 0 0)) :=
          (((Upd.refl _ _).setCell _ _ _ (.inl (by simp))).setCell _ _ _ (.inl (by simp))).setCell _ _ _ (.inl (by simp))
        have hbF : Below w.heap.size w (((w4.setCell ⟨w.heap.size, 0, none⟩ (.int .i64 0)).setCell ⟨w.heap.size, 1, none⟩ (.int .i64 0)).setCell ⟨w.heap.size, 2, none⟩ (.slice none 0 0)) := (below_box HB4.out (Nat.le_refl _)).trans (huF.to_below (by have := HB4.out.size; simp at this ⊢; omega) (fun b hb => by simp at hb; omega))
        have hHF := H0.out.below hbF (Nat.le_refl _)
        have c8 : (((w4.setCell ⟨w.heap.size, 0, none⟩ (.int .i64 0)).setCell ⟨w.heap.size, 1, none⟩ (.int .i64 0)).setCell ⟨w.heap.size, 2, none⟩ (.slice none 0 0)).cell? ⟨11, 0, none⟩ = some (.iface 289 (.pointer (some (E 1)))) := (hHF.use C.errs).at_ 1 (C.all 1 (by decide))
        have HHF := Lib.hid hHF
        have HRF := Lib.hid hrF
        clear hrF huF hHF hbF hHz hrow0 hrowz
        go_wp2_with fail
        go_region_held3 (fun w' => w'.cell? ⟨11, 0, none⟩ = some (.iface 289 (.pointer (some (E 1)))))
          (first
            | go_keep
            | exact cz
            | exact c8)
          (fail)
        go_wp2_with fail
        have g0 : (((w4.setCell ⟨w.heap.size, 0, none⟩ (.int .i64 0)).setCell ⟨w.heap.size, 1, none⟩ (.int .i64 0)).setCell ⟨w.heap.size, 2, none⟩ (.slice none 0 0)).drew.cell? ⟨w.heap.size, 0, none⟩ = some (.int .i64 0) := HRF.out.cell (i := 0) (by omega)
        have g1 : (((w4.setCell ⟨w.heap.size, 0, none⟩ (.int .i64 0)).setCell ⟨w.heap.size, 1, none⟩ (.int .i64 0)).setCell ⟨w.heap.size, 2, none⟩ (.slice none 0 0)).drew.cell? ⟨w.heap.size, 1, none⟩ = some (.int .i64 0) := HRF.out.cell (i := 1) (by omega)
        have g2 : (((w4.setCell ⟨w.heap.size, 0, none⟩ (.int .i64 0)).setCell ⟨w.heap.size, 1, none⟩ (.int .i64 0)).setCell ⟨w.heap.size, 2, none⟩ (.slice none 0 0)).drew.cell? ⟨w.heap.size, 2, none⟩ = some (.slice none 0 0) := HRF.out.cell (i := 2) (by omega)
        exact bodyPost_ret (v := .tuple #[.agg #[.int .i64 0, .int .i64 0, .slice none 0 0], .int .i64 0, .iface 289 (.pointer (some (E 1)))]) (by simp [results, Tryz.results110, go_sem, g0, g1, g2]) rfl ⟨1, P, rfl, Sub.refl P, HHF.out.drew⟩
      case pos =>
        subst hcq
        have HE4 : Hid (Errs S w4 E B) := (H0.out.below (below_box HB4.out (Nat.le_refl _)) (Nat.le_refl _)).use C.errs
        go_wp2_with fail
        refine (read_any (E := E) (B := B) (C.all 0 (by decide)) (C.all 2 (by decide)) (C.all 4 (by decide)) [] (.slice (some ⟨g, off, none⟩) 0 0) bd w4 (by simp) HE4.out HSI4.out HBDB.out (by rw [HBL.out hk2]; omega)).mono ?_
        rintro e w5 ⟨⟨x, rs, is, rfl, hro, hxl, hxb⟩, hb5'⟩
        have hb5 := HB4.out.trans (hb5'.mono hs4)
        have hs5 := hb5.size
        simp only [World.alloc_size'] at hs5
        obtain ⟨cs, hcs⟩ := hro
        obtain ⟨ua, uc, rfl⟩ := owns_shape hcs.1
        have hbt : BtV w5 (.agg #[.int .i64 x.b, .int .i64 x.e, .slice ua x.r.length uc]) x := ⟨_, rfl, RcO.read ⟨cs, hcs⟩⟩
        have HBT := Lib.hid (hbt.below ((Below.refl _ _).alloc (Nat.le_refl _) (.cells #[.int .i64 x.b, .int .i64 x.e, .slice ua x.r.length uc] 38)) rfl)
        have hb6 := hb5.alloc hs5 (.cells #[.int .i64 x.b, .int .i64 x.e, .slice ua x.r.length uc] 38)
        have HE6 := Lib.hid ((H0.out.below (below_box hb6 (Nat.le_refl _)) (Nat.le_refl _)).use C.errs)
        have HSI5 := Lib.hid (HSI4.out.below hb5' rfl)
        have HB6 := Lib.hid hb6
        have HXB := Lib.hid hxb
        clear hb5' hbt hcs hb5 hb6 hxb
        cases is with
        | false =>
          have hHz := H0.out.below (below_box HB6.out (Nat.le_refl _)) (Nat.le_refl _)
          have cz : (w5.alloc (.cells #[.int .i64 x.b, .int .i64 x.e, .slice ua x.r.length uc] 38)).cell? ⟨5, 0, none⟩ = some (.iface 289 (.pointer (some (E 2)))) := (hHz.use C.errs).at_ 2 (C.all 2 (by decide))
          have hrow0 : (w.alloc (.cells #[.int .i64 0, .int .i64 0, .slice none 0 0] 38)).rowIs w.heap.size 38 3 (btF 0 0 (.slice none 0 0)) :=
            World.rowIs_alloc w #[.int .i64 0, .int .i64 0, .slice none 0 0] _ _ (fun i hi => by
              have hi' : i < 3 := hi
              rcases (show i = 0 ∨ i = 1 ∨ i = 2 by omega) with rfl | rfl | rfl <;> rfl)
          have hrowz := hrow0.of_block (HB6.out.block w.heap.size (by omega))
          have hg8 : 5 < w.heap.size := World.block_lt_of_cell? _ _ ((H0.out.use C.errs).at_ 2 (C.all 2 (by decide)))
          have hg9 : ¬ 5 = w.heap.size := by omega
          have e0 := hrowz.cell (i := 0) (by omega)
          have e1 := hrowz.cell (i := 1) (by omega)
          have e2 := hrowz.cell (i := 2) (by omega)
          have f0 := hrowz.frozen 0
          have f1 := hrowz.frozen 1
          have f2 := hrowz.frozen 2
          have hrF := ((hrowz.set 0 (.int .i64 0)).set 1 (.int .i64 0)).set 2 (.slice none 0 0)
          have huF : Upd [w.heap.size] (w5.alloc (.cells #[.int .i64 x.b, .int .i64 x.e, .slice ua x.r.length uc] 38)) ((((w5.alloc (.cells #[.int .i64 x.b, .int .i64 x.e, .slice ua x.r.length uc] 38)).setCell ⟨w.heap.size, 0, none⟩ (.int .i64 0)).setCell ⟨w.heap.size, 1, none⟩ (.int .i64 0)).setCell ⟨w.heap.size, 2, none⟩ (.slice none 0 0)) :=
            (((Upd.refl _ _).setCell _ _ _ (.inl (by simp))).setCell _ _ _ (.inl (by simp))).setCell _ _ _ (.inl (by simp))
          have hbF : Below w.heap.size w ((((w5.alloc (.cells #[.int .i64 x.b, .int .i64 x.e, .slice ua x.r.length uc] 38)).setCell ⟨w.heap.size, 0, none⟩ (.int .i64 0)).setCell ⟨w.heap.size, 1, none⟩ (.int .i64 0)).setCell ⟨w.heap.size, 2, none⟩ (.slice none 0 0)) := (below_box HB6.out (Nat.le_refl _)).trans (huF.to_below (by have := HB6.out.size; simp at this ⊢; omega) (fun b hb => by simp at hb; omega))
          have hHF := H0.out.below hbF (Nat.le_refl _)
          have c8 : ((((w5.alloc (.cells #[.int .i64 x.b, .int .i64 x.e, .slice ua x.r.length uc] 38)).setCell ⟨w.heap.size, 0, none⟩ (.int .i64 0)).setCell ⟨w.heap.size, 1, none⟩ (.int .i64 0)).setCell ⟨w.heap.size, 2, none⟩ (.slice none 0 0)).cell? ⟨5, 0, none⟩ = some (.iface 289 (.pointer (some (E 2)))) := (hHF.use C.errs).at_ 2 (C.all 2 (by decide))
          have HHF := Lib.hid hHF
          have HRF := Lib.hid hrF
          clear hrF huF hHF hbF hHz hrow0 hrowz
          go_wp2_with fail
          go_region_held3 (fun w' => w'.cell? ⟨5, 0, none⟩ = some (.iface 289 (.pointer (some (E 2)))))
            (first
              | go_keep
              | exact cz
              | exact c8)
            (fail)
          go_wp2_with fail
          have g0 : ((((w5.alloc (.cells #[.int .i64 x.b, .int .i64 x.e, .slice ua x.r.length uc] 38)).setCell ⟨w.heap.size, 0, none⟩ (.int .i64 0)).setCell ⟨w.heap.size, 1, none⟩ (.int .i64 0)).setCell ⟨w.heap.size, 2, none⟩ (.slice none 0 0)).drew.cell? ⟨w.heap.size, 0, none⟩ = some (.int .i64 0) := HRF.out.cell (i := 0) (by omega)
          have g1 : ((((w5.alloc (.cells #[.int .i64 x.b, .int .i64 x.e, .slice ua x.r.length uc] 38)).setCell ⟨w.heap.size, 0, none⟩ (.int .i64 0)).setCell ⟨w.heap.size, 1, none⟩ (.int .i64 0)).setCell ⟨w.heap.size, 2, none⟩ (.slice none 0 0)).drew.cell? ⟨w.heap.size, 1, none⟩ = some (.int .i64 0) := HRF.out.cell (i := 1) (by omega)
          have g2 : ((((w5.alloc (.cells #[.int .i64 x.b, .int .i64 x.e, .slice ua x.r.length uc] 38)).setCell ⟨w.heap.size, 0, none⟩ (.int .i64 0)).setCell ⟨w.heap.size, 1, none⟩ (.int .i64 0)).setCell ⟨w.heap.size, 2, none⟩ (.slice none 0 0)).drew.cell? ⟨w.heap.size, 2, none⟩ = some (.slice none 0 0) := HRF.out.cell (i := 2) (by omega)
          exact bodyPost_ret (v := .tuple #[.agg #[.int .i64 0, .int .i64 0, .slice none 0 0], .int .i64 0, .iface 289 (.pointer (some (E 2)))]) (by simp [results, Tryz.results110, go_sem, g0, g1, g2]) rfl ⟨2, P, rfl, Sub.refl P, HHF.out.drew⟩
        | true =>
          go_wp2_with fail
          refine (valid_any (C.all 3 (by decide)) (C.all 4 (by decide)) x (by omega) _ _ HE6.out HBT.out).mono ?_
          rintro e w7 ⟨rfl, hb7⟩
          have hs6 := HB6.out.size
          simp only [World.alloc_size'] at hs6
          have hs7 := hb7.size
          simp only [World.alloc_size'] at hs7
          have hb7f := HB6.out.trans (hb7.mono (by simp; omega))
          have HB7F := Lib.hid hb7f
          rcases vcode_cs x with hvc | hvc | hvc
          case' inr.inl =>
            rw [hvc, ev_some]
            clear hvc hb7f
            have hHz := H0.out.below (below_box HB7F.out (Nat.le_refl _)) (Nat.le_refl _)
            have cz : w7.cell? ⟨5, 0, none⟩ = some (.iface 289 (.pointer (some (E 2)))) := (hHz.use C.errs).at_ 2 (C.all 2 (by decide))
            have hrow0 : (w.alloc (.cells #[.int .i64 0, .int .i64 0, .slice none 0 0] 38)).rowIs w.heap.size 38 3 (btF 0 0 (.slice none 0 0)) :=
              World.rowIs_alloc w #[.int .i64 0, .int .i64 0, .slice none 0 0] _ _ (fun i hi => by
                have hi' : i < 3 := hi
                rcases (show i = 0 ∨ i = 1 ∨ i = 2 by omega) with rfl | rfl | rfl <;> rfl)
            have hrowz := hrow0.of_block (HB7F.out.block w.heap.size (by omega))
            have hg8 : 5 < w.heap.size := World.block_lt_of_cell? _ _ ((H0.out.use C.errs).at_ 2 (C.all 2 (by decide)))
            have hg9 : ¬ 5 = w.heap.size := by omega
            have e0 := hrowz.cell (i := 0) (by omega)
            have e1 := hrowz.cell (i := 1) (by omega)
            have e2 := hrowz.cell (i := 2) (by omega)
            have f0 := hrowz.frozen 0
            have f1 := hrowz.frozen 1
            have f2 := hrowz.frozen 2
            have hrF := ((hrowz.set 0 (.int .i64 0)).set 1 (.int .i64 0)).set 2 (.slice none 0 0)
            have huF : Upd [w.heap.size] w7 (((w7.setCell ⟨w.heap.size, 0, none⟩ (.int .i64 0)).setCell ⟨w.heap.size, 1, none⟩ (.int .i64 0)).setCell ⟨w.heap.size, 2, none⟩ (.slice none 0 0)) :=
              (((Upd.refl _ _).setCell _ _ _ (.inl (by simp))).setCell _ _ _ (.inl (by simp))).setCell _ _ _ (.inl (by simp))
            have hbF : Below w.heap.size w (((w7.setCell ⟨w.heap.size, 0, none⟩ (.int .i64 0)).setCell ⟨w.heap.size, 1, none⟩ (.int .i64 0)).setCell ⟨w.heap.size, 2, none⟩ (.slice none 0 0)) := (below_box HB7F.out (Nat.le_refl _)).trans (huF.to_below (by have := HB7F.out.size; simp at this ⊢; omega) (fun b hb => by simp at hb; omega))
            have hHF := H0.out.below hbF (Nat.le_refl _)
            have c8 : (((w7.setCell ⟨w.heap.size, 0, none⟩ (.int .i64 0)).setCell ⟨w.heap.size, 1, none⟩ (.int .i64 0)).setCell ⟨w.heap.size, 2, none⟩ (.slice none 0 0)).cell? ⟨5, 0, none⟩ = some (.iface 289 (.pointer (some (E 2)))) := (hHF.use C.errs).at_ 2 (C.all 2 (by decide))
            have HHF := Lib.hid hHF
            have HRF := Lib.hid hrF
            clear hrF huF hHF hbF hHz hrow0 hrowz
            go_wp2_with fail
            go_region_held3 (fun w' => w'.cell? ⟨5, 0, none⟩ = some (.iface 289 (.pointer (some (E 2)))))
              (first
                | go_keep
                | exact cz
                | exact c8)
              (fail)
            go_wp2_with fail
            have g0 : (((w7.setCell ⟨w.heap.size, 0, none⟩ (.int .i64 0)).setCell ⟨w.heap.size, 1, none⟩ (.int .i64 0)).setCell ⟨w.heap.size, 2, none⟩ (.slice none 0 0)).drew.cell? ⟨w.heap.size, 0, none⟩ = some (.int .i64 0) := HRF.out.cell (i := 0) (by omega)
            have g1 : (((w7.setCell ⟨w.heap.size, 0, none⟩ (.int .i64 0)).setCell ⟨w.heap.size, 1, none⟩ (.int .i64 0)).setCell ⟨w.heap.size, 2, none⟩ (.slice none 0 0)).drew.cell? ⟨w.heap.size, 1, none⟩ = some (.int .i64 0) := HRF.out.cell (i := 1) (by omega)
            have g2 : (((w7.setCell ⟨w.heap.size, 0, none⟩ (.int .i64 0)).setCell ⟨w.heap.size, 1, none⟩ (.int .i64 0)).setCell ⟨w.heap.size, 2, none⟩ (.slice none 0 0)).drew.cell? ⟨w.heap.size, 2, none⟩ = some (.slice none 0 0) := HRF.out.cell (i := 2) (by omega)
            exact bodyPost_ret (v := .tuple #[.agg #[.int .i64 0, .int .i64 0, .slice none 0 0], .int .i64 0, .iface 289 (.pointer (some (E 2)))]) (by simp [results, Tryz.results110, go_sem, g0, g1, g2]) rfl ⟨2, P, rfl, Sub.refl P, HHF.out.drew⟩
          case' inr.inr =>
            rw [hvc, ev_some]
            clear hvc hb7f
            have hHz := H0.out.below (below_box HB7F.out (Nat.le_refl _)) (Nat.le_refl _)
            have cz : w7.cell? ⟨5, 0, none⟩ = some (.iface 289 (.pointer (some (E 2)))) := (hHz.use C.errs).at_ 2 (C.all 2 (by decide))
            have hrow0 : (w.alloc (.cells #[.int .i64 0, .int .i64 0, .slice none 0 0] 38)).rowIs w.heap.size 38 3 (btF 0 0 (.slice none 0 0)) :=
              World.rowIs_alloc w #[.int .i64 0, .int .i64 0, .slice none 0 0] _ _ (fun i hi => by
                have hi' : i < 3 := hi
                rcases (show i = 0 ∨ i = 1 ∨ i = 2 by omega) with rfl | rfl | rfl <;> rfl)
            have hrowz := hrow0.of_block (HB7F.out.block w.heap.size (by omega))
            have hg8 : 5 < w.heap.size := World.block_lt_of_cell? _ _ ((H0.out.use C.errs).at_ 2 (C.all 2 (by decide)))
            have hg9 : ¬ 5 = w.heap.size := by omega
            have e0 := hrowz.cell (i := 0) (by omega)
            have e1 := hrowz.cell (i := 1) (by omega)
            have e2 := hrowz.cell (i := 2) (by omega)
            have f0 := hrowz.frozen 0
            have f1 := hrowz.frozen 1
            have f2 := hrowz.frozen 2
            have hrF := ((hrowz.set 0 (.int .i64 0)).set 1 (.int .i64 0)).set 2 (.slice none 0 0)
            have huF : Upd [w.heap.size] w7 (((w7.setCell ⟨w.heap.size, 0, none⟩ (.int .i64 0)).setCell ⟨w.heap.size, 1, none⟩ (.int .i64 0)).setCell ⟨w.heap.size, 2, none⟩ (.slice none 0 0)) :=
              (((Upd.refl _ _).setCell _ _ _ (.inl (by simp))).setCell _ _ _ (.inl (by simp))).setCell _ _ _ (.inl (by simp))
            have hbF : Below w.heap.size w (((w7.setCell ⟨w.heap.size, 0, none⟩ (.int .i64 0)).setCell ⟨w.heap.size, 1, none⟩ (.int .i64 0)).setCell ⟨w.heap.size, 2, none⟩ (.slice none 0 0)) := (below_box HB7F.out (Nat.le_refl _)).trans (huF.to_below (by have := HB7F.out.size; simp at this ⊢; omega) (fun b hb => by simp at hb; omega))
            have hHF := H0.out.below hbF (Nat.le_refl _)
            have c8 : (((w7.setCell ⟨w.heap.size, 0, none⟩ (.int .i64 0)).setCell ⟨w.heap.size, 1, none⟩ (.int .i64 0)).setCell ⟨w.heap.size, 2, none⟩ (.slice none 0 0)).cell? ⟨5, 0, none⟩ = some (.iface 289 (.pointer (some (E 2)))) := (hHF.use C.errs).at_ 2 (C.all 2 (by decide))
            have HHF := Lib.hid hHF
            have HRF := Lib.hid hrF
            clear hrF huF hHF hbF hHz hrow0 hrowz
            go_wp2_with fail
            go_region_held3 (fun w' => w'.cell? ⟨5, 0, none⟩ = some (.iface 289 (.pointer (some (E 2)))))
              (first
                | go_keep
                | exact cz
                | exact c8)
              (fail)
            go_wp2_with fail
            have g0 : (((w7.setCell ⟨w.heap.size, 0, none⟩ (.int .i64 0)).setCell ⟨w.heap.size, 1, none⟩ (.int .i64 0)).setCell ⟨w.heap.size, 2, none⟩ (.slice none 0 0)).drew.cell? ⟨w.heap.size, 0, none⟩ = some (.int .i64 0) := HRF.out.cell (i := 0) (by omega)
            have g1 : (((w7.setCell ⟨w.heap.size, 0, none⟩ (.int .i64 0)).setCell ⟨w.heap.size, 1, none⟩ (.int .i64 0)).setCell ⟨w.heap.size, 2, none⟩ (.slice none 0 0)).drew.cell? ⟨w.heap.size, 1, none⟩ = some (.int .i64 0) := HRF.out.cell (i := 1) (by omega)
            have g2 : (((w7.setCell ⟨w.heap.size, 0, none⟩ (.int .i64 0)).setCell ⟨w.heap.size, 1, none⟩ (.int .i64 0)).setCell ⟨w.heap.size, 2, none⟩ (.slice none 0 0)).drew.cell? ⟨w.heap.size, 2, none⟩ = some (.slice none 0 0) := HRF.out.cell (i := 2) (by omega)
            exact bodyPost_ret (v := .tuple #[.agg #[.int .i64 0, .int .i64 0, .slice none 0 0], .int .i64 0, .iface 289 (.pointer (some (E 2)))]) (by simp [results, Tryz.results110, go_sem, g0, g1, g2]) rfl ⟨2, P, rfl, Sub.refl P, HHF.out.drew⟩
          case' inl =>
            have hok := vcode_ok x hvc
            rw [hvc, ev_zero]
            have b0 := (hb7.cell (p := ⟨w5.heap.size, 0, none⟩) (by simp)).trans (show _ = some (Value.int .i64 x.b) by go_simp)
            have b1 := (hb7.cell (p := ⟨w5.heap.size, 1, none⟩) (by simp)).trans (show _ = some (Value.int .i64 x.e) by go_simp)
            have b2 := (hb7.cell (p := ⟨w5.heap.size, 2, none⟩) (by simp)).trans (show _ = some (Value.slice ua x.r.length uc) by go_simp)
            have HBT7 := Lib.hid (HBT.out.below hb7 rfl)
            have HSI7 := Lib.hid ((HSI5.out.below ((Below.refl _ _).alloc (Nat.le_refl _) (.cells #[.int .i64 x.b, .int .i64 x.e, .slice ua x.r.length uc] 38)) rfl).below hb7 rfl)
            have HOK := Lib.hid hok
            clear hvc hb7 hb7f hok
            go_wp2_with fail
            refine (body_any x HOK.out _ _ HBT7.out).mono ?_
            rintro e w8 ⟨⟨v8, rfl, hown8⟩, hb8⟩
            have HY8 := Lib.hid (owns_read hown8).2
            have hb8f := HB7F.out.trans (hb8.mono (by omega))
            have HSI8 := Lib.hid (HSI7.out.below hb8 rfl)
            have HB8F := Lib.hid hb8f
            have hs8 := hb8.size
            have hblx := bodyB_len x HOK.out
            have HNE := Lib.hid (HSP.out (HBL.out hk2) HCC.out x HOK.out HXB.out)
            clear hown8 hb8 hb8f b0 b1 b2
            go_wp2_with fail
            refine (equal_diff v8 _ (bodyB x) bd _ HY8.out HSI8.out HNE.out (by omega)).mono ?_
            rintro e w9 ⟨rfl, hb9⟩
            have hb9f := HB8F.out.trans (hb9.mono (by omega))
            have HB9F := Lib.hid hb9f
            clear hb9 hb9f
            have hHz := H0.out.below (below_box HB9F.out (Nat.le_refl _)) (Nat.le_refl _)
            have cz : w9.cell? ⟨5, 0, none⟩ = some (.iface 289 (.pointer (some (E 2)))) := (hHz.use C.errs).at_ 2 (C.all 2 (by decide))
            have hrow0 : (w.alloc (.cells #[.int .i64 0, .int .i64 0, .slice none 0 0] 38)).rowIs w.heap.size 38 3 (btF 0 0 (.slice none 0 0)) :=
              World.rowIs_alloc w #[.int .i64 0, .int .i64 0, .slice none 0 0] _ _ (fun i hi => by
                have hi' : i < 3 := hi
                rcases (show i = 0 ∨ i = 1 ∨ i = 2 by omega) with rfl | rfl | rfl <;> rfl)
            have hrowz := hrow0.of_block (HB9F.out.block w.heap.size (by omega))
            have hg8 : 5 < w.heap.size := World.block_lt_of_cell? _ _ ((H0.out.use C.errs).at_ 2 (C.all 2 (by decide)))
            have hg9 : ¬ 5 = w.heap.size := by omega
            have e0 := hrowz.cell (i := 0) (by omega)
            have e1 := hrowz.cell (i := 1) (by omega)
            have e2 := hrowz.cell (i := 2) (by omega)
            have f0 := hrowz.frozen 0
            have f1 := hrowz.frozen 1
            have f2 := hrowz.frozen 2
            have hrF := ((hrowz.set 0 (.int .i64 0)).set 1 (.int .i64 0)).set 2 (.slice none 0 0)
            have huF : Upd [w.heap.size] w9 (((w9.setCell ⟨w.heap.size, 0, none⟩ (.int .i64 0)).setCell ⟨w.heap.size, 1, none⟩ (.int .i64 0)).setCell ⟨w.heap.size, 2, none⟩ (.slice none 0 0)) :=
              (((Upd.refl _ _).setCell _ _ _ (.inl (by simp))).setCell _ _ _ (.inl (by simp))).setCell _ _ _ (.inl (by simp))
            have hbF : Below w.heap.size w (((w9.setCell ⟨w.heap.size, 0, none⟩ (.int .i64 0)).setCell ⟨w.heap.size, 1, none⟩ (.int .i64 0)).setCell ⟨w.heap.size, 2, none⟩ (.slice none 0 0)) := (below_box HB9F.out (Nat.le_refl _)).trans (huF.to_below (by have := HB9F.out.size; simp at this ⊢; omega) (fun b hb => by simp at hb; omega))
            have hHF := H0.out.below hbF (Nat.le_refl _)
            have c8 : (((w9.setCell ⟨w.heap.size, 0, none⟩ (.int .i64 0)).setCell ⟨w.heap.size, 1, none⟩ (.int .i64 0)).setCell ⟨w.heap.size, 2, none⟩ (.slice none 0 0)).cell? ⟨5, 0, none⟩ = some (.iface 289 (.pointer (some (E 2)))) := (hHF.use C.errs).at_ 2 (C.all 2 (by decide))
            have HHF := Lib.hid hHF
            have HRF := Lib.hid hrF
            clear hrF huF hHF hbF hHz hrow0 hrowz
            go_wp2_with fail
            go_region_held3 (fun w' => w'.cell? ⟨5, 0, none⟩ = some (.iface 289 (.pointer (some (E 2)))))
              (first
                | go_keep
                | exact cz
                | exact c8)
              (fail)
            go_wp2_with fail
            have g0 : (((w9.setCell ⟨w.heap.size, 0, none⟩ (.int .i64 0)).setCell ⟨w.heap.size, 1, none⟩ (.int .i64 0)).setCell ⟨w.heap.size, 2, none⟩ (.slice none 0 0)).drew.cell? ⟨w.heap.size, 0, none⟩ = some (.int .i64 0) := HRF.out.cell (i := 0) (by omega)
            have g1 : (((w9.setCell ⟨w.heap.size, 0, none⟩ (.int .i64 0)).setCell ⟨w.heap.size, 1, none⟩ (.int .i64 0)).setCell ⟨w.heap.size, 2, none⟩ (.slice none 0 0)).drew.cell? ⟨w.heap.size, 1, none⟩ = some (.int .i64 0) := HRF.out.cell (i := 1) (by omega)
            have g2 : (((w9.setCell ⟨w.heap.size, 0, none⟩ (.int .i64 0)).setCell ⟨w.heap.size, 1, none⟩ (.int .i64 0)).setCell ⟨w.heap.size, 2, none⟩ (.slice none 0 0)).drew.cell? ⟨w.heap.size, 2, none⟩ = some (.slice none 0 0) := HRF.out.cell (i := 2) (by omega)
            exact bodyPost_ret (v := .tuple #[.agg #[.int .i64 0, .int .i64 0, .slice none 0 0], .int .i64 0, .iface 289 (.pointer (some (E 2)))]) (by simp [results, Tryz.results110, go_sem, g0, g1, g2]) rfl ⟨2, P, rfl, Sub.refl P, HHF.out.drew⟩
    · have hsi := (HSB.out hk2).below (below_box HB3.out (Nat.le_refl _)) rfl
      have HY3 := Lib.hid (hsi.below ((Below.refl _ _).alloc (Nat.le_refl _) (.cells #[.slice (some ⟨g, off + 8, none⟩) n (cap - 8)] 22)) rfl)
      have HSI := Lib.hid hsi
      have hs3 := HB3.out.size
      simp only [World.alloc_size'] at hs3
      obtain ⟨cc, hcc⟩ : ∃ c, crcF 0 bd = c := ⟨_, rfl⟩
      have hcc32 : cc < 4294967296 := by rw [← hcc]; exact crcF_lt 0 bd
      have HCC := Lib.hid hcc
      clear hsi hcc
      go_wp2_with fail
      refine (of_any _ _ (.slice (some ⟨g, off + 8, none⟩) n (cap - 8)) bd _ (by go_simp) (by simp) HY3.out HBDB.out (by rw [HBL.out hk2]; omega)).mono ?_
      rintro e w4 ⟨rfl, hb4'⟩
      rw [HCC.out]
      have hb4 := (HB3.out.alloc hs3 (.cells #[.slice (some ⟨g, off + 8, none⟩) n (cap - 8)] 22)).trans (hb4'.mono (by simp; omega))
      have hs4 := hb4.size
      simp only [World.alloc_size'] at hs4
      have HSI4 := Lib.hid (HSI.out.below (B := w3.heap.size) (((Below.refl _ _).alloc (Nat.le_refl _) (.cells #[.slice (some ⟨g, off + 8, none⟩) n (cap - 8)] 22)).trans (hb4'.mono (by simp))) rfl)
      have HB4 := Lib.hid hb4
      clear hb4' HY3 hb4
      by_cases hcq : cc = c
      case neg =>
        have hcq2 : ¬ (cc : Int) = (c : Int) := by omega
        have hHz := H0.out.below (below_box HB4.out (Nat.le_refl _)) (Nat.le_refl _)
        have cz : w4.cell? ⟨11, 0, none⟩ = some (.iface 289 (.pointer (some (E 1)))) := (hHz.use C.errs).at_ 1 (C.all 1 (by decide))
        have hrow0 : (w.alloc (.cells #[.int .i64 0, .int .i64 0, .slice none 0 0] 38)).rowIs w.heap.size 38 3 (btF 0 0 (.slice none 0 0)) :=
          World.rowIs_alloc w #[.int .i64 0, .int .i64 0, .slice none 0 0] _ _ (fun i hi => by
            have hi' : i < 3 := hi
            rcases (show i = 0 ∨ i = 1 ∨ i = 2 by omega) with rfl | rfl | rfl <;> rfl)
        have hrowz := hrow0.of_block (HB4.out.block w.heap.size (by omega))
        have hg8 : 11 < w.heap.size := World.block_lt_of_cell? _ _ ((H0.out.use C.errs).at_ 1 (C.all 1 (by decide)))
        have hg9 : ¬ 11 = w.heap.size := by omega
        have e0 := hrowz.cell (i := 0) (by omega)
        have e1 := hrowz.cell (i := 1) (by omega)
        have e2 := hrowz.cell (i := 2) (by omega)
        have f0 := hrowz.frozen 0
        have f1 := hrowz.frozen 1
        have f2 := hrowz.frozen 2
        have hrF := ((hrowz.set 0 (.int .i64 0)).set 1 (.int .i64 0)).set 2 (.slice none 0 0)
        have huF : Upd [w.heap.size] w4 (((w4.setCell ⟨w.heap.size, 0, none⟩ (.int .i64 0)).setCell ⟨w.heap.size, 1, none⟩ (.int .i64 0)).setCell ⟨w.heap.size, 2, none⟩ (.slice none 0 0)) :=
          (((Upd.refl _ _).setCell _ _ _ (.inl (by simp))).setCell _ _ _ (.inl (by simp))).setCell _ _ _ (.inl (by simp))
        have hbF : Below w.heap.size w (((w4.setCell ⟨w.heap.size, 0, none⟩ (.int .i64 0)).setCell ⟨w.heap.size, 1, none⟩ (.int .i64 0)).setCell ⟨w.heap.size, 2, none⟩ (.slice none 0 0)) := (below_box HB4.out (Nat.le_refl _)).trans (huF.to_below (by have := HB4.out.size; simp at this ⊢; omega) (fun b hb => by simp at hb; omega))
        have hHF := H0.out.below hbF (Nat.le_refl _)
        have c8 : (((w4.setCell ⟨w.heap.size, 0, none⟩ (.int .i64 0)).setCell ⟨w.heap.size, 1, none⟩ (.int .i64 0)).setCell ⟨w.heap.size, 2, none⟩ (.slice none 0 0)).cell? ⟨11, 0, none⟩ = some (.iface 289 (.pointer (some (E 1)))) := (hHF.use C.errs).at_ 1 (C.all 1 (by decide))
        have HHF := Lib.hid hHF
        have HRF := Lib.hid hrF
        clear hrF huF hHF hbF hHz hrow0 hrowz
        go_wp2_with fail
        go_region_held3 (fun w' => w'.cell? ⟨11, 0, none⟩ = some (.iface 289 (.pointer (some (E 1)))))
          (first
            | go_keep
            | exact cz
            | exact c8)
          (fail)
        go_wp2_with fail
        have g0 : (((w4.setCell ⟨w.heap.size, 0, none⟩ (.int .i64 0)).setCell ⟨w.heap.size, 1, none⟩ (.int .i64 0)).setCell ⟨w.heap.size, 2, none⟩ (.slice none 0 0)).drew.cell? ⟨w.heap.size, 0, none⟩ = some (.int .i64 0) := HRF.out.cell (i := 0) (by omega)
        have g1 : (((w4.setCell ⟨w.heap.size, 0, none⟩ (.int .i64 0)).setCell ⟨w.heap.size, 1, none⟩ (.int .i64 0)).setCell ⟨w.heap.size, 2, none⟩ (.slice none 0 0)).drew.cell? ⟨w.heap.size, 1, none⟩ = some (.int .i64 0) := HRF.out.cell (i := 1) (by omega)
        have g2 : (((w4.setCell ⟨w.heap.size, 0, none⟩ (.int .i64 0)).setCell ⟨w.heap.size, 1, none⟩ (.int .i64 0)).setCell ⟨w.heap.size, 2, none⟩ (.slice none 0 0)).drew.cell? ⟨w.heap.size, 2, none⟩ = some (.slice none 0 0) := HRF.out.cell (i := 2) (by omega)
        exact bodyPost_ret (v := .tuple #[.agg #[.int .i64 0, .int .i64 0, .slice none 0 0], .int .i64 0, .iface 289 (.pointer (some (E 1)))]) (by simp [results, Tryz.results110, go_sem, g0, g1, g2]) rfl ⟨1, P, rfl, Sub.refl P, HHF.out.drew⟩
      case pos =>
        subst hcq
        have HE4 : Hid (Errs S w4 E B) := (H0.out.below (below_box HB4.out (Nat.le_refl _)) (Nat.le_refl _)).use C.errs
        go_wp2_with fail
        refine (read_any (E := E) (B := B) (C.all 0 (by decide)) (C.all 2 (by decide)) (C.all 4 (by decide)) [] (.slice (some ⟨g, off + 8, none⟩) n (cap - 8)) bd w4 (by simp) HE4.out HSI4.out HBDB.out (by rw [HBL.out hk2]; omega)).mono ?_
        rintro e w5 ⟨⟨x, rs, is, rfl, hro, hxl, hxb⟩, hb5'⟩
        have hb5 := HB4.out.trans (hb5'.mono hs4)
        have hs5 := hb5.size
        simp only [World.alloc_size'] at hs5
        obtain ⟨cs, hcs⟩ := hro
        obtain ⟨ua, uc, rfl⟩ := owns_shape hcs.1
        have hbt : BtV w5 (.agg #[.int .i64 x.b, .int .i64 x.e, .slice ua x.r.length uc]) x := ⟨_, rfl, RcO.read ⟨cs, hcs⟩⟩
        have HBT := Lib.hid (hbt.below ((Below.refl _ _).alloc (Nat.le_refl _) (.cells #[.int .i64 x.b, .int .i64 x.e, .slice ua x.r.length uc] 38)) rfl)
        have hb6 := hb5.alloc hs5 (.cells #[.int .i64 x.b, .int .i64 x.e, .slice ua x.r.length uc] 38)
        have HE6 := Lib.hid ((H0.out.below (below_box hb6 (Nat.le_refl _)) (Nat.le_refl _)).use C.errs)
        have HSI5 := Lib.hid (HSI4.out.below hb5' rfl)
        have HB6 := Lib.hid hb6
        have HXB := Lib.hid hxb
        clear hb5' hbt hcs hb5 hb6 hxb
        cases is with
        | false =>
          have hHz := H0.out.below (below_box HB6.out (Nat.le_refl _)) (Nat.le_refl _)
          have cz : (w5.alloc (.cells #[.int .i64 x.b, .int .i64 x.e, .slice ua x.r.length uc] 38)).cell? ⟨5, 0, none⟩ = some (.iface 289 (.pointer (some (E 2)))) := (hHz.use C.errs).at_ 2 (C.all 2 (by decide))
          have hrow0 : (w.alloc (.cells #[.int .i64 0, .int .i64 0, .slice none 0 0] 38)).rowIs w.heap.size 38 3 (btF 0 0 (.slice none 0 0)) :=
            World.rowIs_alloc w #[.int .i64 0, .int .i64 0, .slice none 0 0] _ _ (fun i hi => by
              have hi' : i < 3 := hi
              rcases (show i = 0 ∨ i = 1 ∨ i = 2 by omega) with rfl | rfl | rfl <;> rfl)
          have hrowz := hrow0.of_block (HB6.out.block w.heap.size (by omega))
          have hg8 : 5 < w.heap.size := World.block_lt_of_cell? _ _ ((H0.out.use C.errs).at_ 2 (C.all 2 (by decide)))
          have hg9 : ¬ 5 = w.heap.size := by omega
          have e0 := hrowz.cell (i := 0) (by omega)
          have e1 := hrowz.cell (i := 1) (by omega)
          have e2 := hrowz.cell (i := 2) (by omega)
          have f0 := hrowz.frozen 0
          have f1 := hrowz.frozen 1
          have f2 := hrowz.frozen 2
          have hrF := ((hrowz.set 0 (.int .i64 0)).set 1 (.int .i64 0)).set 2 (.slice none 0 0)
          have huF : Upd [w.heap.size] (w5.alloc (.cells #[.int .i64 x.b, .int .i64 x.e, .slice ua x.r.length uc] 38)) ((((w5.alloc (.cells #[.int .i64 x.b, .int .i64 x.e, .slice ua x.r.length uc] 38)).setCell ⟨w.heap.size, 0, none⟩ (.int .i64 0)).setCell ⟨w.heap.size, 1, none⟩ (.int .i64 0)).setCell ⟨w.heap.size, 2, none⟩ (.slice none 0 0)) :=
            (((Upd.refl _ _).setCell _ _ _ (.inl (by simp))).setCell _ _ _ (.inl (by simp))).setCell _ _ _ (.inl (by simp))
          have hbF : Below w.heap.size w ((((w5.alloc (.cells #[.int .i64 x.b, .int .i64 x.e, .slice ua x.r.length uc] 38)).setCell ⟨w.heap.size, 0, none⟩ (.int .i64 0)).setCell ⟨w.heap.size, 1, none⟩ (.int .i64 0)).setCell ⟨w.heap.size, 2, none⟩ (.slice none 0 0)) := (below_box HB6.out (Nat.le_refl _)).trans (huF.to_below (by have := HB6.out.size; simp at this ⊢; omega) (fun b hb => by simp at hb; omega))
          have hHF := H0.out.below hbF (Nat.le_refl _)
          have c8 : ((((w5.alloc (.cells #[.int .i64 x.b, .int .i64 x.e, .slice ua x.r.length uc] 38)).setCell ⟨w.heap.size, 0, none⟩ (.int .i64 0)).setCell ⟨w.heap.size, 1, none⟩ (.int .i64 0)).setCell ⟨w.heap.size, 2, none⟩ (.slice none 0 0)).cell? ⟨5, 0, none⟩ = some (.iface 289 (.pointer (some (E 2)))) := (hHF.use C.errs).at_ 2 (C.all 2 (by decide))
          have HHF := Lib.hid hHF
          have HRF := Lib.hid hrF
          clear hrF huF hHF hbF hHz hrow0 hrowz
          go_wp2_with fail
          go_region_held3 (fun w' => w'.cell? ⟨5, 0, none⟩ = some (.iface 289 (.pointer (some (E 2)))))
            (first
              | go_keep
              | exact cz
              | exact c8)
            (fail)
          go_wp2_with fail
          have g0 : ((((w5.alloc (.cells #[.int .i64 x.b, .int .i64 x.e, .slice ua x.r.length uc] 38)).setCell ⟨w.heap.size, 0, none⟩ (.int .i64 0)).setCell ⟨w.heap.size, 1, none⟩ (.int .i64 0)).setCell ⟨w.heap.size, 2, none⟩ (.slice none 0 0)).drew.cell? ⟨w.heap.size, 0, none⟩ = some (.int .i64 0) := HRF.out.cell (i := 0) (by omega)
          have g1 : ((((w5.alloc (.cells #[.int .i64 x.b, .int .i64 x.e, .slice ua x.r.length uc] 38)).setCell ⟨w.heap.size, 0, none⟩ (.int .i64 0)).setCell ⟨w.heap.size, 1, none⟩ (.int .i64 0)).setCell ⟨w.heap.size, 2, none⟩ (.slice none 0 0)).drew.cell? ⟨w.heap.size, 1, none⟩ = some (.int .i64 0) := HRF.out.cell (i := 1) (by omega)
          have g2 : ((((w5.alloc (.cells #[.int .i64 x.b, .int .i64 x.e, .slice ua x.r.length uc] 38)).setCell ⟨w.heap.size, 0, none⟩ (.int .i64 0)).setCell ⟨w.heap.size, 1, none⟩ (.int .i64 0)).setCell ⟨w.heap.size, 2, none⟩ (.slice none 0 0)).drew.cell? ⟨w.heap.size, 2, none⟩ = some (.slice none 0 0) := HRF.out.cell (i := 2) (by omega)
          exact bodyPost_ret (v := .tuple #[.agg #[.int .i64 0, .int .i64 0, .slice none 0 0], .int .i64 0, .iface 289 (.pointer (some (E 2)))]) (by simp [results, Tryz.results110, go_sem, g0, g1, g2]) rfl ⟨2, P, rfl, Sub.refl P, HHF.out.drew⟩
        | true =>
          go_wp2_with fail
          refine (valid_any (C.all 3 (by decide)) (C.all 4 (by decide)) x (by omega) _ _ HE6.out HBT.out).mono ?_
          rintro e w7 ⟨rfl, hb7⟩
          have hs6 := HB6.out.size
          simp only [World.alloc_size'] at hs6
          have hs7 := hb7.size
          simp only [World.alloc_size'] at hs7
          have hb7f := HB6.out.trans (hb7.mono (by simp; omega))
          have HB7F := Lib.hid hb7f
          rcases vcode_cs x with hvc | hvc | hvc
          case' inr.inl =>
            rw [hvc, ev_some]
            clear hvc hb7f
            have hHz := H0.out.below (below_box HB7F.out (Nat.le_refl _)) (Nat.le_refl _)
            have cz : w7.cell? ⟨5, 0, none⟩ = some (.iface 289 (.pointer (some (E 2)))) := (hHz.use C.errs).at_ 2 (C.all 2 (by decide))
            have hrow0 : (w.alloc (.cells #[.int .i64 0, .int .i64 0, .slice none 0 0] 38)).rowIs w.heap.size 38 3 (btF 0 0 (.slice none 0 0)) :=
              World.rowIs_alloc w #[.int .i64 0, .int .i64 0, .slice none 0 0] _ _ (fun i hi => by
                have hi' : i < 3 := hi
                rcases (show i = 0 ∨ i = 1 ∨ i = 2 by omega) with rfl | rfl | rfl <;> rfl)
            have hrowz := hrow0.of_block (HB7F.out.block w.heap.size (by omega))
            have hg8 : 5 < w.heap.size := World.block_lt_of_cell? _ _ ((H0.out.use C.errs).at_ 2 (C.all 2 (by decide)))
            have hg9 : ¬ 5 = w.heap.size := by omega
            have e0 := hrowz.cell (i := 0) (by omega)
            have e1 := hrowz.cell (i := 1) (by omega)
            have e2 := hrowz.cell (i := 2) (by omega)
            have f0 := hrowz.frozen 0
            have f1 := hrowz.frozen 1
            have f2 := hrowz.frozen 2
            have hrF := ((hrowz.set 0 (.int .i64 0)).set 1 (.int .i64 0)).set 2 (.slice none 0 0)
            have huF : Upd [w.heap.size] w7 (((w7.setCell ⟨w.heap.size, 0, none⟩ (.int .i64 0)).setCell ⟨w.heap.size, 1, none⟩ (.int .i64 0)).setCell ⟨w.heap.size, 2, none⟩ (.slice none 0 0)) :=
              (((Upd.refl _ _).setCell _ _ _ (.inl (by simp))).setCell _ _ _ (.inl (by simp))).setCell _ _ _ (.inl (by simp))
            have hbF : Below w.heap.size w (((w7.setCell ⟨w.heap.size, 0, none⟩ (.int .i64 0)).setCell ⟨w.heap.size, 1, none⟩ (.int .i64 0)).setCell ⟨w.heap.size, 2, none⟩ (.slice none 0 0)) := (below_box HB7F.out (Nat.le_refl _)).trans (huF.to_below (by have := HB7F.out.size; simp at this ⊢; omega) (fun b hb => by simp at hb; omega))
            have hHF := H0.out.below hbF (Nat.le_refl _)
            have c8 : (((w7.setCell ⟨w.heap.size, 0, none⟩ (.int .i64 0)).setCell ⟨w.heap.size, 1, none⟩ (.int .i64 0)).setCell ⟨w.heap.size, 2, none⟩ (.slice none 0 0)).cell? ⟨5, 0, none⟩ = some (.iface 289 (.pointer (some (E 2)))) := (hHF.use C.errs).at_ 2 (C.all 2 (by decide))
            have HHF := Lib.hid hHF
            have HRF := Lib.hid hrF
            clear hrF huF hHF hbF hHz hrow0 hrowz
            go_wp2_with fail
            go_region_held3 (fun w' => w'.cell? ⟨5, 0, none⟩ = some (.iface 289 (.pointer (some (E 2)))))
              (first
                | go_keep
                | exact cz
                | exact c8)
              (fail)
            go_wp2_with fail
            have g0 : (((w7.setCell ⟨w.heap.size, 0, none⟩ (.int .i64 0)).setCell ⟨w.heap.size, 1, none⟩ (.int .i64 0)).setCell ⟨w.heap.size, 2, none⟩ (.slice none 0 0)).drew.cell? ⟨w.heap.size, 0, none⟩ = some (.int .i64 0) := HRF.out.cell (i := 0) (by omega)
            have g1 : (((w7.setCell ⟨w.heap.size, 0, none⟩ (.int .i64 0)).setCell ⟨w.heap.size, 1, none⟩ (.int .i64 0)).setCell ⟨w.heap.size, 2, none⟩ (.slice none 0 0)).drew.cell? ⟨w.heap.size, 1, none⟩ = some (.int .i64 0) := HRF.out.cell (i := 1) (by omega)
            have g2 : (((w7.setCell ⟨w.heap.size, 0, none⟩ (.int .i64 0)).setCell ⟨w.heap.size, 1, none⟩ (.int .i64 0)).setCell ⟨w.heap.size, 2, none⟩ (.slice none 0 0)).drew.cell? ⟨w.heap.size, 2, none⟩ = some (.slice none 0 0) := HRF.out.cell (i := 2) (by omega)
            exact bodyPost_ret (v := .tuple #[.agg #[.int .i64 0, .int .i64 0, .slice none 0 0], .int .i64 0, .iface 289 (.pointer (some (E 2)))]) (by simp [results, Tryz.results110, go_sem, g0, g1, g2]) rfl ⟨2, P, rfl, Sub.refl P, HHF.out.drew⟩
          case' inr.inr =>
            rw [hvc, ev_some]
            clear hvc hb7f
            have hHz := H0.out.below (below_box HB7F.out (Nat.le_refl _)) (Nat.le_refl _)
            have cz : w7.cell? ⟨5, 0, none⟩ = some (.iface 289 (.pointer (some (E 2)))) := (hHz.use C.errs).at_ 2 (C.all 2 (by decide))
            have hrow0 : (w.alloc (.cells #[.int .i64 0, .int .i64 0, .slice none 0 0] 38)).rowIs w.heap.size 38 3 (btF 0 0 (.slice none 0 0)) :=
              World.rowIs_alloc w #[.int .i64 0, .int .i64 0, .slice none 0 0] _ _ (fun i hi => by
                have hi' : i < 3 := hi
                rcases (show i = 0 ∨ i = 1 ∨ i = 2 by omega) with rfl | rfl | rfl <;> rfl)
            have hrowz := hrow0.of_block (HB7F.out.block w.heap.size (by omega))
            have hg8 : 5 < w.heap.size := World.block_lt_of_cell? _ _ ((H0.out.use C.errs).at_ 2 (C.all 2 (by decide)))
            have hg9 : ¬ 5 = w.heap.size := by omega
            have e0 := hrowz.cell (i := 0) (by omega)
            have e1 := hrowz.cell (i := 1) (by omega)
            have e2 := hrowz.cell (i := 2) (by omega)
            have f0 := hrowz.frozen 0
            have f1 := hrowz.frozen 1
            have f2 := hrowz.frozen 2
            have hrF := ((hrowz.set 0 (.int .i64 0)).set 1 (.int .i64 0)).set 2 (.slice none 0 0)
            have huF : Upd [w.heap.size] w7 (((w7.setCell ⟨w.heap.size, 0, none⟩ (.int .i64 0)).setCell ⟨w.heap.size, 1, none⟩ (.int .i64 0)).setCell ⟨w.heap.size, 2, none⟩ (.slice none 0 0)) :=
              (((Upd.refl _ _).setCell _ _ _ (.inl (by simp))).setCell _ _ _ (.inl (by simp))).setCell _ _ _ (.inl (by simp))
            have hbF : Below w.heap.size w (((w7.setCell ⟨w.heap.size, 0, none⟩ (.int .i64 0)).setCell ⟨w.heap.size, 1, none⟩ (.int .i64 0)).setCell ⟨w.heap.size, 2, none⟩ (.slice none 0 0)) := (below_box HB7F.out (Nat.le_refl _)).trans (huF.to_below (by have := HB7F.out.size; simp at this ⊢; omega) (fun b hb => by simp at hb; omega))
            have hHF := H0.out.below hbF (Nat.le_refl _)
            have c8 : (((w7.setCell ⟨w.heap.size, 0, none⟩ (.int .i64 0)).setCell ⟨w.heap.size, 1, none⟩ (.int .i64 0)).setCell ⟨w.heap.size, 2, none⟩ (.slice none 0 0)).cell? ⟨5, 0, none⟩ = some (.iface 289 (.pointer (some (E 2)))) := (hHF.use C.errs).at_ 2 (C.all 2 (by decide))
            have HHF := Lib.hid hHF
            have HRF := Lib.hid hrF
            clear hrF huF hHF hbF hHz hrow0 hrowz
            go_wp2_with fail
            go_region_held3 (fun w' => w'.cell? ⟨5, 0, none⟩ = some (.iface 289 (.pointer (some (E 2)))))
              (first
                | go_keep
                | exact cz
                | exact c8)
              (fail)
            go_wp2_with fail
            have g0 : (((w7.setCell ⟨w.heap.size, 0, none⟩ (.int .i64 0)).setCell ⟨w.heap.size, 1, none⟩ (.int .i64 0)).setCell ⟨w.heap.size, 2, none⟩ (.slice none 0 0)).drew.cell? ⟨w.heap.size, 0, none⟩ = some (.int .i64 0) := HRF.out.cell (i := 0) (by omega)
            have g1 : (((w7.setCell ⟨w.heap.size, 0, none⟩ (.int .i64 0)).setCell ⟨w.heap.size, 1, none⟩ (.int .i64 0)).setCell ⟨w.heap.size, 2, none⟩ (.slice none 0 0)).drew.cell? ⟨w.heap.size, 1, none⟩ = some (.int .i64 0) := HRF.out.cell (i := 1) (by omega)
            have g2 : (((w7.setCell ⟨w.heap.size, 0, none⟩ (.int .i64 0)).setCell ⟨w.heap.size, 1, none⟩ (.int .i64 0)).setCell ⟨w.heap.size, 2, none⟩ (.slice none 0 0)).drew.cell? ⟨w.heap.size, 2, none⟩ = some (.slice none 0 0) := HRF.out.cell (i := 2) (by omega)
            exact bodyPost_ret (v := .tuple #[.agg #[.int .i64 0, .int .i64 0, .slice none 0 0], .int .i64 0, .iface 289 (.pointer (some (E 2)))]) (by simp [results, Tryz.results110, go_sem, g0, g1, g2]) rfl ⟨2, P, rfl, Sub.refl P, HHF.out.drew⟩
          case' inl =>
            have hok := vcode_ok x hvc
            rw [hvc, ev_zero]
            have b0 := (hb7.cell (p := ⟨w5.heap.size, 0, none⟩) (by simp)).trans (show _ = some (Value.int .i64 x.b) by go_simp)
            have b1 := (hb7.cell (p := ⟨w5.heap.size, 1, none⟩) (by simp)).trans (show _ = some (Value.int .i64 x.e) by go_simp)
            have b2 := (hb7.cell (p := ⟨w5.heap.size, 2, none⟩) (by simp)).trans (show _ = some (Value.slice ua x.r.length uc) by go_simp)
            have HBT7 := Lib.hid (HBT.out.below hb7 rfl)
            have HSI7 := Lib.hid ((HSI5.out.below ((Below.refl _ _).alloc (Nat.le_refl _) (.cells #[.int .i64 x.b, .int .i64 x.e, .slice ua x.r.length uc] 38)) rfl).below hb7 rfl)
            have HOK := Lib.hid hok
            clear hvc hb7 hb7f hok
            go_wp2_with fail
            refine (body_any x HOK.out _ _ HBT7.out).mono ?_
            rintro e w8 ⟨⟨v8, rfl, hown8⟩, hb8⟩
            have HY8 := Lib.hid (owns_read hown8).2
            have hb8f := HB7F.out.trans (hb8.mono (by omega))
            have HSI8 := Lib.hid (HSI7.out.below hb8 rfl)
            have HB8F := Lib.hid hb8f
            have hs8 := hb8.size
            have hblx := bodyB_len x HOK.out
            have HNE := Lib.hid (HSP.out (HBL.out hk2) HCC.out x HOK.out HXB.out)
            clear hown8 hb8 hb8f b0 b1 b2
            go_wp2_with fail
            refine (equal_diff v8 _ (bodyB x) bd _ HY8.out HSI8.out HNE.out (by omega)).mono ?_
            rintro e w9 ⟨rfl, hb9⟩
            have hb9f := HB8F.out.trans (hb9.mono (by omega))
            have HB9F := Lib.hid hb9f
            clear hb9 hb9f
            have hHz := H0.out.below (below_box HB9F.out (Nat.le_refl _)) (Nat.le_refl _)
            have cz : w9.cell? ⟨5, 0, none⟩ = some (.iface 289 (.pointer (some (E 2)))) := (hHz.use C.errs).at_ 2 (C.all 2 (by decide))
            have hrow0 : (w.alloc (.cells #[.int .i64 0, .int .i64 0, .slice none 0 0] 38)).rowIs w.heap.size 38 3 (btF 0 0 (.slice none 0 0)) :=
              World.rowIs_alloc w #[.int .i64 0, .int .i64 0, .slice none 0 0] _ _ (fun i hi => by
                have hi' : i < 3 := hi
                rcases (show i = 0 ∨ i = 1 ∨ i = 2 by omega) with rfl | rfl | rfl <;> rfl)
            have hrowz := hrow0.of_block (HB9F.out.block w.heap.size (by omega))
            have hg8 : 5 < w.heap.size := World.block_lt_of_cell? _ _ ((H0.out.use C.errs).at_ 2 (C.all 2 (by decide)))
            have hg9 : ¬ 5 = w.heap.size := by omega
            have e0 := hrowz.cell (i := 0) (by omega)
            have e1 := hrowz.cell (i := 1) (by omega)
            have e2 := hrowz.cell (i := 2) (by omega)
            have f0 := hrowz.frozen 0
            have f1 := hrowz.frozen 1
            have f2 := hrowz.frozen 2
            have hrF := ((hrowz.set 0 (.int .i64 0)).set 1 (.int .i64 0)).set 2 (.slice none 0 0)
            have huF : Upd [w.heap.size] w9 (((w9.setCell ⟨w.heap.size, 0, none⟩ (.int .i64 0)).setCell ⟨w.heap.size, 1, none⟩ (.int .i64 0)).setCell ⟨w.heap.size, 2, none⟩ (.slice none 0 0)) :=
              (((Upd.refl _ _).setCell _ _ _ (.inl (by simp))).setCell _ _ _ (.inl (by simp))).setCell _ _ _ (.inl (by simp))
            have hbF : Below w.heap.size w (((w9.setCell ⟨w.heap.size, 0, none⟩ (.int .i64 0)).setCell ⟨w.heap.size, 1, none⟩ (.int .i64 0)).setCell ⟨w.heap.size, 2, none⟩ (.slice none 0 0)) := (below_box HB9F.out (Nat.le_refl _)).trans (huF.to_below (by have := HB9F.out.size; simp at this ⊢; omega) (fun b hb => by simp at hb; omega))
            have hHF := H0.out.below hbF (Nat.le_refl _)
            have c8 : (((w9.setCell ⟨w.heap.size, 0, none⟩ (.int .i64 0)).setCell ⟨w.heap.size, 1, none⟩ (.int .i64 0)).setCell ⟨w.heap.size, 2, none⟩ (.slice none 0 0)).cell? ⟨5, 0, none⟩ = some (.iface 289 (.pointer (some (E 2)))) := (hHF.use C.errs).at_ 2 (C.all 2 (by decide))
            have HHF := Lib.hid hHF
            have HRF := Lib.hid hrF
            clear hrF huF hHF hbF hHz hrow0 hrowz
            go_wp2_with fail
            go_region_held3 (fun w' => w'.cell? ⟨5, 0, none⟩ = some (.iface 289 (.pointer (some (E 2)))))
              (first
                | go_keep
                | exact cz
                | exact c8)
              (fail)
            go_wp2_with fail
            have g0 : (((w9.setCell ⟨w.heap.size, 0, none⟩ (.int .i64 0)).setCell ⟨w.heap.size, 1, none⟩ (.int .i64 0)).setCell ⟨w.heap.size, 2, none⟩ (.slice none 0 0)).drew.cell? ⟨w.heap.size, 0, none⟩ = some (.int .i64 0) := HRF.out.cell (i := 0) (by omega)
            have g1 : (((w9.setCell ⟨w.heap.size, 0, none⟩ (.int .i64 0)).setCell ⟨w.heap.size, 1, none⟩ (.int .i64 0)).setCell ⟨w.heap.size, 2, none⟩ (.slice none 0 0)).drew.cell? ⟨w.heap.size, 1, none⟩ = some (.int .i64 0) := HRF.out.cell (i := 1) (by omega)
            have g2 : (((w9.setCell ⟨w.heap.size, 0, none⟩ (.int .i64 0)).setCell ⟨w.heap.size, 1, none⟩ (.int .i64 0)).setCell ⟨w.heap.size, 2, none⟩ (.slice none 0 0)).drew.cell? ⟨w.heap.size, 2, none⟩ = some (.slice none 0 0) := HRF.out.cell (i := 2) (by omega)
            exact bodyPost_ret (v := .tuple #[.agg #[.int .i64 0, .int .i64 0, .slice none 0 0], .int .i64 0, .iface 289 (.pointer (some (E 2)))]) (by simp [results, Tryz.results110, go_sem, g0, g1, g2]) rfl ⟨2, P, rfl, Sub.refl P, HHF.out.drew⟩
end
end Go.Proofs.YtncjffkpkmjgkaaGreatDoor.Sg
