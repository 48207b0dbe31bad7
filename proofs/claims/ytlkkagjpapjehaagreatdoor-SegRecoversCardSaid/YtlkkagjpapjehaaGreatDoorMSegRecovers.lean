/- Plain laws for SegCuts: batches in a chain begin one behind the other; a disk of one name behind a crash. rec.Read of a batch's bytes that are torn. A segment's file behind a crash: seg.Open cuts what is torn. cordwoodlaw7.SegRecovers answers true for every input. The statement SegRecovers of chapter 7 holds for every input: the call returns true and leaves its arguments as they were. -/
import Derived.Test.YtlkkagjpapjehaaGreatDoorMi
import Derived.Test.YtlkkagjpapjehaaGreatDoorMg
import Derived.Test.YtlkkagjpapjehaaGreatDoorMf
import Derived.Test.YtlkkagjpapjehaaGreatDoorCards
import Derived.Test.YtlkkagjpapjehaaGreatDoorTie
import Derived.ProofKit
import Derived.OpenShut
import Derived.LaidMore
import Derived.Deep.DeepWitnessRowRef

/-! Lk -/
namespace Go.Proofs.YtlkkagjpapjehaaGreatDoor.Sg
open Go.RowKit Er Go.Maps

theorem chain_ge : ∀ (l : List Bt) (b e : Int), Chain b e l → ∀ x ∈ l, b ≤ x.b
  | [], _, _, _, x, hx => by cases hx
  | y :: l, b, e, ⟨h1, h2, h3⟩, x, hx => by
    rcases List.mem_cons.1 hx with rfl | hx
    · omega
    · have := chain_ge l _ _ h3 x hx; omega
theorem chain_end_le : ∀ (l : List Bt) (b e : Int), Chain b e l → b ≤ endOf b l ∧ ∀ x ∈ l, x.b + x.r.length ≤ endOf b l
  | [], b, _, _ => ⟨by simp [endOf], fun x hx => by cases hx⟩
  | y :: l, b, e, ⟨h1, h2, h3⟩ => by
    obtain ⟨g1, g2⟩ := chain_end_le l _ _ h3
    rw [endOf_cons]
    refine ⟨by omega, fun x hx => ?_⟩
    rcases List.mem_cons.1 hx with rfl | hx
    · exact g1
    · exact g2 x hx
theorem chain_at {l : List Bt} {b e : Int} (h : Chain b e l) (k : Nat) (hk : k < l.length) : l[k].b = endOf b (l.take k) ∧ (∀ x ∈ l.drop (k + 1), l[k].b + l[k].r.length ≤ x.b) := by
  have h1 : Chain b e (l.take k ++ l[k] :: l.drop (k + 1)) := by rw [take_split l k hk]; exact h
  obtain ⟨-, h2, -, h3⟩ := (chain_app _ _ _ _).1 h1
  exact ⟨h2, chain_ge _ _ _ h3⟩
theorem chain_lt {l : List Bt} {b e : Int} (h : Chain b e l) (hr : ∀ x ∈ l, 1 ≤ x.r.length) (i j : Nat) (hij : i < j) (hj : j < l.length) : (l[i]'(by omega)).b < l[j].b := by
  have h2 := (chain_at h i (by omega)).2 l[j] (by
    rw [List.mem_iff_getElem]
    refine ⟨j - (i + 1), by rw [List.length_drop]; omega, ?_⟩
    rw [List.getElem_drop]
    congr 1; omega)
  have := hr (l[i]'(by omega)) (List.getElem_mem _)
  omega

theorem used_one {D : Dk} {s : Nam} {b : Nat} {f : Fl} (hn : D.nm = [(s, b)]) (hf : ffind D.fl b = some f) : D.used = f.b.length := by
  unfold Dk.used
  rw [hn]
  simp [allSum, flen, hf]
theorem nm_one {D : Dk} {s : Nam} {f : Fl} (h : D.look s = some f) (hn : D.nm.length = 1) : D.nm = [(s, f.blk)] := by
  have h1 := nfind_mem (look_some h).1
  match hnm : D.nm, hn with
  | [p], _ =>
    rw [hnm] at h1
    simp at h1
    rw [h1]
/-- A segment whose bytes are all kept stays as it is behind a crash. -/
theorem crash1_on {D : Dk} {G : Sg} (hO : SegOn D G) {f : Fl} (hf : D.look G.nm = some f) (hkp : D.kp = D.nm) (hk : f.s = f.b.length) (p : Nat) (hp : p ≤ f.b.length - f.s) :
    SegOn (D.crash1 f p) G ∧ (D.crash1 f p).nm = D.nm ∧ (D.crash1 f p).kp = D.nm ∧ (D.crash1 f p).room = D.room := by
  have hp0 : p = 0 := by omega
  subst hp0
  have hfl := look_some hf
  have hg : ({ f with b := f.b.take (f.s + 0), s := f.s + 0 } : Fl) = f := by
    rw [Nat.add_zero, hk, List.take_length, ← hk]
  have hc : D.crash1 f 0 = { D.withF f D.calls with nm := D.kp, ch := [], arm := 0, down := false } := by
    unfold Dk.crash1; rw [hg]; rfl
  rw [hc]
  have hI := hO.I
  have hI1 := withF_I hI f D.calls
  have hlk : ∀ s, Dk.look { D.withF f D.calls with nm := D.kp, ch := [], arm := 0, down := false } s = D.look s := fun s => by
    have h1 : Dk.look { D.withF f D.calls with nm := D.kp, ch := [], arm := 0, down := false } s = (D.withF f D.calls).look s := by unfold Dk.look; rw [hkp]; rfl
    rw [h1, withF_look hI hf f rfl D.calls s]
    split
    · rename_i e; rw [e, hf]
    · rfl
  refine ⟨⟨⟨⟨fun q hq => hI1.w.nm q (by show q ∈ D.nm; rw [← hkp]; exact hq), hI1.w.kp, fun c hc => by cases hc⟩, by show (D.kp.map _).Nodup; rw [hkp]; exact hI.nd, by show (D.kp.map _).Nodup; rw [hkp]; exact hI.inj, rfl, rfl⟩, hO.ok, hO.by_, hO.base, hO.nm, ?_, hO.room, ?_⟩, hkp, hkp, rfl⟩
  · obtain ⟨f', h1, h2, h3⟩ := hO.f
    exact ⟨f', by rw [hlk]; exact h1, h2, h3⟩
  · have h1 := hO.used
    have h2 := withF_used hI hf f rfl D.calls
    have h3 : Dk.used { D.withF f D.calls with nm := D.kp, ch := [], arm := 0, down := false } = (D.withF f D.calls).used := by unfold Dk.used; rw [hkp]; rfl
    rw [h3]
    show _ ≤ D.room
    omega

end Go.Proofs.YtlkkagjpapjehaaGreatDoor.Sg

/-! Ta -/
namespace Go.Proofs.YtlkkagjpapjehaaGreatDoor.Sg
open Go.RowKit Er Go.Maps

section
variable {S : List Nat} {E : Nat → Addr} {B : Nat}
set_option maxRecDepth 100000 in
set_option maxHeartbeats 1000000 in
theorem short_a (t : List Nat) (h8 : t.length < 8) : RdBad S E B t := by
  intro P F w v C hH h
  obtain ⟨a, cap, rfl, hcap⟩ := h.shape
  obtain ⟨n, hn⟩ : ∃ n, t.length = n := ⟨_, rfl⟩
  rw [hn] at h8 ⊢
  have hb1 : Below w.heap.size w (w.alloc (.cells #[.int .i64 0, .int .i64 0, .slice none 0 0] 40)) := (Below.refl _ _).alloc (Nat.le_refl _) _
  have hH1 := hH.below hb1 (Nat.le_refl _)
  have c0 : w.cell? ⟨8, 0, none⟩ = some (.iface 248 (.pointer (some (E 0)))) := (hH.use C.errs).at_ 0 (C.all 0 (by decide))
  have c1 : (w.alloc (.cells #[.int .i64 0, .int .i64 0, .slice none 0 0] 40)).cell? ⟨8, 0, none⟩ = some (.iface 248 (.pointer (some (E 0)))) := (hH1.use C.errs).at_ 0 (C.all 0 (by decide))
  have i1 : (n : Int) < 8 := by omega
  have H1 := Lib.hid hH1
  have H0 := Lib.hid hH
  have hrow0 : (w.alloc (.cells #[.int .i64 0, .int .i64 0, .slice none 0 0] 40)).rowIs w.heap.size 40 3 (btF 0 0 (.slice none 0 0)) :=
    World.rowIs_alloc w #[.int .i64 0, .int .i64 0, .slice none 0 0] _ _ (fun i hi => by
      have hi' : i < 3 := hi
      rcases (show i = 0 ∨ i = 1 ∨ i = 2 by omega) with rfl | rfl | rfl <;> rfl)
  have hg8 : 8 < w.heap.size := World.block_lt_of_cell? _ _ ((hH.use C.errs).at_ 0 (C.all 0 (by decide)))
  have hg9 : ¬ 8 = w.heap.size := by omega
  have e0 := hrow0.cell (i := 0) (by omega)
  have e1 := hrow0.cell (i := 1) (by omega)
  have e2 := hrow0.cell (i := 2) (by omega)
  have f0 := hrow0.frozen 0
  have f1 := hrow0.frozen 1
  have f2 := hrow0.frozen 2
  have HB1 : Hid (Below (w.heap.size + 1) (w.alloc (.cells #[.int .i64 0, .int .i64 0, .slice none 0 0] 40)) (w.alloc (.cells #[.int .i64 0, .int .i64 0, .slice none 0 0] 40))) := Below.refl _ _
  have hsz1 : w.heap.size < (w.alloc (.cells #[.int .i64 0, .int .i64 0, .slice none 0 0] 40)).heap.size := by simp
  clear hH hH1 hb1 h hcap hn
  go_enter Tryz.func97, Tryz.ntmps97
  go_wp2_with fail
  go_region_held3 (fun w' => w'.cell? ⟨8, 0, none⟩ = some (.iface 248 (.pointer (some (E 0)))))
    (first
      | go_keep
      | assumption)
    (fail)
  go_wp2_with fail
  have z0 : (w.alloc (.cells #[.int .i64 0, .int .i64 0, .slice none 0 0] 40)).drew.cell? ⟨w.heap.size, 0, none⟩ = some (.int .i64 0) := e0
  have z1 : (w.alloc (.cells #[.int .i64 0, .int .i64 0, .slice none 0 0] 40)).drew.cell? ⟨w.heap.size, 1, none⟩ = some (.int .i64 0) := e1
  have z2 : (w.alloc (.cells #[.int .i64 0, .int .i64 0, .slice none 0 0] 40)).drew.cell? ⟨w.heap.size, 2, none⟩ = some (.slice none 0 0) := e2
  exact bodyPost_ret (v := .tuple #[.agg #[.int .i64 0, .int .i64 0, .slice none 0 0], .int .i64 0, .iface 248 (.pointer (some (E 0)))]) (by simp [results, Tryz.results97, go_sem, z0, z1, z2]) rfl ⟨0, P, rfl, Sub.refl P, H1.out.drew⟩
set_option maxRecDepth 100000 in
set_option maxHeartbeats 1000000 in
theorem short_b (bd : List Nat) (hbl : bd.length ≤ 65536) (m : Nat) (hm : m < bd.length) : RdBad S E B (leB bd.length 4 ++ (leB (crcF 0 bd) 4 ++ bd.take m)) := by
  intro P F w v C hH h
  obtain ⟨xs, hxs⟩ : ∃ xs, leB bd.length 4 ++ (leB (crcF 0 bd) 4 ++ bd.take m) = xs := ⟨_, rfl⟩
  have hlen : xs.length = 8 + m := by rw [← hxs]; simp [leB_len]; omega
  have ht8 : (xs.drop 0).take 8 = leB bd.length 4 ++ leB (crcF 0 bd) 4 := by
    rw [← hxs, List.drop_zero, ← List.append_assoc]
    exact List.take_left' (by simp [leB_len])
  rw [hxs] at h
  obtain ⟨g, off, cap, hv, hg, -⟩ := slB_cell h (k := 0) (by omega)
  subst hv
  obtain ⟨a0, cap0, hcc, hcap⟩ := h.shape
  cases hcc
  have hs8 : SlB w (.slice (some ⟨g, off, none⟩) 8 cap) (leB bd.length 4 ++ leB (crcF 0 bd) 4) := by
    have := h.drop (p := 0) (by omega) (m := 8) (by omega) cap (by omega)
    rwa [ht8, Nat.add_zero] at this
  obtain ⟨n, hn⟩ : ∃ n, bd.length = n := ⟨_, rfl⟩
  obtain ⟨c, hc⟩ : ∃ c, crcF 0 bd = c := ⟨_, rfl⟩
  have hclt : c < 4294967296 := by rw [← hc]; exact crcF_lt 0 bd
  rw [hn, hc] at hs8
  rw [hn] at hbl hm
  have l4 : leV (leB n 4) = n := by rw [leV_leB]; omega
  have l4c : leV (leB c 4) = c := by rw [leV_leB]; omega
  have L4 := Lib.hid l4
  have L4C := Lib.hid l4c
  have HX0 : Hid ((leB n 4 ++ leB c 4).drop 0 = leB n 4 ++ leB c 4) := List.drop_zero
  have HX4 : Hid ((leB n 4 ++ leB c 4).drop 4 = leB c 4 ++ []) := by show _ = _; rw [List.append_nil]; exact drop_len _ _ _ (leB_len _ _)
  have HLN : Hid ((leB n 4 ++ leB c 4).length ≤ 1099511627776) := by show _ ≤ _; simp [leB_len]
  have HS8 := Lib.hid (hs8.below ((Below.refl _ _).alloc (Nat.le_refl _) (.cells #[.int .i64 0, .int .i64 0, .slice none 0 0] 40)) rfl)
  obtain ⟨q, hq⟩ : ∃ q, xs.length = q := ⟨_, rfl⟩
  rw [hq] at hlen hcap
  rw [hq]
  have i1 : ¬ (q : Int) < 8 := by omega
  have i2 : (8 : Int) ≤ (cap : Int) := by omega
  have i3 : ¬ cap = 0 := by omega
  have i4 : ¬ (65536 : Int) < (n : Int) := by omega
  have i5 : ((q : Int) - 8) < (n : Int) := by omega
  have H0 := Lib.hid hH
  clear h hs8 hn hc l4 l4c hxs ht8 hq hlen hm
  go_enter Tryz.func97, Tryz.ntmps97
  go_wp2_with fail
  refine (newreader_any _ (leB n 4 ++ leB c 4) _ HS8.out HLN.out).mono ?_
  rintro e w1 ⟨⟨r, v1, rfl, hr, hrd⟩, hb1⟩
  simp only [World.alloc_size'] at hr
  have hb1' : Below (w.heap.size + 1) (w.alloc (.cells #[.int .i64 0, .int .i64 0, .slice none 0 0] 40)) w1 := hb1.mono (by simp)
  clear hb1
  go_wp2_with fail
  refine (fixed_at 4 (leB n 4) (leB_len _ _) (by omega) (by omega) (leB_lt _ _) n L4.out r 0 v1 _ _ w1 hrd HX0.out).mono ?_
  rintro e w2 ⟨rfl, hrd2, hup2⟩
  have hb2 := hb1'.trans (hup2.to_below (B := w.heap.size + 1) (by have := hb1'.size; simpa using this) (fun b hb => by simp at hb; omega))
  clear hrd hup2 hb1'
  go_wp2_with fail
  refine (fixed_at 4 (leB c 4) (leB_len _ _) (by omega) (by omega) (leB_lt _ _) c L4C.out r _ v1 _ [] w2 hrd2 HX4.out).mono ?_
  rintro e w3 ⟨rfl, hrd3, hup3⟩
  have hb3 := hb2.trans (hup3.to_below (B := w.heap.size + 1) (by have := hb2.size; simpa using this) (fun b hb => by simp at hb; omega))
  have hH3 := H0.out.below (below_box hb3 (Nat.le_refl _)) (Nat.le_refl _)
  have c3 : w3.cell? ⟨8, 0, none⟩ = some (.iface 248 (.pointer (some (E 0)))) := (hH3.use C.errs).at_ 0 (C.all 0 (by decide))
  have hrow0 : (w.alloc (.cells #[.int .i64 0, .int .i64 0, .slice none 0 0] 40)).rowIs w.heap.size 40 3 (btF 0 0 (.slice none 0 0)) :=
    World.rowIs_alloc w #[.int .i64 0, .int .i64 0, .slice none 0 0] _ _ (fun i hi => by
      have hi' : i < 3 := hi
      rcases (show i = 0 ∨ i = 1 ∨ i = 2 by omega) with rfl | rfl | rfl <;> rfl)
  have hrow3 := hrow0.of_block (hb3.block w.heap.size (by omega))
  have hg8 : 8 < w.heap.size := World.block_lt_of_cell? _ _ ((hH.use C.errs).at_ 0 (C.all 0 (by decide)))
  have hg9 : ¬ 8 = w.heap.size := by omega
  have e0 := hrow3.cell (i := 0) (by omega)
  have e1 := hrow3.cell (i := 1) (by omega)
  have e2 := hrow3.cell (i := 2) (by omega)
  have f0 := hrow3.frozen 0
  have f1 := hrow3.frozen 1
  have f2 := hrow3.frozen 2
  have hrF := ((hrow3.set 0 (.int .i64 0)).set 1 (.int .i64 0)).set 2 (.slice none 0 0)
  have huF : Upd [w.heap.size] w3 (((w3.setCell ⟨w.heap.size, 0, none⟩ (.int .i64 0)).setCell ⟨w.heap.size, 1, none⟩ (.int .i64 0)).setCell ⟨w.heap.size, 2, none⟩ (.slice none 0 0)) :=
    (((Upd.refl _ _).setCell _ _ _ (.inl (by simp))).setCell _ _ _ (.inl (by simp))).setCell _ _ _ (.inl (by simp))
  have hbF : Below w.heap.size w (((w3.setCell ⟨w.heap.size, 0, none⟩ (.int .i64 0)).setCell ⟨w.heap.size, 1, none⟩ (.int .i64 0)).setCell ⟨w.heap.size, 2, none⟩ (.slice none 0 0)) := (below_box hb3 (Nat.le_refl _)).trans (huF.to_below (by have := hb3.size; simp at this; omega) (fun b hb => by simp at hb; omega))
  have hHF := H0.out.below hbF (Nat.le_refl _)
  have c8 : (((w3.setCell ⟨w.heap.size, 0, none⟩ (.int .i64 0)).setCell ⟨w.heap.size, 1, none⟩ (.int .i64 0)).setCell ⟨w.heap.size, 2, none⟩ (.slice none 0 0)).cell? ⟨8, 0, none⟩ = some (.iface 248 (.pointer (some (E 0)))) := (hHF.use C.errs).at_ 0 (C.all 0 (by decide))
  have HHF := Lib.hid hHF
  have HRF := Lib.hid hrF
  clear hrF huF hHF hbF
  have HB3 := Lib.hid hb3
  clear hrd2 hrd3 hup3 hb2 hb3 hH3 hrow0 hH
  go_wp2_with fail
  go_region_held3 (fun w' => w'.cell? ⟨8, 0, none⟩ = some (.iface 248 (.pointer (some (E 0)))))
    (first
      | go_keep
      | exact c3
      | exact c8)
    (fail)
  go_wp2_with fail
  have g0 : (((w3.setCell ⟨w.heap.size, 0, none⟩ (.int .i64 0)).setCell ⟨w.heap.size, 1, none⟩ (.int .i64 0)).setCell ⟨w.heap.size, 2, none⟩ (.slice none 0 0)).drew.cell? ⟨w.heap.size, 0, none⟩ = some (.int .i64 0) := HRF.out.cell (i := 0) (by omega)
  have g1 : (((w3.setCell ⟨w.heap.size, 0, none⟩ (.int .i64 0)).setCell ⟨w.heap.size, 1, none⟩ (.int .i64 0)).setCell ⟨w.heap.size, 2, none⟩ (.slice none 0 0)).drew.cell? ⟨w.heap.size, 1, none⟩ = some (.int .i64 0) := HRF.out.cell (i := 1) (by omega)
  have g2 : (((w3.setCell ⟨w.heap.size, 0, none⟩ (.int .i64 0)).setCell ⟨w.heap.size, 1, none⟩ (.int .i64 0)).setCell ⟨w.heap.size, 2, none⟩ (.slice none 0 0)).drew.cell? ⟨w.heap.size, 2, none⟩ = some (.slice none 0 0) := HRF.out.cell (i := 2) (by omega)
  exact bodyPost_ret (v := .tuple #[.agg #[.int .i64 0, .int .i64 0, .slice none 0 0], .int .i64 0, .iface 248 (.pointer (some (E 0)))]) (by simp [results, Tryz.results97, go_sem, g0, g1, g2]) rfl ⟨0, P, rfl, Sub.refl P, HHF.out.drew⟩
/-- A batch's bytes that are torn read as no batch. -/
theorem torn (x : Bt) (hok : BtOk x) (m : Nat) (hm : m < (batB x).length) : RdBad S E B ((batB x).take m) := by
  by_cases h8 : m < 8
  · exact short_a _ (by rw [List.length_take]; omega)
  · have e : (batB x).take m = leB (bodyB x).length 4 ++ (leB (crcF 0 (bodyB x)) 4 ++ (bodyB x).take (m - 8)) := by
      have hl : (leB (bodyB x).length 4 ++ leB (crcF 0 (bodyB x)) 4).length = 8 := by simp [leB_len]
      rw [show batB x = (leB (bodyB x).length 4 ++ leB (crcF 0 (bodyB x)) 4) ++ bodyB x from rfl, List.take_append, List.take_of_length_le (by omega), hl, List.append_assoc]
    rw [e]
    exact short_b _ (by have := bodyB_len x hok; omega) _ (by have := batB_len x; omega)

/-- A file of batches, cut anywhere: whole batches, and what reads as no batch. -/
theorem flat_cut : ∀ (l : List Bt) (p : Nat), (∀ x, x ∈ l → BtOk x ∧ BtBy x) → p ≤ sizes l → ∃ k t, k ≤ l.length ∧ (flatB l).take p = flatB (l.take k) ++ t ∧ (t = [] ∨ RdBad S E B t) ∧ sizes (l.take k) ≤ p ∧ (∀ j, j ≤ l.length → sizes (l.take j) ≤ p → j ≤ k)
  | [], p, _, _ => ⟨0, [], by simp, by simp [flatB], .inl rfl, by simp [sizes], fun j hj _ => by simpa using hj⟩
  | x :: l, p, hok, hp => by
    have e : flatB (x :: l) = batB x ++ flatB l := rfl
    have hz : sizes (x :: l) = szB x + sizes l := by simp [sizes]
    by_cases h : p < szB x
    · refine ⟨0, (batB x).take p, by simp, ?_, .inr (torn x (hok x List.mem_cons_self).1 p h), by simp [sizes], fun j hj hjp => ?_⟩
      · rw [e, List.take_append_of_le_length (by unfold szB at h; omega)]; rfl
      · cases j with
        | zero => omega
        | succ j =>
          have h2 : sizes ((x :: l).take (j + 1)) = szB x + sizes (l.take j) := by simp [sizes]
          omega
    · obtain ⟨k, t, h1, h2, h3, h4, h5⟩ := flat_cut l (p - szB x) (fun y hy => hok y (List.mem_cons_of_mem _ hy)) (by omega)
      refine ⟨k + 1, t, by simpa using h1, ?_, h3, ?_, fun j hj hjp => ?_⟩
      · rw [e, List.take_append, List.take_of_length_le (by unfold szB at h; omega)]
        show _ = (batB x ++ flatB (l.take k)) ++ t
        rw [List.append_assoc, ← h2]
        rfl
      · have h6 : sizes ((x :: l).take (k + 1)) = szB x + sizes (l.take k) := by simp [sizes]
        omega
      · cases j with
        | zero => omega
        | succ j =>
          have h6 : sizes ((x :: l).take (j + 1)) = szB x + sizes (l.take j) := by simp [sizes]
          have := h5 j (by simpa using hj) (by omega)
          omega
end
end Go.Proofs.YtlkkagjpapjehaaGreatDoor.Sg

/-! Tb -/
namespace Go.Proofs.YtlkkagjpapjehaaGreatDoor.Sg
open Go.RowKit Er Go.Maps

/-- A disk of one name behind a crash: of its file stand the kept bytes, and some more. -/
theorem crash1_I {D : Dk} (hI : DkI D) {s : Nam} {f : Fl} (hf : D.look s = some f) (hkp : D.kp = D.nm) (p : Nat) :
    DkI (D.crash1 f p) ∧ (D.crash1 f p).look s = some { f with b := f.b.take (f.s + p), s := f.s + p } ∧ (D.crash1 f p).nm = D.nm ∧ (D.crash1 f p).kp = D.nm ∧ (D.crash1 f p).room = D.room := by
  have hfl := look_some hf
  obtain ⟨f', hff⟩ : ∃ f', f' = ({ f with b := f.b.take (f.s + p), s := f.s + p } : Fl) := ⟨_, rfl⟩
  have hbk : f'.blk = f.blk := by rw [hff]
  have hc : D.crash1 f p = { D.withF f' D.calls with nm := D.kp, ch := [], arm := 0, down := false } := by
    unfold Dk.crash1; rw [← hff]; rfl
  rw [hc, ← hff]
  have hI1 := withF_I hI f' D.calls
  refine ⟨⟨⟨fun q hq => hI1.w.nm q (by show q ∈ D.nm; rw [← hkp]; exact hq), hI1.w.kp, fun c hc => by cases hc⟩, by show (D.kp.map _).Nodup; rw [hkp]; exact hI.nd, by show (D.kp.map _).Nodup; rw [hkp]; exact hI.inj, rfl, rfl⟩, ?_, hkp, hkp, rfl⟩
  have h1 : Dk.look { D.withF f' D.calls with nm := D.kp, ch := [], arm := 0, down := false } s = (D.withF f' D.calls).look s := by unfold Dk.look; rw [hkp]; rfl
  rw [h1, withF_look hI hf f' hbk D.calls s, if_pos rfl]

section
variable {S : List Nat} {E : Nat → Addr} {B : Nat} {P : Pm} {d : Nat} {D : Dk} {Ad F : Mm} {w : World}
/-- Open of a file whose tail is torn. -/
theorem sopen_torn (C : Ctx S E B P) (hD : DkM P d D Ad) (hI : DkI D) (base : Nat) (hb : base ≤ 1099511627776) (every : Nat) (h1 : 1 ≤ every) (h2 : every ≤ 1048576) (f : Fl) (hl : D.look (segNm base) = some f) (hroom : D.room ≤ 4194304) (hused : D.used ≤ D.room)
    (L : List Bt) (t : List Nat) (hfb : f.b = flatB L ++ t) (hok : ∀ x, x ∈ L → BtOk x ∧ BtBy x) (ht : t = [] ∨ RdBad S E B t) (hch : Chain base 0 L) (hH : Hp w P (Ad ++ F)) :
    Calls Tryz.prog 40 #[ptr d, .int .i64 base, .int .i64 every] w fun e w' => ∃ s P' As A' D', e = .returned (.tuple #[ptr s, .int .i64 (t.length : Nat), .nilIface]) ∧ Sub P P' ∧
      SgM s ⟨d, segNm base, base, every, L, sizes L⟩ As ∧ DkM P' d D' A' ∧ SegOn D' ⟨d, segNm base, base, every, L, sizes L⟩ ∧ DkSame D D' ∧ D'.used + t.length = D.used ∧ (∀ s', s' ≠ segNm base → D'.look s' = D.look s') ∧ Hp w' P' (As ++ (A' ++ F)) := by
  have hlen : f.b.length = sizes L + t.length := by rw [hfb, List.length_append, flatB_len]
  refine (sopen_ok C hD hI base hb every h1 h2 f hl hroom hused L t hfb hok ht hH).mono ?_
  rintro e w' ⟨s, P', As, A', rfl, hs, hG, hD', hH'⟩
  rw [folN_chain L base 0 hch] at hG hD'
  obtain ⟨o1, o2, o3, o4⟩ := opened_ok hI hl (sizes L) (by omega)
  refine ⟨s, P', As, A', _, ?_, hs, hG, hD', ⟨o1, fun x hx => (hok x hx).1, fun x hx => (hok x hx).2, hb, by simp [segNm_len], ⟨{ f with b := f.b.take (sizes L), s := sizes L }, ?_, ?_, rfl⟩, ?_, ?_⟩, o4, by omega, fun s' hs' => ?_, hH'⟩
  · rw [folN_chain L base 0 hch, hlen, Nat.add_sub_cancel_left]
  · show Dk.look _ (segNm base) = _
    rw [o2, if_pos rfl]
  · show f.b.take (sizes L) = flatB L
    rw [hfb, ← flatB_len]
    exact List.take_left
  · rw [o4.room]; exact hroom
  · rw [o4.room]; omega
  · rw [o2, if_neg hs']
end
end Go.Proofs.YtlkkagjpapjehaaGreatDoor.Sg

/-! Lv -/
namespace Go.Proofs.YtlkkagjpapjehaaGreatDoor.Sg
open Go.RowKit Er Go.Maps

theorem endOf_app : ∀ (l m : List Bt) (b : Int), endOf b (l ++ m) = endOf (endOf b l) m
  | [], m, b => rfl
  | x :: l, m, b => by rw [List.cons_append, endOf_cons, endOf_cons, endOf_app]
theorem end_mono {L : List Bt} {b e : Int} (h : Chain b e L) (j k : Nat) (hjk : j ≤ k) : endOf b (L.take j) ≤ endOf b (L.take k) := by
  have hc : Chain b e (L.take k) := by
    rw [← List.take_append_drop k L] at h
    exact ((chain_app _ _ _ _).1 h).1
  have e1 : L.take k = L.take j ++ (L.take k).drop j := by
    conv => lhs; rw [← List.take_append_drop j (L.take k)]
    rw [List.take_take, Nat.min_eq_left hjk]
  rw [e1] at hc ⊢
  rw [endOf_app]
  exact (chain_end_le _ _ _ ((chain_app _ _ _ _).1 hc).2).1

/-- What holds at the head of SegRecovers's first loop. -/
def RecRel (P : Pm) (F : Mm) (d s : Nat) (L : List Bt) (j n m : Nat) (vi : Value) (w : World) : Prop :=
  ∃ (i : Nat) (P' : Pm) (A Ad : Mm) (D : Dk), i + m = n ∧ j ≤ i ∧ vi = .int .i64 i ∧ Sub P P' ∧ SgM s ⟨d, segNm 3, 3, 100, L.take i, sizes (L.take j)⟩ A ∧ DkM P' d D Ad ∧ SegOn D ⟨d, segNm 3, 3, 100, L.take i, sizes (L.take j)⟩ ∧
    D.room = 1048576 ∧ D.used = sizes (L.take i) ∧ (D.nm.length = 1 ∧ D.kp = D.nm ∧ D.ch.length = 0) ∧ Hp w P' (A ++ (Ad ++ F))

set_option maxRecDepth 100000 in
set_option maxHeartbeats 16000000 in
theorem recovers_all (a0 : Option Addr) (len0 cap0 : Nat) (z0 : List Int) (sy0 : Int) (a2 : Option Addr) (len2 cap2 : Nat) (z2 : List Int) (W : World) (h : IsRow W a0 len0 cap0 z0) (hp : IsRow W a2 len2 cap2 z2)
    {S : List Nat} (hS : ∀ i, i < 10 ∨ i = 14 → i ∈ S) (hE : Errs S W (errAt W) W.heap.size)
    (hT : Lib.TabIs Tryz.prog W "internal/strconv.uint64pow10" .u64 Lib.pow10Tab) :
    Calls Tryz.prog 9 #[.slice a0 len0 cap0, .int .i64 sy0, .slice a2 len2 cap2] W fun e W' => e = .returned (.bool true) ∧ Below W.heap.size W W' := by
  have C := ctx_start hS hE hT
  obtain ⟨xs, rfl, hC⟩ := isRow_C h
  obtain ⟨ps, rfl, hQ⟩ := isRow_C hp
  have hCp := ints_pers hC
  have hQp := ints_pers hQ
  have H0 : Hid (Hp W (Pm.start W) []) := Hp.start W
  have HCP := Lib.hid hCp
  have HCQ := Lib.hid hQp
  clear h hC hp hQ hE hT hCp hQp
  have hlen : 20 < xs.length ∨ (¬ 20 < xs.length ∧ 8 < ps.length) ∨ (¬ 20 < xs.length ∧ ¬ 8 < ps.length) := by omega
  rcases hlen with hlen | ⟨hlen, hlen2⟩ | ⟨hlen, hlen2⟩
  · clear HCP HCQ
    go_enter Tryz.func9, Tryz.ntmps9
    go_wp2_with fail
    refine (first_ok C H0.out).mono ?_
    rintro e w1 ⟨rfl, P1, hs1, hH1⟩
    have HB := Lib.hid (hH1.to_below hs1)
    clear hH1 hs1
    go_wp2_with fail
    go_ret
    exact ⟨rfl, HB.out⟩
  · clear HCP HCQ
    go_enter Tryz.func9, Tryz.ntmps9
    go_wp2_with fail
    refine (first_ok C H0.out).mono ?_
    rintro e w1 ⟨rfl, P1, hs1, hH1⟩
    have HB := Lib.hid (hH1.to_below hs1)
    clear hH1 hs1
    go_wp2_with fail
    go_ret
    exact ⟨rfl, HB.out⟩
  have hl1 : xs.length ≤ 20 := by omega
  obtain ⟨hch, hok, hsz, hn1, hn2⟩ := row20b 3 xs 3 (by omega) hl1
  obtain ⟨L, hLd⟩ : ∃ L, L = rowGo 3 xs 0 ((3 : Nat) : Int) := ⟨_, rfl⟩
  rw [← hLd] at hch hok hsz hn1 hn2
  obtain ⟨en, hen⟩ : ∃ en, endOf ((3 : Nat) : Int) L = en := ⟨_, rfl⟩
  rw [hen] at hn1 hn2
  obtain ⟨n, hn⟩ : ∃ n, L.length = n := ⟨_, rfl⟩
  have hn20 : n ≤ 20 := by rw [← hn, hLd, row_len]; exact hl1
  have HLD := Lib.hid hLd
  have HCH := Lib.hid hch
  have HOK := Lib.hid hok
  have HSZ := Lib.hid hsz
  have HEN := Lib.hid hen
  have HN := Lib.hid hn
  have HR1 : Hid (∀ x ∈ L, 1 ≤ x.r.length) := fun x hx => (hok x hx).1.n1
  clear hLd hch hok hsz hen hn
  go_enter Tryz.func9, Tryz.ntmps9
  go_wp2_with fail
  refine (first_ok C H0.out).mono ?_
  rintro e w1 ⟨rfl, P1, hs1, hH1⟩
  have H1 := Lib.hid hH1
  have HS1 := Lib.hid hs1
  clear hH1 hs1
  go_wp2_with fail
  refine (row_p H1.out a0 xs cap0 (HCP.out.sub HS1.out) 3 (by decide) (by omega) 3 (by decide) (by decide)).mono ?_
  rintro e w2 ⟨v2, P2, out2, rfl, hs2, hm2', hb2, hH2⟩
  have hm2 : out2.map (·.1) = L := hm2'.trans HLD.out.symm
  have hon : out2.length = n := by rw [← HN.out, ← hm2, List.length_map]
  obtain ⟨va, vc, rfl, hvc⟩ := hb2.shape
  rw [hon] at hb2 hvc ⊢
  have H2 := Lib.hid hH2
  have HB2 := Lib.hid hb2
  have HM2 := Lib.hid hm2
  have HON := Lib.hid hon
  have HS2 := Lib.hid (HS1.out.trans hs2)
  clear hH2 hb2 hm2' hm2 hs2 hon
  go_wp2_with fail
  refine (number_any sy0 (n + 1) (by omega) (by omega) _).mono ?_
  rintro e w3 ⟨rfl, rfl⟩
  have hj0 := Int.emod_nonneg sy0 (show ((n + 1 : Nat) : Int) ≠ 0 by omega)
  have hj1 := Int.emod_lt_of_pos sy0 (show 0 < ((n + 1 : Nat) : Int) by omega)
  obtain ⟨j, hj⟩ : ∃ j : Nat, sy0 % ((n + 1 : Nat) : Int) = (j : Int) := ⟨(sy0 % ((n + 1 : Nat) : Int)).toNat, by omega⟩
  rw [hj] at hj0 hj1 ⊢
  have hjn : j ≤ n := by omega
  have hjc : j ≤ vc := by omega
  have hjc2 : (j : Int) ≤ (vc : Int) := by omega
  clear hj hj1
  have hb3 := HB2.out.take j (by rw [HON.out]; exact hjn)
  have HB3 := Lib.hid hb3
  have hm3 : (out2.take j).map (·.1) = L.take j := by rw [List.map_take, HM2.out]
  have HM3 := Lib.hid hm3
  have HCHJ : Hid (∀ k, Chain ((3 : Nat) : Int) 0 (L.take k)) := fun k => by
    have h1 := HCH.out
    rw [← List.take_append_drop k L] at h1
    exact ((chain_app _ _ _ _).1 h1).1
  have HSZJ : Hid (∀ k, k ≤ n → sizes (L.take k) ≤ 1048576) := fun k hk => by
    have := sizes_mono L k L.length (by rw [HN.out]; exact hk)
    rw [List.take_length] at this
    have := HSZ.out
    omega
  clear hb3 hm3
  go_wp2_with fail
  refine (made_ok (C.sub HS2.out) 3 (by decide) 100 (by decide) (by decide) _ (out2.take j) HB3.out (L.take j) HM3.out (HCHJ.out j) (fun x hx => HOK.out x (List.mem_of_mem_take hx)) (HSZJ.out j hjn) H2.out).mono ?_
  rintro e w3 ⟨d, s, P3, A, Ad, D, rfl, hs3, hG, hD, hO, hroom, hused, ⟨hnm, hkp⟩, hnn, hchl, hH3⟩
  have HS3 := Lib.hid (HS2.out.trans hs3)
  have HB23 := Lib.hid (HB2.out.sub hs3)
  have H3 := Lib.hid hH3
  have HG := Lib.hid hG
  have HO := Lib.hid hO
  have HD := Lib.hid hD
  have HN3 : Hid (D.nm.length = 1 ∧ D.kp = D.nm ∧ D.ch.length = 0 ∧ D.room = 1048576 ∧ D.used = sizes (L.take j)) := ⟨hnm, hkp, hchl, hroom, hused⟩
  clear hs3 hH3 hG hO hD hroom hused hnm hkp hnn hchl
  go_wp2_with fail
  refine (ssync_on (C.sub HS3.out) HG.out HO.out HD.out H3.out).mono ?_
  rintro e w4 ⟨rfl, A4, Ad4, D4, hG4, hD4, hO4, hsm4, hus4, -, hH4⟩
  have HN4 : Hid (D4.room = 1048576 ∧ D4.used = sizes (L.take j) ∧ (D4.nm.length = 1 ∧ D4.kp = D4.nm ∧ D4.ch.length = 0)) := ⟨by rw [hsm4.room]; exact HN3.out.2.2.2.1, by rw [hus4]; exact HN3.out.2.2.2.2, by rw [hsm4.nmq]; exact HN3.out.1, hsm4.kpq HN3.out.2.1, by have := hsm4.ch; have := HN3.out.2.2.1; omega⟩
  have HG4 : Hid (SgM s ⟨d, segNm 3, 3, 100, L.take j, sizes (L.take j)⟩ A4) := hG4
  have HO4 : Hid (SegOn D4 ⟨d, segNm 3, 3, 100, L.take j, sizes (L.take j)⟩) := hO4
  have HD4 : Hid (DkM P3 d D4 Ad4) := hD4
  have H4 := Lib.hid hH4
  obtain ⟨lo, hlo⟩ : ∃ z, endOf ((3 : Nat) : Int) (L.take j) = z := ⟨_, rfl⟩
  have hen4 : Sg.end_ ⟨d, segNm 3, 3, 100, L.take j, sizes (L.take j)⟩ = lo := hlo
  have hsy4 : synF (Sg.kept ⟨d, segNm 3, 3, 100, L.take j, sizes (L.take j)⟩) ((Sg.base ⟨d, segNm 3, 3, 100, L.take j, sizes (L.take j)⟩ : Nat) : Int) (Sg.l ⟨d, segNm 3, 3, 100, L.take j, sizes (L.take j)⟩) = lo := by
    show synF (sizes (L.take j)) ((3 : Nat) : Int) (L.take j) = lo
    rw [synF_all]; exact hlo
  have HEN4 := Lib.hid hen4
  have HSY4 := Lib.hid hsy4
  have HLO := Lib.hid hlo
  clear hG4 hD4 hO4 hsm4 hus4 hH4 hen4 hsy4 hlo
  go_wp2_with fail
  refine (end_any HG4.out HO4.out.W H4.out).mono ?_
  rintro e w5 ⟨rfl, hH5⟩
  rw [HEN4.out]
  have H5 := Lib.hid hH5
  clear hH5
  go_wp2_with fail
  refine (ssynced_ok HG4.out HO4.out.W H5.out).mono ?_
  rintro e w6 ⟨rfl, hH6⟩
  rw [HSY4.out]
  have H6 := Lib.hid hH6
  clear hH6
  go_wp2_with fail
  go_loopg [12] (n - j) (fun m vi wr => RecRel P3 [] d s L j n m vi wr)
  case atStart => exact ⟨j, P3, A4, Ad4, D4, by omega, Nat.le_refl _, rfl, Sub.refl P3, HG4.out, HD4.out, HO4.out, HN4.out.1, HN4.out.2.1, HN4.out.2.2, H6.out⟩
  case round =>
    obtain ⟨i, P12, A12, Ad12, D12, hi, hji, rfl, hs12, hG12, hD12, hO12, hr12, hu12, hnn12, hHr⟩ := hrel
    by_cases hlt : i < n
    · obtain ⟨gj, rfl⟩ : ∃ x, gk = x + 1 := ⟨gk - 1, by omega⟩
      have hil : i < L.length := by rw [HN.out]; exact hlt
      have hio : i < out2.length := by rw [HON.out]; exact hlt
      obtain ⟨gl, ol, cap, hvv, hcp, hbc⟩ := HB23.out.at_ hio
      simp only [Value.slice.injEq] at hvv
      obtain ⟨rfl, -, rfl⟩ := hvv
      have hx : (out2[i]'hio).1 = L[i] := by have := HM2.out; subst this; simp
      obtain ⟨x, hxd⟩ : ∃ x, x = L[i] := ⟨_, rfl⟩
      obtain ⟨p2, hp2⟩ : ∃ p2, (out2[i]'hio).2 = p2 := ⟨_, rfl⟩
      rw [show out2[i]'hio = (x, p2) from Prod.ext (hx.trans hxd.symm) hp2] at hbc
      have hbc12 := hbc.sub hs12
      obtain ⟨-, c0, c1, c2, hrc⟩ := hHr.use hbc12
      obtain ⟨ra, rc, hrs⟩ := hrc.shape
      obtain rfl : p2 = .slice ra x.r.length rc := hrs
      have hbv : Pers P12 (fun w => BtV w (.agg #[.int .i64 x.b, .int .i64 x.e, .slice ra x.r.length rc]) x) := hbc12.imp (fun w1 h => ⟨_, rfl, h.2.2.2.2⟩)
      obtain ⟨hxo, hxb⟩ := HOK.out x (by rw [hxd]; exact List.getElem_mem hil)
      have hfoll : (⟨d, segNm 3, 3, 100, L.take i, sizes (L.take j)⟩ : Sg).foll x = true := foll_chain rfl rfl rfl (m := L.drop (i + 1)) (by rw [hxd, take_split L i hil]; exact HCH.out)
      have hsk := sizes_take L i hil
      rw [← hxd] at hsk
      have htn := take_next L i hil
      rw [← hxd] at htn
      have hst : sizes (L.take (i + 1)) = sizes (L.take i) + szB x := by rw [htn, sizes_app]; simp [sizes]
      have hup : D12.used + szB x ≤ D12.room := by rw [hu12, hr12]; have := HSZ.out; omega
      have hsy : synF (sizes (L.take j)) ((3 : Nat) : Int) (L.take (i + 1)) = lo := by
        rw [synF_at _ L j (by rw [HN.out]; exact hjn) (i + 1) (by omega), Nat.min_eq_left (by omega)]
        exact HLO.out
      have j1 : (i : Int) < (n : Int) := by omega
      have j2 : (0 : Int) ≤ (i : Int) := by omega
      have HBV := Lib.hid hbv
      have HR := Lib.hid hHr
      have HFO := Lib.hid hfoll
      have HTN := Lib.hid htn
      have HST := Lib.hid hst
      have HUP := Lib.hid hup
      have HU12 := Lib.hid hu12
      have HR12 := Lib.hid hr12
      have HNN12 := Lib.hid hnn12
      have HSY := Lib.hid hsy
      have HG12 := Lib.hid hG12
      have HD12 := Lib.hid hD12
      have HO12 := Lib.hid hO12
      have HS12 := Lib.hid hs12
      have HXO := Lib.hid hxo
      have HXB := Lib.hid hxb
      clear hbv hHr hfoll htn hst hup hu12 hr12 hnn12 hsy hG12 hD12 hO12 hs12 hxo hxb hbc hbc12 hrc hx hxd hsk
      go_wp2_with fail
      refine (sappend_on (C.sub (HS3.out.trans HS12.out)) HG12.out HO12.out HD12.out x HXO.out HXB.out _ HBV.out HFO.out HUP.out HR.out).mono ?_
      rintro e w13 ⟨rfl, P13, A13, Ad13, D13, hs13, hG13, hD13, hO13, hsm13, hus13, -, hH13⟩
      have hG13' : SgM s ⟨d, segNm 3, 3, 100, L.take (i + 1), sizes (L.take j)⟩ A13 := by rw [HTN.out]; exact hG13
      have hO13' : SegOn D13 ⟨d, segNm 3, 3, 100, L.take (i + 1), sizes (L.take j)⟩ := by rw [HTN.out]; exact hO13
      have hsy13 : synF (Sg.kept ⟨d, segNm 3, 3, 100, L.take (i + 1), sizes (L.take j)⟩) ((Sg.base ⟨d, segNm 3, 3, 100, L.take (i + 1), sizes (L.take j)⟩ : Nat) : Int) (Sg.l ⟨d, segNm 3, 3, 100, L.take (i + 1), sizes (L.take j)⟩) = lo := HSY.out
      have HSY13 := Lib.hid hsy13
      have HG13 := Lib.hid hG13'
      have HO13 := Lib.hid hO13'
      have HN13 : Hid (D13.room = 1048576 ∧ D13.used = sizes (L.take (i + 1)) ∧ (D13.nm.length = 1 ∧ D13.kp = D13.nm ∧ D13.ch.length = 0)) := ⟨by rw [hsm13.room]; exact HR12.out, by rw [hus13, HU12.out, HST.out], by rw [hsm13.nmq]; exact HNN12.out.1, hsm13.kpq HNN12.out.2.1, by have := hsm13.ch; have := HNN12.out.2.2; omega⟩
      have HD13 := Lib.hid hD13
      have HS13 := Lib.hid (HS12.out.trans hs13)
      have H13 := Lib.hid hH13
      clear hs13 hG13 hD13 hO13 hsm13 hus13 hH13 hG13' hO13' hsy13
      go_wp2_with fail
      refine (ssynced_ok HG13.out HO13.out.W H13.out).mono ?_
      rintro e w14 ⟨rfl, hH14⟩
      rw [HSY13.out]
      have H14 := Lib.hid hH14
      have hrel13 : RecRel P3 [] d s L j n gj (.int .i64 ((i + 1 : Nat) : Int)) w14 :=
        ⟨i + 1, P13, A13, Ad13, D13, by omega, by omega, rfl, HS13.out, HG13.out, HD13.out, HO13.out, HN13.out.1, HN13.out.2.1, HN13.out.2.2, H14.out⟩
      have HR13 := Lib.hid hrel13
      clear hrel13 hH14
      go_wp2_with fail
      go_roundg gj
      case measure => omega
      case rel => exact HR13.out
    · have hin : i = n := by omega
      have e : L.take i = L := by rw [hin, ← HN.out]; exact List.take_length
      rw [e] at hG12 hO12 hu12
      have hen12 : Sg.end_ ⟨d, segNm 3, 3, 100, L, sizes (L.take j)⟩ = en := HEN.out
      have HEN12 := Lib.hid hen12
      have HR := Lib.hid hHr
      have HG12 := Lib.hid hG12
      have HO12 := Lib.hid hO12
      have HD12 := Lib.hid hD12
      have HS12 := Lib.hid hs12
      obtain ⟨f6, hl6, hb6, hk6⟩ := HO12.out.f
      have hl6' : D12.look (segNm 3) = some f6 := hl6
      have hb6' : f6.b = flatB L := hb6
      have hk6' : f6.s = sizes (L.take j) := hk6
      have hfl6 : f6.b.length = sizes L := by rw [hb6', flatB_len]
      have hnm6 := nm_one hl6' hnn12.1
      have hsj : sizes (L.take j) ≤ sizes L := by
        have := sizes_mono L j L.length (by rw [HN.out]; exact hjn)
        rwa [List.take_length] at this
      have hle6 : f6.s ≤ f6.b.length := by omega
      have hsL := HSZ.out
      have hbl6 : f6.b.length ≤ 1048576 := by omega
      have hbl62 : f6.b.length ≤ 1099511627776 := by omega
      have HNM6 : Hid (D12.kp = [(segNm 3, f6.blk)]) := by show _ = _; rw [hnn12.2.1]; exact hnm6
      have HF6 := Lib.hid (look_some hl6').2
      have HCH6 : Hid (D12.ch = []) := List.eq_nil_of_length_eq_zero hnn12.2.2
      have HL6 := Lib.hid hl6'
      have HB6 := Lib.hid hb6'
      have HK6 := Lib.hid hk6'
      have HNN6 := Lib.hid hnn12
      have HR6 : Hid (D12.room = 1048576 ∧ D12.used = sizes L) := ⟨hr12, hu12⟩
      clear hHr hG12 hO12 hs12 hen12 e hD12 hu12 hr12 hnn12 hl6 hb6 hk6 hl6' hb6' hk6' hfl6 hnm6 hsj hsL
      go_wp2_with fail
      refine (end_any HG12.out HO12.out.W HR.out).mono ?_
      rintro e w14 ⟨rfl, hH14⟩
      rw [HEN12.out]
      have H14 := Lib.hid hH14
      clear hH14
      go_wp2_with fail
      refine (crash1_ok HD12.out HNM6.out HCH6.out f6 HF6.out hle6 hbl62 a2 ps cap2 (HCQ.out.sub (HS3.out.trans HS12.out)) (Hp.mid H14.out)).mono ?_
      rintro e w15 ⟨rfl, p9, P9, A9, hp9, hs9, hD9, hH9⟩
      have hfl6 : f6.b.length = sizes L := by rw [HB6.out, flatB_len]
      have hp92 : sizes (L.take j) + p9 ≤ sizes L := by
        have := HK6.out
        omega
      obtain ⟨k, t, hk1, hk2, hk3, hk4, hk5⟩ := flat_cut (S := S) (E := errAt W) (B := W.heap.size) L (sizes (L.take j) + p9) HOK.out hp92
      have hjk : j ≤ k := hk5 j (by rw [HN.out]; exact hjn) (by omega)
      have hkn : k ≤ n := by rw [← HN.out]; exact hk1
      obtain ⟨hI9, hl9, hn9, hkp9, hr9⟩ := crash1_I HO12.out.I HL6.out HNN6.out.2.1 p9
      obtain ⟨D9, hD9e⟩ : ∃ D9, D9 = D12.crash1 f6 p9 := ⟨_, rfl⟩
      rw [← hD9e] at hI9 hl9 hn9 hkp9 hr9 hD9
      obtain ⟨f9, hf9⟩ : ∃ f9 : Fl, f9 = { f6 with b := f6.b.take (f6.s + p9), s := f6.s + p9 } := ⟨_, rfl⟩
      rw [← hf9] at hl9
      have hb9 : f9.b = flatB (L.take k) ++ t := by
        rw [hf9]
        show f6.b.take (f6.s + p9) = _
        rw [HB6.out, HK6.out]
        exact hk2
      obtain ⟨tl, htl⟩ : ∃ tl, t.length = tl := ⟨_, rfl⟩
      obtain ⟨kz, hkz⟩ : ∃ kz, sizes (L.take k) = kz := ⟨_, rfl⟩
      have hf9l : f9.b.length = kz + tl := by rw [hb9, List.length_append, flatB_len, hkz, htl]
      have hnn9 : D9.nm.length = 1 := by rw [hn9]; exact HNN6.out.1
      have hu9 : D9.used = kz + tl := by rw [used_one (nm_one hl9 hnn9) (look_some hl9).2, hf9l]
      have hle9 : kz + tl ≤ 1048576 := by
        have h1 : f9.b.length ≤ f6.b.length := by
          rw [hf9]
          show (f6.b.take _).length ≤ _
          rw [List.length_take]; omega
        omega
      have hr9' : D9.room = 1048576 := by rw [hr9]; exact HR6.out.1
      obtain ⟨xe, hxe⟩ : ∃ z, endOf ((3 : Nat) : Int) (L.take k) = z := ⟨_, rfl⟩
      have HK : Hid ((t = [] ∨ RdBad S (errAt W) W.heap.size t) ∧ t.length = tl ∧ sizes (L.take k) = kz ∧ f9.b = flatB (L.take k) ++ t ∧ f9.b.length = kz + tl ∧ endOf ((3 : Nat) : Int) (L.take k) = xe) := ⟨hk3, htl, hkz, hb9, hf9l, hxe⟩
      have HI9 := Lib.hid hI9
      have HL9 := Lib.hid hl9
      have HN9 : Hid (D9.nm.length = 1 ∧ D9.kp = D9.nm ∧ D9.used = kz + tl ∧ D9.room = 1048576) := ⟨hnn9, hkp9.trans hn9.symm, hu9, hr9'⟩
      have HD9 := Lib.hid hD9
      have H9 := Lib.hid hH9
      have HS9 := Lib.hid (HS12.out.trans hs9)
      have hxlo : lo ≤ xe := by rw [← HLO.out, ← hxe]; exact end_mono HCH.out j k hjk
      have hxen : xe ≤ en := by
        have h1 := end_mono HCH.out k L.length hk1
        rw [List.take_length, HEN.out, hxe] at h1
        exact h1
      clear hp92 hfl6 hk1 hk2 hk3 hk4 hk5 hI9 hl9 hn9 hkp9 hr9 hD9e hD9 hf9 hb9 htl hkz hf9l hnn9 hu9 hr9' hxe hH9 hs9 hp9
      go_wp2_with fail
      have hlit : str (segNm 3) = Value.string { data := #[108, 111, 103, 45, 48, 48, 48, 48, 48, 48, 48, 48, 48, 48, 48, 48, 51] } := by kernel_rfl
      have hlen9 := dlen_hp (C.sub (HS3.out.trans HS9.out)) HD9.out H9.out (segNm 3) (by simp [segNm_len]) f9.blk (HI9.out.file_ok HL9.out) f9 (look_some HL9.out).2
      rw [hlit] at hlen9
      refine hlen9.mono ?_
      rintro e w16 ⟨rfl, hH16⟩
      obtain ⟨nl, hnl⟩ : ∃ z, f9.b.length = z := ⟨_, rfl⟩
      rw [hnl]
      have hnl2 : nl = kz + tl := by rw [← hnl]; exact HK.out.2.2.2.2.1
      have HNL := Lib.hid hnl2
      have H16 := Lib.hid hH16
      have hnl3 : nl ≤ 1048576 := by omega
      have hkz3 : kz ≤ 1048576 := by omega
      have htl3 : tl ≤ 1048576 := by omega
      clear hlen9 hlit hnl hnl2 hH16
      go_wp2_with fail
      refine (sopen_torn (C.sub (HS3.out.trans HS9.out)) HD9.out HI9.out 3 (by decide) 100 (by decide) (by decide) f9 HL9.out (by have := HN9.out.2.2.2; omega) (by have := HN9.out.2.2.2; have := HN9.out.2.2.1; omega) (L.take k) t HK.out.2.2.2.1 (fun x hx => HOK.out x (List.mem_of_mem_take hx)) HK.out.1 (HCHJ.out k) H16.out).mono ?_
      rintro e w17 ⟨s10, P10, As10, A10, D10, rfl, hs10, hG10, hD10, hO10, hsm10, hus10, -, hH10⟩
      rw [HK.out.2.1]
      have hen10 : Sg.end_ ⟨d, segNm 3, 3, 100, L.take k, sizes (L.take k)⟩ = xe := HK.out.2.2.2.2.2
      have hsz10 : sizes (Sg.l ⟨d, segNm 3, 3, 100, L.take k, sizes (L.take k)⟩) = kz := HK.out.2.2.1
      have hsy10 : synF (Sg.kept ⟨d, segNm 3, 3, 100, L.take k, sizes (L.take k)⟩) ((Sg.base ⟨d, segNm 3, 3, 100, L.take k, sizes (L.take k)⟩ : Nat) : Int) (Sg.l ⟨d, segNm 3, 3, 100, L.take k, sizes (L.take k)⟩) = xe := by
        show synF (sizes (L.take k)) ((3 : Nat) : Int) (L.take k) = xe
        rw [synF_all]; exact HK.out.2.2.2.2.2
      have HEN10 := Lib.hid hen10
      have HSZ10 := Lib.hid hsz10
      have HSY10 := Lib.hid hsy10
      have hG10' : SgM s10 ⟨d, segNm 3, 3, 100, L.take k, sizes (L.take k)⟩ As10 := hG10
      have HG10 := Lib.hid hG10'
      have HD10 := Lib.hid hD10
      have HO10 := Lib.hid hO10
      have HS10 := Lib.hid (HS9.out.trans hs10)
      obtain ⟨F10, hF10⟩ : ∃ F, F = A12 ++ ([] : Mm) := ⟨_, rfl⟩
      rw [← hF10] at hH10
      have H10 := Lib.hid hH10
      have hb1 : ¬ xe < lo := by omega
      have hb2 : ¬ en < xe := by omega
      have hb3 : (kz : Int) + (tl : Int) = (nl : Int) := by have := HNL.out; omega
      clear hen10 hsz10 hsy10 hG10 hG10' hD10 hO10 hs10 hsm10 hus10 hH10 hF10 hxlo hxen
      go_wp2_with fail
      refine (end_any HG10.out HO10.out.W H10.out).mono ?_
      rintro e w18 ⟨rfl, hH18⟩
      rw [HEN10.out]
      have H18 := Lib.hid hH18
      clear hH18
      go_wp2_with fail
      refine (end_any HG10.out HO10.out.W H18.out).mono ?_
      rintro e w19 ⟨rfl, hH19⟩
      rw [HEN10.out]
      have H19 := Lib.hid hH19
      clear hH19
      go_wp2_with fail
      refine (ssize_any HG10.out HO10.out.W H19.out).mono ?_
      rintro e w20 ⟨rfl, hH20⟩
      rw [HSZ10.out]
      have H20 := Lib.hid hH20
      clear hH20
      go_wp2_with fail
      refine (ssynced_ok HG10.out HO10.out.W H20.out).mono ?_
      rintro e w21 ⟨rfl, hH21⟩
      rw [HSY10.out]
      have H21 := Lib.hid hH21
      clear hH21
      go_wp2_with fail
      refine (end_any HG10.out HO10.out.W H21.out).mono ?_
      rintro e w22 ⟨rfl, hH22⟩
      rw [HEN10.out]
      have H22 := Lib.hid hH22
      clear hH22
      go_wp2_with fail
      clear hb3
      go_loopg [19] k (fun m vk wr => ∃ i : Nat, i + m = k ∧ vk = .int .i64 i ∧ Hp wr P10 (As10 ++ (A10 ++ F10)))
      case atStart => exact ⟨0, by omega, rfl, H22.out⟩
      case round =>
        obtain ⟨i, hi, rfl, hHr⟩ := hrel
        by_cases hlt : i < n
        · have hil : i < L.length := by rw [HN.out]; exact hlt
          have hio : i < out2.length := by rw [HON.out]; exact hlt
          obtain ⟨gl, ol, cap, hvv, hcp, hbc⟩ := HB23.out.at_ hio
          simp only [Value.slice.injEq] at hvv
          obtain ⟨rfl, -, rfl⟩ := hvv
          have hx : (out2[i]'hio).1 = L[i] := by have := HM2.out; subst this; simp
          obtain ⟨x, hxd⟩ : ∃ x, x = L[i] := ⟨_, rfl⟩
          obtain ⟨p2, hp2⟩ : ∃ p2, (out2[i]'hio).2 = p2 := ⟨_, rfl⟩
          rw [show out2[i]'hio = (x, p2) from Prod.ext (hx.trans hxd.symm) hp2] at hbc
          obtain ⟨-, c0, c1, c2, hrc⟩ := hHr.use (hbc.sub HS10.out)
          obtain ⟨ra, rc, hrs⟩ := hrc.shape
          obtain rfl : p2 = .slice ra x.r.length rc := hrs
          have hbt : BtV wr (.agg #[.int .i64 x.b, .int .i64 x.e, .slice ra x.r.length rc]) x := ⟨_, rfl, hrc⟩
          obtain ⟨hxo, -⟩ := HOK.out x (by rw [hxd]; exact List.getElem_mem hil)
          have hnb := hxo.b0
          have hnt := hxo.b1
          have hnr := hxo.n64
          obtain ⟨nx, hnx⟩ : ∃ z, x.b + (x.r.length : Int) = z := ⟨_, rfl⟩
          have hne : endOf ((3 : Nat) : Int) (L.take (i + 1)) = nx := by rw [take_next L i hil, endOf_snoc, ← hxd]; exact hnx
          have hcmp : (i < k → nx ≤ xe) ∧ (¬ i < k → xe < nx) := by
            refine ⟨fun h => ?_, fun h => ?_⟩
            · have h1 := end_mono HCH.out (i + 1) k h
              rw [hne, HK.out.2.2.2.2.2] at h1
              exact h1
            · have h1 := (chain_at HCH.out i hil).1
              have h2 : i = k := by omega
              rw [← hxd] at h1
              rw [h2, HK.out.2.2.2.2.2] at h1
              have h3 := HR1.out x (by rw [hxd]; exact List.getElem_mem hil)
              omega
          have j1 : (i : Int) < (n : Int) := by omega
          have j2 : (0 : Int) ≤ (i : Int) := by omega
          have HBT := Lib.hid hbt
          have HR := Lib.hid hHr
          have HNX := Lib.hid hnx
          clear hHr hbc hrc hx hxd hbt hne hnx
          by_cases hik : i < k
          · obtain ⟨gj, rfl⟩ : ∃ x, gk = x + 1 := ⟨gk - 1, by omega⟩
            have q1 : nx ≤ xe := hcmp.1 hik
            clear hcmp
            go_wp2_with fail
            refine (rnext_any x (by omega) (by omega) (by omega) _ _ HBT.out).mono ?_
            rintro e wa ⟨rfl, hba⟩
            rw [HNX.out]
            have HA := Lib.hid (HR.out.below hba (Nat.le_refl _))
            clear hba
            go_wp2_with fail
            refine (end_any HG10.out HO10.out.W HA.out).mono ?_
            rintro e wb ⟨rfl, hHb⟩
            rw [HEN10.out]
            have HBB := Lib.hid hHb
            clear hHb
            go_wp2_with fail
            go_roundg gj
            case measure => omega
            case rel => exact ⟨i + 1, by omega, by simp, HBB.out⟩
          · have q1 : ¬ nx ≤ xe := by have := hcmp.2 hik; omega
            have hki : k = i := by omega
            subst hki
            clear hcmp hik
            go_wp2_with fail
            refine (rnext_any x (by omega) (by omega) (by omega) _ _ HBT.out).mono ?_
            rintro e wa ⟨rfl, hba⟩
            rw [HNX.out]
            have HA := Lib.hid (HR.out.below hba (Nat.le_refl _))
            clear hba
            go_wp2_with fail
            refine (end_any HG10.out HO10.out.W HA.out).mono ?_
            rintro e wz ⟨rfl, hHz⟩
            rw [HEN10.out]
            have HZ := Lib.hid hHz
            clear hHz hnb hnt hnr
            have hbk := HB23.out.take k (by rw [HON.out]; exact hkn)
            have hmk : (out2.take k).map (·.1) = L.take k := by rw [List.map_take, HM2.out]
            have hrk := hbk.read
            rw [hmk] at hrk
            have HSK := Lib.hid hrk
            have hkc : k ≤ vc := by omega
            have hkc2 : (k : Int) ≤ (vc : Int) := by omega
            clear hbk hmk hrk
            by_cases hk0 : 0 < k
            · have hk1 : (0 : Int) < (k : Int) := by omega
              have h3e : (3 : Int) < Sg.end_ ⟨d, segNm 3, 3, 100, L.take k, sizes (L.take k)⟩ := by
                rw [HEN10.out]
                have h0 : 0 < L.length := by rw [HN.out]; omega
                have g1 := (chain_at HCH.out 0 h0).1
                have g2 := HR1.out _ (List.getElem_mem h0)
                have g3 := end_mono HCH.out 1 k hk0
                rw [take_next L 0 h0, endOf_snoc, HK.out.2.2.2.2.2] at g3
                have g4 : endOf ((3 : Nat) : Int) (L.take 0) = 3 := rfl
                rw [g4] at g1
                omega
              have H3E := Lib.hid h3e
              clear h3e
              go_wp2_with fail
              refine (sread_on (C.sub (HS3.out.trans HS10.out)) HG10.out HO10.out HD10.out 3 1048576 (by show ((3 : Nat) : Int) ≤ 3; omega) H3E.out (by omega) (by omega) HZ.out).mono ?_
              rintro e w25 ⟨v25, out25, PQ, rfl, hs25, hm25, hb25, hH25⟩
              have hm25b : out25.map (·.1) = L.take k := by
                rw [hm25]
                have := rdGo_all 3 1048576 (L.take k) [] 0 ((3 : Nat) : Int) 0 (HCHJ.out k) (by omega) (fun x hx => HR1.out x (List.mem_of_mem_take hx)) (by have := HSZJ.out k hkn; omega)
                rwa [List.nil_append] at this
              have hr25 := hb25.read
              rw [hm25b] at hr25
              obtain ⟨ua, uc, rfl, -⟩ := hb25.shape
              have HAV := Lib.hid hr25
              have HQ := Lib.hid hH25
              have HSQ := Lib.hid hs25
              clear hs25 hm25 hm25b hb25 hH25 hr25
              go_wp2_with fail
              refine (sopen_on (C.sub (HS3.out.trans (HS10.out.trans HSQ.out))) (HD10.out.sub HSQ.out) 3 100 (by decide) (by decide) (L.take k) (sizes (L.take k)) HO10.out (HCHJ.out k) (Hp.mid HQ.out)).mono ?_
              rintro e w30 ⟨s30, P30, As30, A30, D30, rfl, hs30, hG30, hD30, hO30, -, -, -, hH30⟩
              have hG30' : SgM s30 ⟨d, segNm 3, 3, 100, L.take k, sizes (L.take k)⟩ As30 := hG30
              have HG30 := Lib.hid hG30'
              have HO30 := Lib.hid hO30
              have hra := hH30.use (HAV.out.sub hs30)
              have hrb := hH30.use (HSK.out.sub (HS10.out.trans (HSQ.out.trans hs30)))
              have HRA := Lib.hid hra
              have HRB := Lib.hid hrb
              have H30 := Lib.hid hH30
              have HS30 := Lib.hid (HSQ.out.trans hs30)
              clear hG30 hG30' hD30 hO30 hra hrb hH30 hs30
              go_wp2_with fail
              refine (samebatches_ok HRA.out HRB.out (by rw [List.length_take]; omega) (fun x hx => (HOK.out x (List.mem_of_mem_take hx)).1.sm)).mono ?_
              rintro e w31 ⟨rfl, hb31⟩
              have H31 := Lib.hid (H30.out.below hb31 (Nat.le_refl _))
              clear hb31
              go_wp2_with fail
              refine (end_any HG30.out HO30.out.W H31.out).mono ?_
              rintro e w32 ⟨rfl, hH32⟩
              rw [HEN10.out]
              have hH33 := Hp.mid (A := As30 ++ A30) (B := As10) (C := F10) (by rw [List.append_assoc]; exact hH32)
              have H33 := Lib.hid hH33
              clear hH32 hH33
              go_wp2_with fail
              refine (end_any HG10.out HO10.out.W H33.out).mono ?_
              rintro e w34 ⟨rfl, hH34⟩
              rw [HEN10.out]
              have HB34 := Lib.hid (hH34.to_below (HS3.out.trans (HS10.out.trans HS30.out)))
              clear hH34
              go_wp2_with fail
              go_ret
              exact ⟨by simp, HB34.out⟩
            · have hk1 : ¬ (0 : Int) < (k : Int) := by omega
              obtain ⟨PQ, hPQ⟩ : ∃ PQ, PQ = P10 := ⟨_, rfl⟩
              have hz := HZ.out
              rw [← hPQ] at hz
              have HQ := Lib.hid hz
              clear hz
              have HSQ : Hid (Sub P10 PQ) := by rw [hPQ]; exact Sub.refl P10
              have HAV : Hid (Pers PQ (fun w => BtsR w (.slice none 0 0) (L.take k))) := by
                have e : L.take k = [] := by rw [show k = 0 by omega]; rfl
                rw [e]
                exact fun w hw => .inl ⟨rfl, rfl⟩
              clear hPQ
              go_wp2_with fail
              refine (sopen_on (C.sub (HS3.out.trans (HS10.out.trans HSQ.out))) (HD10.out.sub HSQ.out) 3 100 (by decide) (by decide) (L.take k) (sizes (L.take k)) HO10.out (HCHJ.out k) (Hp.mid HQ.out)).mono ?_
              rintro e w30 ⟨s30, P30, As30, A30, D30, rfl, hs30, hG30, hD30, hO30, -, -, -, hH30⟩
              have hG30' : SgM s30 ⟨d, segNm 3, 3, 100, L.take k, sizes (L.take k)⟩ As30 := hG30
              have HG30 := Lib.hid hG30'
              have HO30 := Lib.hid hO30
              have hra := hH30.use (HAV.out.sub hs30)
              have hrb := hH30.use (HSK.out.sub (HS10.out.trans (HSQ.out.trans hs30)))
              have HRA := Lib.hid hra
              have HRB := Lib.hid hrb
              have H30 := Lib.hid hH30
              have HS30 := Lib.hid (HSQ.out.trans hs30)
              clear hG30 hG30' hD30 hO30 hra hrb hH30 hs30
              go_wp2_with fail
              refine (samebatches_ok HRA.out HRB.out (by rw [List.length_take]; omega) (fun x hx => (HOK.out x (List.mem_of_mem_take hx)).1.sm)).mono ?_
              rintro e w31 ⟨rfl, hb31⟩
              have H31 := Lib.hid (H30.out.below hb31 (Nat.le_refl _))
              clear hb31
              go_wp2_with fail
              refine (end_any HG30.out HO30.out.W H31.out).mono ?_
              rintro e w32 ⟨rfl, hH32⟩
              rw [HEN10.out]
              have hH33 := Hp.mid (A := As30 ++ A30) (B := As10) (C := F10) (by rw [List.append_assoc]; exact hH32)
              have H33 := Lib.hid hH33
              clear hH32 hH33
              go_wp2_with fail
              refine (end_any HG10.out HO10.out.W H33.out).mono ?_
              rintro e w34 ⟨rfl, hH34⟩
              rw [HEN10.out]
              have HB34 := Lib.hid (hH34.to_below (HS3.out.trans (HS10.out.trans HS30.out)))
              clear hH34
              go_wp2_with fail
              go_ret
              exact ⟨by simp, HB34.out⟩
        · have hki : k = i := by omega
          subst hki
          have HZ := Lib.hid hHr
          clear hHr
          have hbk := HB23.out.take k (by rw [HON.out]; exact hkn)
          have hmk : (out2.take k).map (·.1) = L.take k := by rw [List.map_take, HM2.out]
          have hrk := hbk.read
          rw [hmk] at hrk
          have HSK := Lib.hid hrk
          have hkc : k ≤ vc := by omega
          have hkc2 : (k : Int) ≤ (vc : Int) := by omega
          clear hbk hmk hrk
          by_cases hk0 : 0 < k
          · have hk1 : (0 : Int) < (k : Int) := by omega
            have h3e : (3 : Int) < Sg.end_ ⟨d, segNm 3, 3, 100, L.take k, sizes (L.take k)⟩ := by
              rw [HEN10.out]
              have h0 : 0 < L.length := by rw [HN.out]; omega
              have g1 := (chain_at HCH.out 0 h0).1
              have g2 := HR1.out _ (List.getElem_mem h0)
              have g3 := end_mono HCH.out 1 k hk0
              rw [take_next L 0 h0, endOf_snoc, HK.out.2.2.2.2.2] at g3
              have g4 : endOf ((3 : Nat) : Int) (L.take 0) = 3 := rfl
              rw [g4] at g1
              omega
            have H3E := Lib.hid h3e
            clear h3e
            go_wp2_with fail
            refine (sread_on (C.sub (HS3.out.trans HS10.out)) HG10.out HO10.out HD10.out 3 1048576 (by show ((3 : Nat) : Int) ≤ 3; omega) H3E.out (by omega) (by omega) HZ.out).mono ?_
            rintro e w25 ⟨v25, out25, PQ, rfl, hs25, hm25, hb25, hH25⟩
            have hm25b : out25.map (·.1) = L.take k := by
              rw [hm25]
              have := rdGo_all 3 1048576 (L.take k) [] 0 ((3 : Nat) : Int) 0 (HCHJ.out k) (by omega) (fun x hx => HR1.out x (List.mem_of_mem_take hx)) (by have := HSZJ.out k hkn; omega)
              rwa [List.nil_append] at this
            have hr25 := hb25.read
            rw [hm25b] at hr25
            obtain ⟨ua, uc, rfl, -⟩ := hb25.shape
            have HAV := Lib.hid hr25
            have HQ := Lib.hid hH25
            have HSQ := Lib.hid hs25
            clear hs25 hm25 hm25b hb25 hH25 hr25
            go_wp2_with fail
            refine (sopen_on (C.sub (HS3.out.trans (HS10.out.trans HSQ.out))) (HD10.out.sub HSQ.out) 3 100 (by decide) (by decide) (L.take k) (sizes (L.take k)) HO10.out (HCHJ.out k) (Hp.mid HQ.out)).mono ?_
            rintro e w30 ⟨s30, P30, As30, A30, D30, rfl, hs30, hG30, hD30, hO30, -, -, -, hH30⟩
            have hG30' : SgM s30 ⟨d, segNm 3, 3, 100, L.take k, sizes (L.take k)⟩ As30 := hG30
            have HG30 := Lib.hid hG30'
            have HO30 := Lib.hid hO30
            have hra := hH30.use (HAV.out.sub hs30)
            have hrb := hH30.use (HSK.out.sub (HS10.out.trans (HSQ.out.trans hs30)))
            have HRA := Lib.hid hra
            have HRB := Lib.hid hrb
            have H30 := Lib.hid hH30
            have HS30 := Lib.hid (HSQ.out.trans hs30)
            clear hG30 hG30' hD30 hO30 hra hrb hH30 hs30
            go_wp2_with fail
            refine (samebatches_ok HRA.out HRB.out (by rw [List.length_take]; omega) (fun x hx => (HOK.out x (List.mem_of_mem_take hx)).1.sm)).mono ?_
            rintro e w31 ⟨rfl, hb31⟩
            have H31 := Lib.hid (H30.out.below hb31 (Nat.le_refl _))
            clear hb31
            go_wp2_with fail
            refine (end_any HG30.out HO30.out.W H31.out).mono ?_
            rintro e w32 ⟨rfl, hH32⟩
            rw [HEN10.out]
            have hH33 := Hp.mid (A := As30 ++ A30) (B := As10) (C := F10) (by rw [List.append_assoc]; exact hH32)
            have H33 := Lib.hid hH33
            clear hH32 hH33
            go_wp2_with fail
            refine (end_any HG10.out HO10.out.W H33.out).mono ?_
            rintro e w34 ⟨rfl, hH34⟩
            rw [HEN10.out]
            have HB34 := Lib.hid (hH34.to_below (HS3.out.trans (HS10.out.trans HS30.out)))
            clear hH34
            go_wp2_with fail
            go_ret
            exact ⟨by simp, HB34.out⟩
          · have hk1 : ¬ (0 : Int) < (k : Int) := by omega
            obtain ⟨PQ, hPQ⟩ : ∃ PQ, PQ = P10 := ⟨_, rfl⟩
            have hz := HZ.out
            rw [← hPQ] at hz
            have HQ := Lib.hid hz
            clear hz
            have HSQ : Hid (Sub P10 PQ) := by rw [hPQ]; exact Sub.refl P10
            have HAV : Hid (Pers PQ (fun w => BtsR w (.slice none 0 0) (L.take k))) := by
              have e : L.take k = [] := by rw [show k = 0 by omega]; rfl
              rw [e]
              exact fun w hw => .inl ⟨rfl, rfl⟩
            clear hPQ
            go_wp2_with fail
            refine (sopen_on (C.sub (HS3.out.trans (HS10.out.trans HSQ.out))) (HD10.out.sub HSQ.out) 3 100 (by decide) (by decide) (L.take k) (sizes (L.take k)) HO10.out (HCHJ.out k) (Hp.mid HQ.out)).mono ?_
            rintro e w30 ⟨s30, P30, As30, A30, D30, rfl, hs30, hG30, hD30, hO30, -, -, -, hH30⟩
            have hG30' : SgM s30 ⟨d, segNm 3, 3, 100, L.take k, sizes (L.take k)⟩ As30 := hG30
            have HG30 := Lib.hid hG30'
            have HO30 := Lib.hid hO30
            have hra := hH30.use (HAV.out.sub hs30)
            have hrb := hH30.use (HSK.out.sub (HS10.out.trans (HSQ.out.trans hs30)))
            have HRA := Lib.hid hra
            have HRB := Lib.hid hrb
            have H30 := Lib.hid hH30
            have HS30 := Lib.hid (HSQ.out.trans hs30)
            clear hG30 hG30' hD30 hO30 hra hrb hH30 hs30
            go_wp2_with fail
            refine (samebatches_ok HRA.out HRB.out (by rw [List.length_take]; omega) (fun x hx => (HOK.out x (List.mem_of_mem_take hx)).1.sm)).mono ?_
            rintro e w31 ⟨rfl, hb31⟩
            have H31 := Lib.hid (H30.out.below hb31 (Nat.le_refl _))
            clear hb31
            go_wp2_with fail
            refine (end_any HG30.out HO30.out.W H31.out).mono ?_
            rintro e w32 ⟨rfl, hH32⟩
            rw [HEN10.out]
            have hH33 := Hp.mid (A := As30 ++ A30) (B := As10) (C := F10) (by rw [List.append_assoc]; exact hH32)
            have H33 := Lib.hid hH33
            clear hH32 hH33
            go_wp2_with fail
            refine (end_any HG10.out HO10.out.W H33.out).mono ?_
            rintro e w34 ⟨rfl, hH34⟩
            rw [HEN10.out]
            have HB34 := Lib.hid (hH34.to_below (HS3.out.trans (HS10.out.trans HS30.out)))
            clear hH34
            go_wp2_with fail
            go_ret
            exact ⟨by simp, HB34.out⟩
end Go.Proofs.YtlkkagjpapjehaaGreatDoor.Sg

/-! SegRecoversRow -/
namespace Go.Proofs.YtlkkagjpapjehaaGreatDoor.segRecovers
open Go.ChangeShapes Go.WideShapes Go.ChangeAt Go.RowKit
open Go.Proofs.YtlkkagjpapjehaaGreatDoor.Sg
set_option linter.unusedVariables false

theorem own : ownKnob Tryz.prog.godebug = none := by kernel_rfl
theorem laidOut : laidOutB Tryz.prog = true := by kernel_rfl

theorem door_met (os : Os) (args : Array Value) : laidMetH Tryz.prog Rows.segRecoversRow.laid ((World.doorLaid Tryz.prog 400 os).forCall (fun _ _ => 0) ⟨#[], args, []⟩).memory :=
  laidMetH_of_parts3 (fuel := 8) (laidMet_of_run' 8 (by kernel_rfl) (by kernel_rfl)) (by kernel_rfl) (by kernel_rfl)

theorem reads (os : Os) {H : Type} (enc : TypeId × Value → H) : ∃ places, DataW.whole enc Tryz.prog ((World.doorLaid Tryz.prog 400 os).forCall (fun _ _ => 0) ⟨#[], #[.slice none 0 0, .int .i64 0, .slice none 0 0], []⟩).memory Tryz.f9.params.toList Rows.segRecoversSpec.vars false (#[.slice none 0 0, .int .i64 0, .slice none 0 0] : Array Value).toList 8 = some ([.nil, .lit (.int .i64 0), .nil], [], places) :=
  ⟨[], by kernel_rfl⟩

set_option maxRecDepth 100000 in
theorem contract (H : Type) (enc : TypeId × Value → H) (W : World) (base : Nat) (args : Array Value) (ds gs : List (DataW H)) (before : List MemPlace)
    (hval0 : ∀ (j : Nat) t v, Tryz.f9.params[j]? = some t → args[j]? = some v → Value.okWide Tryz.prog W .any base t v)
    (hW : DataW.Whole enc Tryz.prog Tryz.f9.params.toList Rows.segRecoversSpec.vars false W args.toList ds gs before) (hL : laidMetH Tryz.prog Rows.segRecoversRow.laid W) (hsh : W.ShapedOpen Tryz.prog) :
    Calls Tryz.prog 9 args W fun e W' => ∃ v, e = .returned v ∧ Rows.segRecoversSpec.post enc Tryz.prog Tryz.f9 false true false false W args v W' := by
  have hval : ∀ (j : Nat) t v, Tryz.f9.params[j]? = some t → args[j]? = some v → Value.okWide Tryz.prog W .any base t v := hval0
  have hW' := hW
  obtain ⟨p, q, hA0, hV, rfl, hfz, hnd⟩ := hW
  have hA : DataW.TrodAll enc Tryz.prog W 0 (fun _ => true) true Tryz.f9.params.toList args.toList ds p := hA0
  rw [Tryz.params9] at hA hval
  obtain ⟨v0, vs0, d0, ds0, p0, q0, hargs, rfl, rfl, h0, r0⟩ := trodAll_cons hA
  obtain ⟨v1, vs1, d1, ds1, p1, q1, rfl, rfl, rfl, h1, r1⟩ := trodAll_cons r0
  obtain ⟨v2, vs2, d2, ds2, p2, q2, rfl, rfl, rfl, h2, r2⟩ := trodAll_cons r1
  obtain ⟨rfl, rfl, rfl⟩ := trodAll_nil r2
  obtain rfl : args = #[v0, v1, v2] := by cases args; simp_all
  obtain ⟨rfl, rfl⟩ := trodVars_none hV
  obtain ⟨a0, len0, cap0, rfl⟩ := okWide_slice Tryz.underlying22 (hval 0 22 v0 rfl rfl)
  have k0 := h0
  have lt0 : ∀ x ∈ p0, x.block < W.heap.size := by obtain ⟨m, hm⟩ := k0; exact DataW.trod_lt m _ _ _ hm
  obtain ⟨z0, w0⟩ : ∃ zs, IsRow W a0 len0 cap0 zs := by
    obtain ⟨fuel, hf⟩ := h0
    rcases open_ints Tryz.underlying22 Tryz.underlying3 (by kernel_rfl) hf with ⟨hcs, _⟩ | ⟨x, l, c, zs, hcs, _, hl, hm, hz, _, hcell, hwz⟩
    · simp [Value.cells] at hcs
      obtain ⟨rfl, rfl, rfl⟩ := hcs
      exact ⟨[], .inl ⟨rfl, rfl, rfl, rfl⟩⟩
    · simp [Value.cells] at hcs
      obtain ⟨rfl, rfl, rfl⟩ := hcs
      exact ⟨zs, .inr ⟨_, rfl, hl, hm, by simpa using hz, hcell, hwz⟩⟩
  obtain ⟨a1, rfl, rfl, rfl, w1⟩ := open_int Tryz.underlying3 (hval 1 3 v1 rfl rfl) h1
  obtain ⟨a2, len2, cap2, rfl⟩ := okWide_slice Tryz.underlying22 (hval 2 22 v2 rfl rfl)
  have k2 := h2
  have lt2 : ∀ x ∈ p2, x.block < W.heap.size := by obtain ⟨m, hm⟩ := k2; exact DataW.trod_lt m _ _ _ hm
  obtain ⟨z2, w2⟩ : ∃ zs, IsRow W a2 len2 cap2 zs := by
    obtain ⟨fuel, hf⟩ := h2
    rcases open_ints Tryz.underlying22 Tryz.underlying3 (by kernel_rfl) hf with ⟨hcs, _⟩ | ⟨x, l, c, zs, hcs, _, hl, hm, hz, _, hcell, hwz⟩
    · simp [Value.cells] at hcs
      obtain ⟨rfl, rfl, rfl⟩ := hcs
      exact ⟨[], .inl ⟨rfl, rfl, rfl, rfl⟩⟩
    · simp [Value.cells] at hcs
      obtain ⟨rfl, rfl, rfl⟩ := hcs
      exact ⟨zs, .inr ⟨_, rfl, hl, hm, by simpa using hz, hcell, hwz⟩⟩
  have hL0 := hL
  rw [MakeChecks.laidMetH_plain _ _ _ (by kernel_rfl)] at hL0
  obtain ⟨hT, hE⟩ := laid11 (W := W) hL0 (Er.gmax_le hsh)
  clear hA0 hval0
  refine (recovers_all a0 len0 cap0 z0 a1 a2 len2 cap2 z2 W w0 w2 l11_all hE hT).mono fun e W' ⟨he, bel⟩ => ?_
  subst he
  exact ⟨_, rfl, _, _, _, [], _, [], hW', trodAll_mk1 (shut_bool Tryz.underlying4 _), (trodAll_cons_mk (Below.trod laidOut (by kernel_rfl) (of_decide_eq_true (by kernel_rfl)) k0 bel lt0) (trodAll_cons_mk (shut_int Tryz.underlying3 w1) (trodAll_cons_mk (Below.trod laidOut (by kernel_rfl) (of_decide_eq_true (by kernel_rfl)) k2 bel lt2) trodAll_mk0))), rfl, bel.frame _, fun h => by cases h⟩

set_option maxRecDepth 100000 in
theorem lifted (os : Os) (started : os.Started) (H : Type) (enc : TypeId × Value → H) (F : Stop.Interp) :
    ReturnsInHanded {} Tryz.checked os 9 .any ((OpenSpec.ofChange Rows.segRecoversSpec).preRow enc Tryz.prog Tryz.f9 Rows.segRecoversRow.domain false Rows.segRecoversRow.laid) (((OpenSpec.ofChange Rows.segRecoversSpec).at F).post enc Tryz.prog Tryz.f9 false true false false) := by
  obtain ⟨places, hx⟩ := reads os enc
  refine returnsInHanded_of_row (C := Tryz.checked) (s := OpenSpec.ofChange Rows.segRecoversSpec) own started (by kernel_rfl) Tryz.func9
    (witness_row_atRef (enc := enc) (C := Tryz.checked) false (World.doorLaid Tryz.prog 400 os) #[.slice none 0 0, .int .i64 0, .slice none 0 0] rfl (by kernel_rfl) (by kernel_rfl) (by kernel_rfl)
      (OpenSpec.preRow_of_cond 8 hx (by kernel_rfl) (fun k hk => by cases hk) (by kernel_rfl) (door_met os _))) ?_
  intro W base args ds gs before hval hW _ _ _ hL hsh _
  exact contract H enc W base args ds gs before hval hW hL hsh

theorem said : Rows.SegRecoversSaid :=
  OpenClaim.holds_of_cond 9 Tryz.f9 rfl rfl rfl rfl rfl rfl rfl ⟨rfl, rfl, rfl, rfl, rfl⟩ rfl rfl rfl rfl rfl (by kernel_rfl) Tryz.func9 (by kernel_rfl)
    (of_decide_eq_true (by kernel_rfl)) (by unfold Func.isWrapper; rw [if_neg (of_decide_eq_false (by kernel_rfl))]; exact ⟨rfl, rfl⟩)
    (fun os started H enc _ F => by rw [OpenClaim.pre_eq_preRow]; exact lifted os started H enc F)

theorem plain (f : FuncId) (fn : Func) (hf : Tryz.pinned.checked.prog.funcNamed "cordwood/cordwoodlaw7.SegRecovers" = some f) (hfn : Tryz.pinned.checked.prog.funcs[f]? = some fn) :
    true = Tryz.pinned.checked.prog.looks [] ∧ ∀ (j : Nat) t, fn.params[j]? = some t → Tryz.pinned.checked.prog.wantsStandIn t = false := by
  obtain rfl : f = 9 := Option.some.inj ((show Tryz.prog.funcNamed "cordwood/cordwoodlaw7.SegRecovers" = some 9 by kernel_rfl).symm.trans hf) |>.symm
  obtain rfl : fn = Tryz.f9 := (Option.some.inj (Tryz.func9.symm.trans hfn)).symm
  refine ⟨by kernel_rfl, fun j t ht => ?_⟩
  rw [Tryz.params9] at ht
  have hm := Array.mem_of_getElem? ht
  have hm := Array.mem_of_getElem? ht
  have ht2 : t = 22 ∨ t = 3 := by
    simp at hm
    rcases hm with h | h | h <;> simp [h]
  rcases ht2 with rfl | rfl
  · exact (show Tryz.prog.wantsStandIn 22 = false by kernel_rfl)
  · exact (show Tryz.prog.wantsStandIn 3 = false by kernel_rfl)

/-- THE CARD -/
theorem card : Rows.SegRecoversCardSaid :=
  Claim7.holds_tied_plain_at .later [] _ _ _ _ said (fun _ h => by cases h) (by kernel_rfl) (fun _ h => by cases h) segRecovers_row_tie rfl ⟨rfl, rfl⟩ (by kernel_rfl) rfl plain (by kernel_rfl)
#print axioms card
end Go.Proofs.YtlkkagjpapjehaaGreatDoor.segRecovers
