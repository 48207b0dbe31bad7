/- cordwoodworld.Number, Long; SameBytes, SameRecord, SameRecords, SameBatch, SameBatches of the same. SameRecords, SameBatch, SameBatches of the same. Slices of batches that are read; there for good; SameBatches. Row's batches: plain. cordwoodworld.Row. The reference's Little, Put, PutInt, More, Sum. The reference's Valid. The reference's Batch and Size. -/
import Derived.Test.YtncjffkpkmjgkaaGreatDoorMd

/-! Nu -/
namespace Go.Proofs.YtncjffkpkmjgkaaGreatDoor.Sg
open Go.RowKit Er Go.Maps

theorem tmod_emod (a m : Int) (h0 : 0 < m) : -m < Int.tmod a m ∧ Int.tmod a m < m ∧ (Int.tmod a m < 0 → Int.tmod a m + m = a % m) ∧ (¬ Int.tmod a m < 0 → Int.tmod a m = a % m) := by
  rcases Int.lt_or_le a 0 with h | h
  · have e : Int.tmod a m = -((-a) % m) := by
      have e1 := Int.neg_tmod (-a) m
      rw [Int.neg_neg] at e1
      rw [e1, Int.tmod_eq_emod_of_nonneg (by omega)]
    have b1 := Int.emod_nonneg (-a) (show m ≠ 0 by omega)
    have b2 := Int.emod_lt_of_pos (-a) h0
    have e2 : a % m = if (-a) % m = 0 then 0 else m - (-a) % m := by
      rw [show a = - - a from by omega, Int.neg_emod]
      simp only [Int.neg_neg]
      by_cases hz : -a % m = 0
      · rw [if_pos (Int.dvd_of_emod_eq_zero hz), if_pos hz]
      · rw [if_neg (fun hd => hz (Int.emod_eq_zero_of_dvd hd)), if_neg hz]
        rw [Int.natAbs_of_nonneg (by omega)]
    rw [e, e2]
    refine ⟨by omega, by omega, ?_, ?_⟩
    · intro hh
      rw [if_neg (by omega)]; omega
    · intro hh
      rw [if_pos (by omega)]; omega
  · rw [Int.tmod_eq_emod_of_nonneg h]
    have b1 := Int.emod_nonneg a (show m ≠ 0 by omega)
    have b2 := Int.emod_lt_of_pos a h0
    exact ⟨by omega, b2, by omega, fun _ => rfl⟩

theorem long_any (a : Int) (m : Int) (h0 : 0 < m) (h1 : m ≤ 1000000000000) (w : World) :
    Calls Tryz.prog 8 #[.int .i64 a, .int .i64 m] w fun e w' => e = .returned (.int .i64 (a % m)) ∧ w = w' := by
  obtain ⟨b1, b2, b3, b4⟩ := tmod_emod a m h0
  have hm : ¬ m = 0 := by omega
  have B3 := Lib.hid b3
  have B4 := Lib.hid b4
  clear b3 b4
  by_cases h : Int.tmod a m < 0
  · go_enter Tryz.func8, Tryz.ntmps8
    go_wp2_with fail
    go_ret
    exact ⟨congrArg (fun z => Ending.returned (.int .i64 z)) (B3.out h), rfl⟩
  · go_enter Tryz.func8, Tryz.ntmps8
    go_wp2_with fail
    go_ret
    exact ⟨congrArg (fun z => Ending.returned (.int .i64 z)) (B4.out h), rfl⟩
theorem number_any (a : Int) (m : Nat) (h0 : 0 < m) (h1 : m ≤ 1000000000000) (w : World) :
    Calls Tryz.prog 22 #[.int .i64 a, .int .i64 m] w fun e w' => e = .returned (.int .i64 (a % (m : Int))) ∧ w = w' := by
  obtain ⟨b1, b2, b3, b4⟩ := tmod_emod a m (by omega)
  have hm : ¬ (m : Int) = 0 := by omega
  have hm2 : ¬ m = 0 := by omega
  have B3 := Lib.hid b3
  have B4 := Lib.hid b4
  clear b3 b4
  by_cases h : Int.tmod a m < 0
  · go_enter Tryz.func22, Tryz.ntmps22
    go_wp2_with fail
    go_ret
    exact ⟨congrArg (fun z => Ending.returned (.int .i64 z)) (B3.out h), rfl⟩
  · go_enter Tryz.func22, Tryz.ntmps22
    go_wp2_with fail
    go_ret
    exact ⟨congrArg (fun z => Ending.returned (.int .i64 z)) (B4.out h), rfl⟩

set_option maxRecDepth 100000 in
set_option maxHeartbeats 400000 in
theorem samebytes_ok (v1 v2 : Value) (xs : List Nat) (w : World) (h1 : SlB w v1 xs) (h2 : SlB w v2 xs) (hl : xs.length ≤ 1099511627776) :
    Calls Tryz.prog 20 #[v1, v2] w fun e w' => e = .returned (.bool true) ∧ Below w.heap.size w w' := by
  have H1 := Lib.hid h1
  have H2 := Lib.hid h2
  obtain ⟨va, vc, rfl, -⟩ := h1.shape
  obtain ⟨ua, uc, rfl, -⟩ := h2.shape
  clear h1 h2
  go_enter Tryz.func20, Tryz.ntmps20
  go_wp2_with fail
  go_loopg [5] xs.length (fun m j wr => ∃ k : Nat, k + m = xs.length ∧ j = .int .i64 k ∧ Below w.heap.size w wr)
  case atStart => exact ⟨0, by omega, rfl, Below.refl _ _⟩
  case round =>
    obtain ⟨k, hk, rfl, hb⟩ := hrel
    by_cases hlt : k < xs.length
    · obtain ⟨g1, o1, c1, hv1, -, hc1⟩ := slB_cell (H1.out.below hb rfl) hlt
      cases hv1
      obtain ⟨g2, o2, c2, hv2, -, hc2⟩ := slB_cell (H2.out.below hb rfl) hlt
      cases hv2
      have i1 : (0 : Int) ≤ (k : Int) := by omega
      have i2 : (k : Int) < (xs.length : Int) := by omega
      obtain ⟨gj, rfl⟩ : ∃ x, gk = x + 1 := ⟨gk - 1, by omega⟩
      go_wp2_with fail
      go_quiet (fail)
      go_wp2_with fail
      go_roundg gj
      case measure => omega
      case rel => exact ⟨k + 1, by omega, by go_num, below_drewN hb _⟩
    · obtain rfl : k = xs.length := by omega
      go_wp2_with fail
      go_ret
      exact ⟨rfl, hb⟩

set_option maxRecDepth 100000 in
set_option maxHeartbeats 400000 in
theorem samerecord_ok (x : Rc) (v1 v2 u1 u2 : Value) (w : World) (h1 : SlB w v1 x.k) (h2 : SlB w v2 x.v) (h3 : SlB w u1 x.k) (h4 : SlB w u2 x.v) (hk : x.k.length ≤ 1099511627776) (hv : x.v.length ≤ 1099511627776) :
    Calls Tryz.prog 192 #[.agg #[.int .i64 x.t, v1, v2], .agg #[.int .i64 x.t, u1, u2]] w fun e w' => e = .returned (.bool true) ∧ Below w.heap.size w w' := by
  obtain ⟨a1, c1, rfl, -⟩ := h1.shape
  obtain ⟨a2, c2, rfl, -⟩ := h2.shape
  obtain ⟨a3, c3, rfl, -⟩ := h3.shape
  obtain ⟨a4, c4, rfl, -⟩ := h4.shape
  have H1 := Lib.hid h1
  have H2 := Lib.hid h2
  have H3 := Lib.hid h3
  have H4 := Lib.hid h4
  clear h1 h2 h3 h4
  go_enter Tryz.func192, Tryz.ntmps192
  go_wp2_with fail
  have hb0 : Below w.heap.size w ((w.alloc (.cells #[.int .i64 x.t, .slice a1 x.k.length c1, .slice a2 x.v.length c2] 116)).alloc (.cells #[.int .i64 x.t, .slice a3 x.k.length c3, .slice a4 x.v.length c4] 116)) := ((Below.refl _ _).alloc (Nat.le_refl _) _).alloc (by simp) _
  refine (samebytes_ok _ _ x.k _ (H1.out.below hb0 rfl) (H3.out.below hb0 rfl) hk).mono ?_
  rintro e w1 ⟨rfl, hb1⟩
  have k0 := (hb1.cell (p := ⟨w.heap.size, 0, none⟩) (by simp; omega)).trans (show _ = some (Value.int .i64 x.t) by go_simp)
  have k1 := (hb1.cell (p := ⟨w.heap.size + 1, 0, none⟩) (by simp)).trans (show _ = some (Value.int .i64 x.t) by go_simp)
  have k2 := (hb1.cell (p := ⟨w.heap.size, 2, none⟩) (by simp; omega)).trans (show _ = some (Value.slice a2 x.v.length c2) by go_simp)
  have k3 := (hb1.cell (p := ⟨w.heap.size + 1, 2, none⟩) (by simp)).trans (show _ = some (Value.slice a4 x.v.length c4) by go_simp)
  have hb2 := hb0.trans (hb1.mono (by simp; omega))
  have hs1 := hb1.size
  have HB2 := Lib.hid hb2
  clear hb0 hb1 hb2
  go_wp2_with fail
  refine (samebytes_ok _ _ x.v _ (H2.out.below HB2.out rfl) (H4.out.below HB2.out rfl) hv).mono ?_
  rintro e w2 ⟨rfl, hb3⟩
  have z0 := (hb3.cell (p := ⟨w.heap.size, 0, none⟩) (World.block_lt_of_cell? _ _ k0)).trans k0
  have z1 := (hb3.cell (p := ⟨w.heap.size + 1, 0, none⟩) (World.block_lt_of_cell? _ _ k1)).trans k1
  have HB3 := Lib.hid (HB2.out.trans (hb3.mono HB2.out.size))
  clear hb3 k0 k1 k2 k3
  go_wp2_with fail
  go_ret
  exact ⟨rfl, HB3.out⟩

end Go.Proofs.YtncjffkpkmjgkaaGreatDoor.Sg

/-! Nw -/
namespace Go.Proofs.YtncjffkpkmjgkaaGreatDoor.Sg
open Go.RowKit Er Go.Maps

/-- Batches that are small enough. -/
def RcSm (y : Rc) : Prop := y.k.length ≤ 1000000000 ∧ y.v.length ≤ 1000000000
def BtSm (x : Bt) : Prop := x.r.length ≤ 1000000000 ∧ ∀ y, y ∈ x.r → RcSm y
theorem BtOk.sm {x : Bt} (h : BtOk x) : BtSm x := ⟨by have := h.n64; omega, fun y hy => ⟨by have := h.rs y hy; omega, by have := h.rs y hy; omega⟩⟩

set_option maxRecDepth 100000 in
set_option maxHeartbeats 400000 in
theorem samerecords_ok (v1 v2 : Value) (L : List Rc) (w : World) (h1 : RcsV w v1 L) (h2 : RcsV w v2 L) (hl : L.length ≤ 1000000000) (hs : ∀ x, x ∈ L → RcSm x) :
    Calls Tryz.prog 166 #[v1, v2] w fun e w' => e = .returned (.bool true) ∧ Below w.heap.size w w' := by
  have H1 := Lib.hid h1
  have H2 := Lib.hid h2
  obtain ⟨va, vc, rfl⟩ := h1.shape
  obtain ⟨ua, uc, rfl⟩ := h2.shape
  clear h1 h2
  go_enter Tryz.func166, Tryz.ntmps166
  go_wp2_with fail
  go_loopg [5] L.length (fun m j wr => ∃ k : Nat, k + m = L.length ∧ j = .int .i64 k ∧ Below w.heap.size w wr)
  case atStart => exact ⟨0, by omega, rfl, Below.refl _ _⟩
  case round =>
    obtain ⟨k, hk, rfl, hb⟩ := hrel
    by_cases hlt : k < L.length
    · obtain ⟨g1, o1, c1, hv1, -, hat1⟩ := (H1.out.below hb rfl).at_ hlt
      cases hv1
      obtain ⟨g2, o2, c2, hv2, -, hat2⟩ := (H2.out.below hb rfl).at_ hlt
      cases hv2
      obtain ⟨ka, kc, va, vc, z0, z1, s1, z2, s2⟩ := hat1.get
      obtain ⟨kb, kd, vb, vd, y0, y1, t1, y2, t2⟩ := hat2.get
      obtain ⟨q1, q2⟩ := hs _ (List.getElem_mem hlt)
      clear hat1 hat2
      have i1 : (0 : Int) ≤ (k : Int) := by omega
      have i2 : (k : Int) < (L.length : Int) := by omega
      obtain ⟨gj, rfl⟩ : ∃ x, gk = x + 1 := ⟨gk - 1, by omega⟩
      have HB := Lib.hid hb
      have S1 : Hid (SlB wr.drew (.slice ka L[k].k.length kc) L[k].k) := s1
      have S2 : Hid (SlB wr.drew (.slice va L[k].v.length vc) L[k].v) := s2
      have T1 : Hid (SlB wr.drew (.slice kb L[k].k.length kd) L[k].k) := t1
      have T2 : Hid (SlB wr.drew (.slice vb L[k].v.length vd) L[k].v) := t2
      clear hb s1 s2 t1 t2
      go_wp2_with fail
      go_region_held3 (fun w' => w'.cell? ⟨g1, o1 + k * 3, none⟩ = some (.int .i64 L[k].t) ∧ w'.cell? ⟨g1, o1 + k * 3 + 1, none⟩ = some (.slice ka L[k].k.length kc) ∧ w'.cell? ⟨g1, o1 + k * 3 + 2, none⟩ = some (.slice va L[k].v.length vc) ∧
          w'.cell? ⟨g2, o2 + k * 3, none⟩ = some (.int .i64 L[k].t) ∧ w'.cell? ⟨g2, o2 + k * 3 + 1, none⟩ = some (.slice kb L[k].k.length kd) ∧ w'.cell? ⟨g2, o2 + k * 3 + 2, none⟩ = some (.slice vb L[k].v.length vd))
        (first
          | go_keep
          | exact ⟨b0, b1, b2, b3, b4, b5⟩)
        (first
          | (go_at_call 192
             with_reducible refine (samerecord_ok L[k] _ _ _ _ wr.drew S1.out S2.out T1.out T2.out (by omega) (by omega)).mono ?_
             rintro e w1 ⟨rfl, hb1⟩
             have b0 := (hb1.cell (p := ⟨g1, o1 + k * 3, none⟩) (World.block_lt_of_cell? _ _ z0)).trans z0
             have b1 := (hb1.cell (p := ⟨g1, o1 + k * 3 + 1, none⟩) (World.block_lt_of_cell? _ _ z1)).trans z1
             have b2 := (hb1.cell (p := ⟨g1, o1 + k * 3 + 2, none⟩) (World.block_lt_of_cell? _ _ z2)).trans z2
             have b3 := (hb1.cell (p := ⟨g2, o2 + k * 3, none⟩) (World.block_lt_of_cell? _ _ y0)).trans y0
             have b4 := (hb1.cell (p := ⟨g2, o2 + k * 3 + 1, none⟩) (World.block_lt_of_cell? _ _ y1)).trans y1
             have b5 := (hb1.cell (p := ⟨g2, o2 + k * 3 + 2, none⟩) (World.block_lt_of_cell? _ _ y2)).trans y2))
      have HB1 := Lib.hid (HB.out.drew.trans (hb1.mono HB.out.size))
      clear hb1
      go_wp2_with fail
      go_roundg gj
      case measure => omega
      case rel => exact ⟨k + 1, by omega, by go_num, HB1.out⟩
    · obtain rfl : k = L.length := by omega
      go_wp2_with fail
      go_ret
      exact ⟨rfl, hb⟩

set_option maxRecDepth 100000 in
set_option maxHeartbeats 400000 in
theorem samebatch_ok (x : Bt) (v1 v2 : Value) (w : World) (h1 : BtV w v1 x) (h2 : BtV w v2 x) (hs : BtSm x) :
    Calls Tryz.prog 126 #[v1, v2] w fun e w' => e = .returned (.bool true) ∧ Below w.heap.size w w' := by
  obtain ⟨r1, rfl, h1⟩ := h1
  obtain ⟨r2, rfl, h2⟩ := h2
  obtain ⟨a1, c1, rfl⟩ := h1.shape
  obtain ⟨a2, c2, rfl⟩ := h2.shape
  have H1 := Lib.hid h1
  have H2 := Lib.hid h2
  have HS := Lib.hid hs
  clear h1 h2 hs
  go_enter Tryz.func126, Tryz.ntmps126
  go_wp2_with fail
  have hb0 : Below w.heap.size w ((w.alloc (.cells #[.int .i64 x.b, .int .i64 x.e, .slice a1 x.r.length c1] 38)).alloc (.cells #[.int .i64 x.b, .int .i64 x.e, .slice a2 x.r.length c2] 38)) := ((Below.refl _ _).alloc (Nat.le_refl _) _).alloc (by simp) _
  refine (samerecords_ok _ _ x.r _ (H1.out.below hb0 rfl) (H2.out.below hb0 rfl) HS.out.1 HS.out.2).mono ?_
  rintro e w1 ⟨rfl, hb1⟩
  have k0 := (hb1.cell (p := ⟨w.heap.size, 0, none⟩) (by simp; omega)).trans (show _ = some (Value.int .i64 x.b) by go_simp)
  have k1 := (hb1.cell (p := ⟨w.heap.size + 1, 0, none⟩) (by simp)).trans (show _ = some (Value.int .i64 x.b) by go_simp)
  have k2 := (hb1.cell (p := ⟨w.heap.size, 1, none⟩) (by simp; omega)).trans (show _ = some (Value.int .i64 x.e) by go_simp)
  have k3 := (hb1.cell (p := ⟨w.heap.size + 1, 1, none⟩) (by simp)).trans (show _ = some (Value.int .i64 x.e) by go_simp)
  have HB := Lib.hid (hb0.trans (hb1.mono (by simp; omega)))
  clear hb0 hb1
  go_wp2_with fail
  go_ret
  exact ⟨rfl, HB.out⟩

end Go.Proofs.YtncjffkpkmjgkaaGreatDoor.Sg

/-! Nx -/
namespace Go.Proofs.YtncjffkpkmjgkaaGreatDoor.Sg
open Go.RowKit Er Go.Maps

/-- A batch in three cells. -/
def BtAt (w : World) (g o : Nat) (x : Bt) : Prop :=
  w.cell? ⟨g, o, none⟩ = some (.int .i64 x.b) ∧ w.cell? ⟨g, o + 1, none⟩ = some (.int .i64 x.e) ∧ ∃ rs, w.cell? ⟨g, o + 2, none⟩ = some rs ∧ RcsV w rs x.r
/-- A slice of batches. -/
def BtsR (w : World) (v : Value) (L : List Bt) : Prop :=
  (v = .slice none 0 0 ∧ L = []) ∨ ∃ g off cap, v = .slice (some ⟨g, off, none⟩) L.length cap ∧ L.length ≤ cap ∧ g < w.heap.size ∧ ∀ (k : Nat) x, L[k]? = some x → BtAt w g (off + k * 3) x
theorem BtsR.shape {w : World} {v : Value} {L : List Bt} (h : BtsR w v L) : ∃ a cap, v = .slice a L.length cap ∧ L.length ≤ cap := by
  rcases h with ⟨rfl, rfl⟩ | ⟨g, off, cap, rfl, hc, _⟩
  · exact ⟨none, 0, rfl, Nat.le_refl _⟩
  · exact ⟨_, cap, rfl, hc⟩
theorem BtsR.at_ {w : World} {v : Value} {L : List Bt} (h : BtsR w v L) {k : Nat} (hk : k < L.length) : ∃ g off cap, v = .slice (some ⟨g, off, none⟩) L.length cap ∧ L.length ≤ cap ∧ BtAt w g (off + k * 3) L[k] := by
  rcases h with ⟨_, rfl⟩ | ⟨g, off, cap, hv, h1, hg, hc⟩
  · simp at hk
  · exact ⟨g, off, cap, hv, h1, hc k _ (List.getElem?_eq_getElem hk)⟩
theorem BtsR.below {B : Nat} {w w' : World} {v : Value} {L : List Bt} (h : BtsR w v L) (hb : Below B w w') (hB : B = w.heap.size) : BtsR w' v L := by
  subst hB
  rcases h with h | ⟨g, off, cap, rfl, hc, hg, h⟩
  · exact Or.inl h
  · refine Or.inr ⟨g, off, cap, rfl, hc, by have := hb.size; omega, fun k x hx => ?_⟩
    obtain ⟨c0, c1, rs, c2, hr⟩ := h k x hx
    exact ⟨(hb.cell hg).trans c0, (hb.cell hg).trans c1, rs, (hb.cell hg).trans c2, hr.below hb rfl⟩

set_option maxRecDepth 100000 in
set_option maxHeartbeats 400000 in
theorem samebatches_ok {w : World} {v1 v2 : Value} {L : List Bt} (h1 : BtsR w v1 L) (h2 : BtsR w v2 L) (hl : L.length ≤ 1000000000) (hs : ∀ x, x ∈ L → BtSm x) :
    Calls Tryz.prog 86 #[v1, v2] w fun e w' => e = .returned (.bool true) ∧ Below w.heap.size w w' := by
  have H1 := Lib.hid h1
  have H2 := Lib.hid h2
  obtain ⟨va, vc, rfl, -⟩ := h1.shape
  obtain ⟨ua, uc, rfl, -⟩ := h2.shape
  clear h1 h2
  go_enter Tryz.func86, Tryz.ntmps86
  go_wp2_with fail
  go_loopg [5] L.length (fun m j wr => ∃ k : Nat, k + m = L.length ∧ j = .int .i64 k ∧ Below w.heap.size w wr)
  case atStart => exact ⟨0, by omega, rfl, Below.refl _ _⟩
  case round =>
    obtain ⟨k, hk, rfl, hb⟩ := hrel
    by_cases hlt : k < L.length
    · obtain ⟨g1, o1, c1, hv1, -, z0, z1, p1, z2, s1⟩ := (H1.out.below hb rfl).at_ hlt
      cases hv1
      obtain ⟨g2, o2, c2, hv2, -, y0, y1, p2, y2, t1⟩ := (H2.out.below hb rfl).at_ hlt
      cases hv2
      obtain ⟨pa, pc, rfl⟩ := s1.shape
      obtain ⟨qa, qc, rfl⟩ := t1.shape
      have hsm := hs _ (List.getElem_mem hlt)
      have i1 : (0 : Int) ≤ (k : Int) := by omega
      have i2 : (k : Int) < (L.length : Int) := by omega
      obtain ⟨gj, rfl⟩ : ∃ x, gk = x + 1 := ⟨gk - 1, by omega⟩
      have HB := Lib.hid hb
      have S1 : Hid (BtV wr.drew (.agg #[.int .i64 L[k].b, .int .i64 L[k].e, .slice pa L[k].r.length pc]) L[k]) := ⟨_, rfl, s1⟩
      have T1 : Hid (BtV wr.drew (.agg #[.int .i64 L[k].b, .int .i64 L[k].e, .slice qa L[k].r.length qc]) L[k]) := ⟨_, rfl, t1⟩
      have HSM := Lib.hid hsm
      clear hb s1 t1 hsm
      go_wp2_with fail
      go_region_held3 (fun w' => w'.cell? ⟨g1, o1 + k * 3, none⟩ = some (.int .i64 L[k].b) ∧ w'.cell? ⟨g1, o1 + k * 3 + 1, none⟩ = some (.int .i64 L[k].e) ∧ w'.cell? ⟨g1, o1 + k * 3 + 2, none⟩ = some (.slice pa L[k].r.length pc) ∧
          w'.cell? ⟨g2, o2 + k * 3, none⟩ = some (.int .i64 L[k].b) ∧ w'.cell? ⟨g2, o2 + k * 3 + 1, none⟩ = some (.int .i64 L[k].e) ∧ w'.cell? ⟨g2, o2 + k * 3 + 2, none⟩ = some (.slice qa L[k].r.length qc))
        (first
          | go_keep
          | exact ⟨b0, b1, b2, b3, b4, b5⟩)
        (first
          | (go_at_call 126
             with_reducible refine (samebatch_ok L[k] _ _ wr.drew S1.out T1.out HSM.out).mono ?_
             rintro e w1 ⟨rfl, hb1⟩
             have b0 := (hb1.cell (p := ⟨g1, o1 + k * 3, none⟩) (World.block_lt_of_cell? _ _ z0)).trans z0
             have b1 := (hb1.cell (p := ⟨g1, o1 + k * 3 + 1, none⟩) (World.block_lt_of_cell? _ _ z1)).trans z1
             have b2 := (hb1.cell (p := ⟨g1, o1 + k * 3 + 2, none⟩) (World.block_lt_of_cell? _ _ z2)).trans z2
             have b3 := (hb1.cell (p := ⟨g2, o2 + k * 3, none⟩) (World.block_lt_of_cell? _ _ y0)).trans y0
             have b4 := (hb1.cell (p := ⟨g2, o2 + k * 3 + 1, none⟩) (World.block_lt_of_cell? _ _ y1)).trans y1
             have b5 := (hb1.cell (p := ⟨g2, o2 + k * 3 + 2, none⟩) (World.block_lt_of_cell? _ _ y2)).trans y2))
      have HB1 := Lib.hid (HB.out.drew.trans (hb1.mono HB.out.size))
      clear hb1
      go_wp2_with fail
      go_roundg gj
      case measure => omega
      case rel => exact ⟨k + 1, by omega, by go_num, HB1.out⟩
    · obtain rfl : k = L.length := by omega
      go_wp2_with fail
      go_ret
      exact ⟨rfl, hb⟩

/-- A batch's three cells, and its records. -/
def BtC (w : World) (g o : Nat) (p : Bt × Value) : Prop :=
  g < w.heap.size ∧ w.cell? ⟨g, o, none⟩ = some (.int .i64 p.1.b) ∧ w.cell? ⟨g, o + 1, none⟩ = some (.int .i64 p.1.e) ∧ w.cell? ⟨g, o + 2, none⟩ = some p.2 ∧ RcsV w p.2 p.1.r
/-- A slice of batches, there for good. -/
def BtsP (P : Pm) (v : Value) (out : List (Bt × Value)) : Prop :=
  (v = .slice none 0 0 ∧ out = []) ∨ ∃ g off cap, v = .slice (some ⟨g, off, none⟩) out.length cap ∧ out.length ≤ cap ∧ Pers P (fun w => g < w.heap.size) ∧ ∀ (k : Nat) p, out[k]? = some p → Pers P (fun w => BtC w g (off + k * 3) p)

theorem BtsP.sub {P P' : Pm} {v : Value} {out : List (Bt × Value)} (h : BtsP P v out) (hs : Sub P P') : BtsP P' v out := by
  rcases h with h | ⟨g, off, cap, h1, h2, h3, h4⟩
  · exact .inl h
  · exact .inr ⟨g, off, cap, h1, h2, h3.sub hs, fun k p hp => (h4 k p hp).sub hs⟩
theorem BtsP.shape {P : Pm} {v : Value} {out : List (Bt × Value)} (h : BtsP P v out) : ∃ a cap, v = .slice a out.length cap ∧ out.length ≤ cap := by
  rcases h with ⟨rfl, rfl⟩ | ⟨g, off, cap, rfl, hc, _⟩
  · exact ⟨none, 0, rfl, Nat.le_refl _⟩
  · exact ⟨_, cap, rfl, hc⟩
theorem BtsP.read {P : Pm} {v : Value} {out : List (Bt × Value)} (h : BtsP P v out) : Pers P (fun w => BtsR w v (out.map (·.1))) := by
  intro w hw
  rcases h with ⟨h1, rfl⟩ | ⟨g, off, cap, h1, h2, h3, h4⟩
  · exact .inl ⟨h1, rfl⟩
  · refine .inr ⟨g, off, cap, by rw [List.length_map]; exact h1, by rw [List.length_map]; exact h2, h3 w hw, fun k x hx => ?_⟩
    rw [List.getElem?_map] at hx
    obtain ⟨p, hp, rfl⟩ := Option.map_eq_some_iff.1 hx
    obtain ⟨-, c0, c1, c2, hr⟩ := h4 k p hp w hw
    exact ⟨c0, c1, _, c2, hr⟩
theorem BtsP.at_ {P : Pm} {v : Value} {out : List (Bt × Value)} (h : BtsP P v out) {k : Nat} (hk : k < out.length) : ∃ g off cap, v = .slice (some ⟨g, off, none⟩) out.length cap ∧ out.length ≤ cap ∧ Pers P (fun w => BtC w g (off + k * 3) out[k]) := by
  rcases h with ⟨-, rfl⟩ | ⟨g, off, cap, h1, h2, h3, h4⟩
  · simp at hk
  · exact ⟨g, off, cap, h1, h2, h4 k _ (List.getElem?_eq_getElem hk)⟩
/-- The first ones. -/
theorem BtsP.take {P : Pm} {a : Option Addr} {n c : Nat} {out : List (Bt × Value)} (h : BtsP P (.slice a n c) out) (m : Nat) (hm : m ≤ out.length) : BtsP P (.slice a m c) (out.take m) := by
  rcases h with ⟨h1, rfl⟩ | ⟨g, off, cap, h1, h2, h3, h4⟩
  · simp at h1 hm
    subst hm
    obtain ⟨rfl, rfl, rfl⟩ := h1
    exact .inl ⟨rfl, rfl⟩
  · cases h1
    refine .inr ⟨g, off, c, by rw [List.length_take, Nat.min_eq_left hm], by rw [List.length_take, Nat.min_eq_left hm]; omega, h3, fun k p hp => h4 k p ?_⟩
    rw [List.getElem?_take] at hp
    split at hp
    · exact hp
    · cases hp

/-- What a read has made is let be for good. -/
theorem BtsM.seal {w : World} {P : Pm} {A F : Mm} {v : Value} {L : List Bt} {out : List (Bt × Value)} (h : BtsM P v L out A) (hH : Hp w P (A ++ F)) : ∃ P', Sub P P' ∧ BtsP P' v out ∧ Hp w P' F := by
  obtain ⟨hm, ⟨hl, hr⟩, hp⟩ := h
  have hlen : out.length = L.length := by rw [← hm, List.length_map]
  rcases hr with ⟨rfl, h0, rfl⟩ | ⟨g, cap, cur, rfl, hc, hc2, hsz, htk, rfl⟩
  · have : out = [] := List.eq_nil_of_length_eq_zero (by omega)
    subst this
    exact ⟨P, Sub.refl P, .inl ⟨rfl, rfl⟩, hH⟩
  · obtain ⟨hs, hH2⟩ := Hp.seal (M := F) hH
    refine ⟨_, hs, .inr ⟨g, 0, cap, by rw [hlen], by omega, fun w1 hw => hw.lt (b := g) (o := .cells cur 38 (0, 0)) (by simp [Pm.ins]), fun k p hk => ?_⟩, hH2⟩
    intro w1 hw
    have hg := hw.m g (.cells cur 38 (0, 0)) (by simp [Pm.ins])
    have hkl : k < out.length := (List.getElem?_eq_some_iff.1 hk).1
    have hat : ∀ (l : List (Bt × Value)) (k : Nat) (p : Bt × Value), l[k]? = some p → ∀ j u, j < 3 → ([Value.int .i64 p.1.b, .int .i64 p.1.e, p.2] : List Value)[j]? = some u → (btsV l)[k * 3 + j]? = some u := by
      intro l
      induction l with
      | nil => intro k p hk; simp at hk
      | cons q l ih =>
        intro k p hk j u hj hu
        cases k with
        | zero =>
          simp at hk; subst hk
          rw [Nat.zero_mul, Nat.zero_add]
          show ([Value.int .i64 q.1.b, .int .i64 q.1.e, q.2] ++ btsV l)[j]? = some u
          rw [List.getElem?_append_left (by simpa using hj)]; exact hu
        | succ k =>
          show ([Value.int .i64 q.1.b, .int .i64 q.1.e, q.2] ++ btsV l)[(k + 1) * 3 + j]? = some u
          rw [List.getElem?_append_right (by simp; omega)]
          have := ih k p (by simpa using hk) j u hj hu
          rw [← this]
          congr 1
          simp; omega
    have cell : ∀ j u, j < 3 → ([Value.int .i64 p.1.b, .int .i64 p.1.e, p.2] : List Value)[j]? = some u → w1.cell? ⟨g, k * 3 + j, none⟩ = some u := by
      intro j u hj hu
      have := hat out k p hk j u hj hu
      rw [← htk, List.getElem?_take] at this
      split at this
      · have hj' : cur[k * 3 + j]? = some u := by simpa using this
        simp [World.cell?, hg, hj']
      · cases this
    rw [Nat.zero_add]
    exact ⟨hw.lt (b := g) (o := .cells cur 38 (0, 0)) (by simp [Pm.ins]), by simpa using cell 0 _ (by omega) rfl, cell 1 _ (by omega) rfl, cell 2 _ (by omega) rfl, (hp w1 (hw.sub hs) p (List.mem_of_getElem? hk)).plain⟩


end Go.Proofs.YtncjffkpkmjgkaaGreatDoor.Sg

/-! Np -/
namespace Go.Proofs.YtncjffkpkmjgkaaGreatDoor.Sg
open Go.RowKit Er Go.Maps

/-! ### Row -/
def rV (s : Int) (k : Nat) : Nat := (wrap64 (s + (k : Int)) % 9).toNat
def rRec (s : Int) (i k : Nat) : Rc := ⟨100 * (i : Int) + (k : Int), [97 + rV s k], List.replicate (rV s k) 0⟩
def rN (s : Int) : Nat := (s % 5).toNat + 1
def rEp (every i : Nat) : Int := if every = 0 then 1 else 1 + ((i / every : Nat) : Int)
def rBt (every : Nat) (s : Int) (i : Nat) (at_ : Int) : Bt := ⟨at_, rEp every i, (List.range (rN s)).map (rRec s i)⟩
def rowGo (every : Nat) : List Int → Nat → Int → List Bt
  | [], _, _ => []
  | s :: l, i, at_ => rBt every s i at_ :: rowGo every l (i + 1) (at_ + (rN s : Int))
theorem rV_lt (s : Int) (k : Nat) : rV s k < 9 := by unfold rV; omega
theorem rN_pos (s : Int) : 1 ≤ rN s ∧ rN s ≤ 5 := by unfold rN; omega

/-! ### Row's batches may be, and follow one another -/
/-- Batches one behind the other, of epochs that do not fall. -/
def Chain : Int → Int → List Bt → Prop
  | _, _, [] => True
  | b, e, x :: l => x.b = b ∧ e ≤ x.e ∧ Chain (x.b + x.r.length) x.e l
theorem rEp_mono (every i : Nat) : rEp every i ≤ rEp every (i + 1) ∧ 1 ≤ rEp every i := by
  unfold rEp
  have := Nat.div_le_div_right (c := every) (show i ≤ i + 1 by omega)
  generalize i / every = a at *
  generalize (i + 1) / every = b at *
  split <;> omega
theorem rEp_le (every i : Nat) : rEp every i ≤ 1 + (i : Int) := by
  unfold rEp
  have := Nat.div_le_self i every
  generalize i / every = a at *
  split <;> omega
theorem rBt_len (every : Nat) (s : Int) (i : Nat) (a : Int) : (rBt every s i a).r.length = rN s := by simp [rBt]
theorem row_chain (every : Nat) : ∀ (l : List Int) (i : Nat) (a e : Int), e ≤ rEp every i → Chain a e (rowGo every l i a)
  | [], _, _, _, _ => trivial
  | s :: l, i, a, e, h => by
    refine ⟨rfl, h, ?_⟩
    rw [rBt_len]
    exact row_chain every l (i + 1) _ _ (rEp_mono every i).1
theorem row_ok (every : Nat) : ∀ (l : List Int) (i : Nat) (a : Int), 0 ≤ a → a + 5 * (l.length : Int) ≤ 1099511627776 → i + l.length ≤ 1000000 → ∀ x, x ∈ rowGo every l i a → BtOk x ∧ BtBy x
  | [], _, _, _, _, _, x, hx => by cases hx
  | s :: l, i, a, h0, h1, h2, x, hx => by
    have hll : (s :: l).length = l.length + 1 := rfl
    rw [hll] at h1 h2
    obtain ⟨hp1, hp5⟩ := rN_pos s
    rcases List.mem_cons.1 hx with rfl | hx
    · have hm := (rEp_mono every i).2
      have hl := rEp_le every i
      refine ⟨⟨by rw [rBt_len]; omega, by rw [rBt_len]; omega, h0, by rw [rBt_len]; show a + _ ≤ _; omega, ?_, ?_, fun y hy => ?_⟩, fun y hy => ?_⟩
      · show 0 ≤ rEp every i; omega
      · show rEp every i ≤ _; omega
      · obtain ⟨j, hj, rfl⟩ := List.mem_map.1 hy
        have hj := List.mem_range.1 hj
        have := rV_lt s j
        refine ⟨?_, ?_, ?_, ?_⟩
        · show _ ≤ 100 * (i : Int) + (j : Int); omega
        · show 100 * (i : Int) + (j : Int) ≤ _; omega
        · simp [rRec]
        · simp [rRec]; omega
      · obtain ⟨j, hj, rfl⟩ := List.mem_map.1 hy
        have := rV_lt s j
        refine ⟨fun b hb => ?_, fun b hb => ?_⟩
        · rw [List.mem_singleton.1 (show b ∈ [97 + rV s j] from hb)]; omega
        · rw [List.eq_of_mem_replicate (show b ∈ List.replicate (rV s j) 0 from hb)]; omega
    · exact row_ok every l (i + 1) _ (by omega) (by omega) (by omega) x hx
theorem row_len (every : Nat) : ∀ (l : List Int) (i : Nat) (a : Int), (rowGo every l i a).length = l.length
  | [], _, _ => rfl
  | s :: l, i, a => by simp [rowGo, row_len every l]

end Go.Proofs.YtncjffkpkmjgkaaGreatDoor.Sg

/-! Nr -/
namespace Go.Proofs.YtncjffkpkmjgkaaGreatDoor.Sg
open Go.RowKit Er Go.Maps

/-- Records in a row that is owned; their bytes are there for good. -/
def rcsRow (l : List (Rc × Value × Value)) : List Value := l.flatMap fun p => [.int .i64 p.1.t, p.2.1, p.2.2]
theorem rcsRow_app (l m : List (Rc × Value × Value)) : rcsRow (l ++ m) = rcsRow l ++ rcsRow m := by simp [rcsRow]
structure RcsM (P : Pm) (v : Value) (L : List Rc) (out : List (Rc × Value × Value)) (A : Mm) : Prop where
  map : out.map (·.1) = L
  row : RowM 116 3 v L.length (rcsRow out) A
  rs : Pers P (fun w => ∀ p, p ∈ out → SlB w p.2.1 p.1.k ∧ SlB w p.2.2 p.1.v)
theorem RcsM.nil (P : Pm) : RcsM P (.slice none 0 0) [] [] [] := ⟨rfl, rowM_nil _ _, fun _ _ p h => by cases h⟩
theorem RcsM.seal {w : World} {P : Pm} {A F : Mm} {v : Value} {L : List Rc} {out : List (Rc × Value × Value)} (h : RcsM P v L out A) (hH : Hp w P (A ++ F)) : ∃ P', Sub P P' ∧ Pers P' (fun w => RcsV w v L) ∧ Hp w P' F := by
  obtain ⟨hm, ⟨hl, hr⟩, hp⟩ := h
  have hlen : out.length = L.length := by rw [← hm, List.length_map]
  rcases hr with ⟨rfl, h0, rfl⟩ | ⟨g, cap, cur, rfl, hc, hc2, hsz, htk, rfl⟩
  · exact ⟨P, Sub.refl P, fun _ _ => .inl ⟨rfl, List.eq_nil_of_length_eq_zero h0⟩, hH⟩
  · obtain ⟨hs, hH2⟩ := Hp.seal (M := F) hH
    refine ⟨_, hs, fun w1 hw => .inr (.inl ⟨g, 0, cap, rfl, hc, hw.lt (b := g) (o := .cells cur 116 (0, 0)) (by simp [Pm.ins]), fun k x hx => ?_⟩), hH2⟩
    have hg := hw.m g (.cells cur 116 (0, 0)) (by simp [Pm.ins])
    obtain ⟨p, hk, rfl⟩ : ∃ p, out[k]? = some p ∧ p.1 = x := by
      rw [← hm, List.getElem?_map] at hx
      exact Option.map_eq_some_iff.1 hx
    have hat : ∀ (l : List (Rc × Value × Value)) (k : Nat) (p : Rc × Value × Value), l[k]? = some p → ∀ j u, j < 3 → ([Value.int .i64 p.1.t, p.2.1, p.2.2] : List Value)[j]? = some u → (rcsRow l)[k * 3 + j]? = some u := by
      intro l
      induction l with
      | nil => intro k p hk; simp at hk
      | cons q l ih =>
        intro k p hk j u hj hu
        cases k with
        | zero =>
          simp at hk; subst hk
          rw [Nat.zero_mul, Nat.zero_add]
          show ([Value.int .i64 q.1.t, q.2.1, q.2.2] ++ rcsRow l)[j]? = some u
          rw [List.getElem?_append_left (by simpa using hj)]; exact hu
        | succ k =>
          show ([Value.int .i64 q.1.t, q.2.1, q.2.2] ++ rcsRow l)[(k + 1) * 3 + j]? = some u
          rw [List.getElem?_append_right (by simp; omega)]
          have := ih k p (by simpa using hk) j u hj hu
          rw [← this]
          congr 1
          simp; omega
    have cell : ∀ j u, j < 3 → ([Value.int .i64 p.1.t, p.2.1, p.2.2] : List Value)[j]? = some u → w1.cell? ⟨g, k * 3 + j, none⟩ = some u := by
      intro j u hj hu
      have := hat out k p hk j u hj hu
      rw [← htk, List.getElem?_take] at this
      split at this
      · have hj' : cur[k * 3 + j]? = some u := by simpa using this
        simp [World.cell?, hg, hj']
      · cases this
    obtain ⟨b1, b2⟩ := hp w1 (hw.sub hs) p (List.mem_of_getElem? hk)
    rw [Nat.zero_add]
    exact ⟨by simpa using cell 0 _ (by omega) rfl, _, _, cell 1 _ (by omega) rfl, b1, cell 2 _ (by omega) rfl, b2⟩
theorem rcsN_nil {w : World} {v : Value} {L : List Rc} (h : RcsV w v L) : RcsN w v L [] := by
  rcases h with h | ⟨g, off, cap, hv, hc, hg, h⟩ | h
  case inr.inr => exact .inr (.inr h)
  · exact .inl h
  · refine .inr (.inl ⟨g, off, cap, hv, hc, hg, by simp, fun k x hx => ?_⟩)
    obtain ⟨a, kv, vv, b, c, d, e⟩ := h k x hx
    exact ⟨a, kv, vv, b, c, d, e, .inr (by simp), .inr (by simp)⟩
theorem infoRc2 : (Tryz.prog.info? 116).map (fun i => (i.zero, i.size, i.bytes)) = some (some (.agg #[.int .i64 0, .slice none 0 0, .slice none 0 0]), 3, 56) := by kernel_rfl

/-- What holds at the head of Row's inner loop. -/
def RowIn (P1 : Pm) (M : Mm) (tb : Nat) (at_ ep s : Int) (i n : Nat) (m : Nat) (vi : Value) (w : World) : Prop :=
  ∃ (j : Nat) (P2 : Pm) (rv : Value) (out : List (Rc × Value × Value)) (Ar : Mm), j + m = n ∧ vi = .int .i64 j ∧ Sub P1 P2 ∧ RcsM P2 rv ((List.range j).map (rRec s i)) out Ar ∧
    Hp w P2 ((tb, .cells #[.int .i64 at_, .int .i64 ep, rv] 38 (0, 0)) :: (Ar ++ M))
/-- What holds at the head of Row's outer loop. -/
def RowOut (P : Pm) (F : Mm) (xs : List Int) (every : Nat) (base : Int) (m : Nat) (vo va vi : Value) (w : World) : Prop :=
  ∃ (i : Nat) (L : List Bt) (out : List (Bt × Value)) (P' : Pm) (A : Mm) (at_ : Int), i + m = xs.length ∧ va = .int .i64 at_ ∧ vi = .int .i64 i ∧ Sub P P' ∧ BtsM P' vo L out A ∧ L.length = i ∧
    L ++ rowGo every (xs.drop i) i at_ = rowGo every xs 0 base ∧ 0 ≤ at_ ∧ at_ ≤ base + 5 * i ∧ Hp w P' (A ++ F)

/-- A slice of integers that is read. -/
def IntsR (w : World) (a : Option Addr) (xs : List Int) : Prop := ∀ (k : Nat) x, xs[k]? = some x → ∃ g off, a = some ⟨g, off, none⟩ ∧ g < w.heap.size ∧ w.cell? ⟨g, off + k, none⟩ = some (.int .i64 x)

theorem made_zero (v : Nat) : (madeCells (Value.int .u8 0).cells (v * 1)).toList = bcells (List.replicate v 0) := by
  apply List.ext_getElem?
  intro i
  by_cases h : i < v
  · simp [madeCells, bcells, h, Value.cells, Nat.mod_one]
  · simp [madeCells, bcells, h]
theorem rV_eq (s : Int) (j : Nat) : ∃ v : Nat, rV s j = v ∧ v < 9 ∧ wrap64 (s + (j : Int)) % ((9 : Nat) : Int) = (v : Int) := by
  refine ⟨_, rfl, rV_lt s j, ?_⟩
  unfold rV
  omega

set_option maxRecDepth 100000 in
set_option maxHeartbeats 1000000 in
theorem row_p {P : Pm} {F : Mm} {w : World} (hH : Hp w P F) (a : Option Addr) (xs : List Int) (c : Nat) (hr : Pers P (fun w => IntsR w a xs)) (every : Nat) (he : every ≤ 1000000) (hx : xs.length ≤ 1000000) (base : Int) (h0 : 0 ≤ base) (h1 : base ≤ 1099511627776) :
    Calls Tryz.prog 23 #[.int .i64 base, .slice a xs.length c, .int .i64 every] w fun e w' => ∃ v P' out, e = .returned v ∧ Sub P P' ∧ out.map (·.1) = rowGo every xs 0 base ∧ BtsP P' v out ∧ Hp w' P' F := by
  have H0 := Lib.hid hH
  have HR := Lib.hid hr
  clear hH hr
  go_enter Tryz.func23, Tryz.ntmps23
  go_wp2_with fail
  go_loopg [7, 8, 9] xs.length (fun m vo va vi wr => RowOut P F xs every base m vo va vi wr)
  case atStart => exact ⟨0, [], [], P, [], base, by omega, rfl, rfl, Sub.refl P, BtsM.nil P, rfl, by simp, h0, by omega, H0.out⟩
  case round =>
    obtain ⟨i, L, out, P1, A, at_, hi, rfl, rfl, hs1, hbm, hLl, hgo, ha0, ha1, hHr⟩ := hrel
    by_cases hlt : i < xs.length
    · obtain ⟨gj, rfl⟩ : ∃ x, gk = x + 1 := ⟨gk - 1, by omega⟩
      obtain ⟨g, off, rfl, hg, hcell⟩ := hHr.use (HR.out.sub hs1) i _ (List.getElem?_eq_getElem hlt)
      obtain ⟨s, hs⟩ : ∃ s, xs[i] = s := ⟨_, rfl⟩
      rw [hs] at hcell
      obtain ⟨va, vc, rfl⟩ := hbm.row.shape
      have j1 : (i : Int) < (xs.length : Int) := by omega
      have j2 : (0 : Int) ≤ (i : Int) := by omega
      obtain ⟨ep, hep⟩ : ∃ ep, rEp every i = ep := ⟨_, rfl⟩
      have HEP := Lib.hid hep
      have HS := Lib.hid hs
      have HBM := Lib.hid hbm
      have HGO2 := Lib.hid hgo
      have HHr := Lib.hid hHr
      clear hep hs hbm hgo hHr
      have hcase : every = 0 ∨ 0 < every := by omega
      obtain ⟨q, hq⟩ : ∃ q : Nat, s % ((5 : Nat) : Int) = (q : Int) := ⟨(s % 5).toNat, by omega⟩
      have hq5 : q < 5 := by omega
      have HQ := Lib.hid hq
      have HN : Hid (rN s = q + 1) := by show rN s = q + 1; unfold rN; omega
      clear hq
      obtain ⟨tb, htb⟩ : ∃ tb, wr.heap.size = tb := ⟨_, rfl⟩
      have HTB := Lib.hid htb
      clear htb
      rcases hcase with hev | hev
      case' inl =>
        have HE1 : Hid (ep = 1) := by show ep = 1; rw [← HEP.out, hev]; rfl
        have HW : Hid (Hp (wr.alloc (.cells #[.int .i64 at_, .int .i64 1, .slice none 0 0] 38)) P1 ((tb, .cells #[.int .i64 at_, .int .i64 ep, .slice none 0 0] 38 (0, 0)) :: ([] ++ (A ++ F)))) := by
          rw [HE1.out, ← HTB.out]; exact HHr.out.alloc _
        have i1 : ¬ (0 : Int) < (every : Int) := by omega
        have i2 : ¬ 0 < every := by omega
        clear hev HHr
        go_wp2_with fail
      case' inr =>
        have HW : Hid (Hp (wr.alloc (.cells #[.int .i64 at_, .int .i64 ep, .slice none 0 0] 38)) P1 ((tb, .cells #[.int .i64 at_, .int .i64 ep, .slice none 0 0] 38 (0, 0)) :: ([] ++ (A ++ F)))) := by
          rw [← HTB.out]; exact HHr.out.alloc _
        have hdv : (i : Int) / (every : Int) = ((i / every : Nat) : Int) := rfl
        have hle := Nat.div_le_self i every
        have HEQ : Hid (1 + ((i / every : Nat) : Int) = ep) := by
          show _ = _
          rw [← HEP.out]; unfold rEp; rw [if_neg (by omega)]
        obtain ⟨dq, hdq⟩ : ∃ dq, i / every = dq := ⟨_, rfl⟩
        rw [hdq] at hdv hle HEQ
        have i1 : (0 : Int) < (every : Int) := by omega
        have i2 : ¬ (every : Int) = 0 := by omega
        have i3 : ¬ every = 0 := by omega
        clear hdq HHr
        go_wp2_with fail
        rw [HEQ.out]
      all_goals
        refine (number_any s 5 (by omega) (by omega) _).mono ?_
        rintro e w' ⟨rfl, rfl⟩
        rw [HQ.out, HTB.out]
        go_wp2_with fail
        go_loopg [12] (q + 1) (fun m vi wq => RowIn P1 (A ++ F) tb at_ ep s i (q + 1) m vi wq)
        case atStart => exact ⟨0, P1, _, [], [], by omega, rfl, Sub.refl P1, RcsM.nil P1, HW.out⟩
        case round =>
          obtain ⟨j, P2, rv, ro, Ar, hj, rfl, hs2, hrm, hHq⟩ := hrel
          obtain ⟨ra, rc, rfl⟩ := hrm.row.shape
          obtain ⟨g', off', hga, -, hcell⟩ := hHq.use ((HR.out.sub hs1).sub hs2) i _ (List.getElem?_eq_getElem hlt)
          cases hga
          rw [HS.out] at hcell
          by_cases hjl : j < q + 1
          · obtain ⟨gq, rfl⟩ : ∃ x, gk = x + 1 := ⟨gk - 1, by omega⟩
            have k1 : (j : Int) < (q : Int) + 1 := by omega
            have HRM := Lib.hid hrm
            have HQ2 := Lib.hid hHq
            clear hrm hHq
            go_wp2_with fail
            refine (number_any _ 9 (by omega) (by omega) _).mono ?_
            rintro e w' ⟨rfl, rfl⟩
            obtain ⟨v, hv, hv9, hve⟩ := rV_eq s j
            rw [hve]
            have HV := Lib.hid hv
            have hvv : (0 : Int) ≤ (v : Int) := by omega
            obtain ⟨P3, hs3, hH3, hm3⟩ := HQ2.out.lay (.cells #[.int .u8 (97 + (v : Int))] 5)
            have hkey : Pers P3 (fun w => SlB w (.slice (some ⟨wr.heap.size, 0, none⟩) 1 1) [97 + v]) := fun w1 hw => by
              have hb := hw.m _ _ hm3
              refine .inr (.inl ⟨wr.heap.size, 0, 1, rfl, Nat.le_refl _, (Array.getElem?_eq_some_iff.1 hb).1, fun k x hx => ?_⟩)
              have hk : k = 0 := by have := (List.getElem?_eq_some_iff.1 hx).1; simp at this; omega
              subst hk
              cases hx
              simp [World.cell?, hb]
            obtain ⟨iu, hiu, hu0, hu1, hu2⟩ := info_parts infoU8
            obtain ⟨w2, hrun, hown, hgrow⟩ := run_make_full (P := Tryz.prog) (wr.alloc (.cells #[.int .u8 (97 + (v : Int))] 5)) (wr.alloc (.cells #[.int .u8 (97 + (v : Int))] 5)).heap.size 22 5 iu (.int .u8 0) 1 Tryz.underlying22 hiu hu0 hu1 .i64 .i64 v (by rw [hu2]; omega) (by unfold maxLen; omega) (Nat.le_refl _)
            rw [made_zero] at hown
            simp only [World.alloc_size'] at hrun hown
            have hH4 := hH3.below (B := (wr.alloc (.cells #[.int .u8 (97 + (v : Int))] 5)).heap.size) ((Below.refl _ _).grown hgrow (Nat.le_refl _) (fun k hk => by cases hk)) (Nat.le_refl _)
            obtain ⟨A5, hr5, hH5⟩ := Hp.rowNew hH3 hH4 hown (by simp)
            obtain ⟨P5, hs5, hH6, hval⟩ := Hp.sealBytes hH5 hr5
            obtain ⟨rc0, hrc0⟩ : ∃ rc0 : Rc, rRec s i j = rc0 := ⟨_, rfl⟩
            have ht : rc0.t = 100 * (i : Int) + (j : Int) := by rw [← hrc0]; rfl
            have hkk : rc0.k = [97 + v] := by rw [← hrc0, ← HV.out]; rfl
            have hvl : rc0.v = List.replicate v 0 := by rw [← hrc0, ← HV.out]; rfl
            rw [← hkk] at hkey
            rw [← hvl] at hval
            have hH7 : Hp (w2.alloc (.cells #[.int .i64 (100 * (i : Int) + (j : Int)), .slice (some ⟨wr.heap.size, 0, none⟩) 1 1, .slice (some ⟨wr.heap.size + 1, 0, none⟩) v v] 116)) P5
                (Ar ++ ((tb, .cells #[.int .i64 at_, .int .i64 ep, .slice ra j rc] 38 (0, 0)) :: (A ++ F))) := by
              have h := (hH6.alloc (.cells #[.int .i64 (100 * (i : Int) + (j : Int)), .slice (some ⟨wr.heap.size, 0, none⟩) 1 1, .slice (some ⟨wr.heap.size + 1, 0, none⟩) v v] 116)).tail
              have h2 := Hp.mid (A := [(tb, Obj.cells #[.int .i64 at_, .int .i64 ep, .slice ra ((List.range j).map (rRec s i)).length rc] 38 (0, 0))]) (B := Ar) (C := A ++ F) h
              simpa using h2
            have t2 := (@Hp.cell _ _ _ hH7 tb #[.int .i64 at_, .int .i64 ep, .slice ra j rc] 38 (0, 0) (by simp)) (i := 2) rfl
            have H7 := Lib.hid hH7
            have HKEY := Lib.hid (hkey.sub hs5)
            have HVAL := Lib.hid hval
            have HS25 := Lib.hid (hs3.trans hs5)
            have HT := Lib.hid ht
            have HRC0 := Lib.hid hrc0
            clear hv hve hH3 hm3 hkey hown hgrow hH4 hr5 hH5 hH6 hval hH7 hs3 hs5 ht hkk hvl hrc0 hiu hu0 hu1 hu2
            have hr0 : RowM 116 3 (.slice ra j rc) j (rcsRow ro) Ar := by
              have := HRM.out.row
              simpa using this
            have HR0 := Lib.hid hr0
            clear hr0
            go_wp2_with (at_builtin; refine wpList_push_hp rfl _ _ _ rfl 116 _ 3 56 Tryz.underlying36 infoRc2 rfl (by omega) (.slice ra j rc) j (rcsRow ro) rfl H7.out HR0.out #[.int .i64 (100 * (i : Int) + (j : Int)), .slice (some ⟨wr.heap.size, 0, none⟩) 1 1, .slice (some ⟨wr.heap.size + 1, 0, none⟩) v v] (by show Value.slice (some ⟨w2.heap.size + 1, 0, none⟩) 1 1 = _; rw [World.alloc_size']) rfl (by intro u hu; simp at hu; rcases hu with rfl | rfl | rfl <;> rfl) (by omega) (by omega) ?_)
            intro ga ca w7 A7 hr7 hH7
            have hrm7 : RcsM P5 (.slice (some ⟨ga, 0, none⟩) (j + 1) ca) ((List.range (j + 1)).map (rRec s i)) (ro ++ [(rc0, .slice (some ⟨wr.heap.size, 0, none⟩) 1 1, .slice (some ⟨wr.heap.size + 1, 0, none⟩) v v)]) A7 := by
              refine ⟨?_, ?_, ?_⟩
              · rw [List.map_append, HRM.out.map, List.range_succ, List.map_append, ← HRC0.out]; rfl
              · rw [rcsRow_app]
                have h1 : rcsRow [(rc0, Value.slice (some ⟨wr.heap.size, 0, none⟩) 1 1, Value.slice (some ⟨wr.heap.size + 1, 0, none⟩) v v)] = [.int .i64 (100 * (i : Int) + (j : Int)), .slice (some ⟨wr.heap.size, 0, none⟩) 1 1, .slice (some ⟨wr.heap.size + 1, 0, none⟩) v v] := by
                  show [Value.int .i64 rc0.t, _, _] = _
                  rw [HT.out]
                rw [h1]
                simpa using hr7
              · intro w8 hw8 p hp
                rcases List.mem_append.1 hp with hp | hp
                · exact HRM.out.rs w8 (hw8.sub HS25.out) p hp
                · rw [List.mem_singleton.1 hp]
                  exact ⟨HKEY.out w8 hw8, HVAL.out w8 hw8⟩
            have f2 := @Hp.frozen _ _ _ hH7 tb #[.int .i64 at_, .int .i64 ep, .slice ra j rc] 38 (by simp) 2
            have t2' := (@Hp.cell _ _ _ hH7 tb #[.int .i64 at_, .int .i64 ep, .slice ra j rc] 38 (0, 0) (by simp)) (i := 2) rfl
            have h8 : Hp (w7.setCell ⟨tb, 2, none⟩ (.slice (some ⟨ga, 0, none⟩) (j + 1) ca)) P5 ((tb, .cells #[.int .i64 at_, .int .i64 ep, .slice (some ⟨ga, 0, none⟩) (j + 1) ca] 38 (0, 0)) :: (A7 ++ (A ++ F))) := by
              have h := Hp.set (Hp.mid (A := A7) (B := [(tb, Obj.cells #[.int .i64 at_, .int .i64 ep, .slice ra j rc] 38 (0, 0))]) (C := A ++ F) hH7) 2 (.slice (some ⟨ga, 0, none⟩) (j + 1) ca)
              simpa using h
            have H8 := Lib.hid h8
            have HRM7 := Lib.hid hrm7
            clear hr7 hH7 hrm7 h8
            go_wp2_with fail
            go_roundg gq
            case measure => omega
            case rel => exact ⟨j + 1, P5, _, _, A7, by omega, by simp, hs2.trans HS25.out, HRM7.out, H8.out⟩
          · obtain rfl : j = q + 1 := by omega
            have hh := Hp.mid (A := [(tb, Obj.cells #[.int .i64 at_, .int .i64 ep, .slice ra ((List.range (q + 1)).map (rRec s i)).length rc] 38 (0, 0))]) (B := Ar) (C := A ++ F) hHq
            obtain ⟨P6, hs6, hrv, hH6⟩ := hrm.seal hh
            have hlq : ((List.range (q + 1)).map (rRec s i)).length = q + 1 := by simp
            rw [hlq] at hrv hH6
            have c0 := (@Hp.cell _ _ _ hH6 tb #[.int .i64 at_, .int .i64 ep, .slice ra (q + 1) rc] 38 (0, 0) (by simp)) (i := 0) rfl
            have c1 := (@Hp.cell _ _ _ hH6 tb #[.int .i64 at_, .int .i64 ep, .slice ra (q + 1) rc] 38 (0, 0) (by simp)) (i := 1) rfl
            have c2 := (@Hp.cell _ _ _ hH6 tb #[.int .i64 at_, .int .i64 ep, .slice ra (q + 1) rc] 38 (0, 0) (by simp)) (i := 2) rfl
            have hH7 : Hp wr P6 (A ++ ((tb, .cells #[.int .i64 at_, .int .i64 ep, .slice ra (q + 1) rc] 38 (0, 0)) :: F)) := Hp.mid (A := [(tb, Obj.cells #[.int .i64 at_, .int .i64 ep, .slice ra (q + 1) rc] 38 (0, 0))]) (B := A) (C := F) hH6
            have hr0 : RowM 38 3 (.slice va i vc) i (btsV out) A := by
              have := HBM.out.row
              rw [hLl] at this; exact this
            have HR0 := Lib.hid hr0
            have H7 := Lib.hid hH7
            have HRV := Lib.hid hrv
            have HS6 := Lib.hid (hs2.trans hs6)
            have HLL := Lib.hid hLl
            have k1 : ¬ ((q : Int) + 1 < (q : Int) + 1) := by omega
            clear hrm hHq hh hs6 hrv hH6 hlq hH7 hr0 hLl
            go_wp2_with (at_builtin; refine wpList_push_hp rfl _ _ _ rfl 38 _ 3 40 Tryz.underlying33 infoBt rfl (by omega) (.slice va i vc) i (btsV out) rfl H7.out HR0.out #[.int .i64 at_, .int .i64 ep, .slice ra (q + 1) rc] rfl rfl (by intro u hu; simp at hu; rcases hu with rfl | rfl | rfl <;> rfl) (by omega) (by omega) ?_)
            intro ga ca w7 A7 hr7 hH8
            have hbx : rBt every s i at_ = ⟨at_, ep, (List.range (q + 1)).map (rRec s i)⟩ := by unfold rBt; rw [HEP.out, HN.out]
            have hbm7 : BtsM P6 (.slice (some ⟨ga, 0, none⟩) (i + 1) ca) (L ++ [rBt every s i at_]) (out ++ [(rBt every s i at_, .slice ra (q + 1) rc)]) A7 := by
              refine ⟨by rw [List.map_append, HBM.out.map]; rfl, ?_, ?_⟩
              · rw [btsV_app, List.length_append, HLL.out, hbx]; exact hr7
              · intro w8 hw8 p hp
                rcases List.mem_append.1 hp with hp | hp
                · exact HBM.out.rs w8 (hw8.sub HS6.out) p hp
                · rw [List.mem_singleton.1 hp, hbx]
                  exact rcsN_nil (HRV.out w8 hw8)
            have hgo8 : (L ++ [rBt every s i at_]) ++ rowGo every (xs.drop (i + 1)) (i + 1) (at_ + ((q : Int) + 1)) = rowGo every xs 0 base := by
              have h := HGO2.out
              rw [List.drop_eq_getElem_cons hlt, HS.out] at h
              rw [← h]
              simp [rowGo, HN.out]
            have H8 := Lib.hid hH8
            have HB7 := Lib.hid hbm7
            have HG8 := Lib.hid hgo8
            have h9 : Hp w7 P6 (A7 ++ F) := by
              have := Hp.mid (A := A7) (B := [(tb, Obj.cells #[.int .i64 at_, .int .i64 ep, .slice ra (q + 1) rc] 38 (0, 0))]) (C := F) hH8
              exact this.tail
            have H9 := Lib.hid h9
            clear hr7 hH8 hbm7 hgo8 hbx h9
            go_wp2_with fail
            go_roundg gj
            case measure => omega
            case rel => exact ⟨i + 1, _, _, P6, A7, at_ + ((q : Int) + 1), by omega, rfl, by simp, hs1.trans HS6.out, HB7.out, by rw [List.length_append, HLL.out]; rfl, HG8.out, by omega, by omega, H9.out⟩
    · obtain rfl : i = xs.length := by omega
      have hL : L = rowGo every xs 0 base := by
        rw [List.drop_length] at hgo
        rw [← hgo]; simp [rowGo]
      obtain ⟨P2, hs2, hbp, hH2⟩ := hbm.seal hHr
      have hmap := hbm.map
      have HM := Lib.hid (hmap.trans hL)
      have HBP := Lib.hid hbp
      have H2 := Lib.hid hH2
      have HS2 := Lib.hid (hs1.trans hs2)
      clear hL hbp hmap hH2 hs2 hbm hgo hHr
      obtain ⟨va, vc, hvv, -⟩ := HBP.out.shape
      go_wp2_with fail
      go_ret
      exact ⟨_, P2, out, rfl, HS2.out, HM.out, HBP.out, H2.out⟩

end Go.Proofs.YtncjffkpkmjgkaaGreatDoor.Sg

/-! Ra -/
namespace Go.Proofs.YtncjffkpkmjgkaaGreatDoor.Sg
open Go.RowKit Er Go.Maps

/-! ### sums -/
def pol : Nat := 2197175160
def rst (x : Nat) : Nat := if x % 2 = 1 then (x / 2) ^^^ pol else x / 2
theorem rst_lt {x : Nat} (h : x < 4294967296) : rst x < 4294967296 := by
  unfold rst
  split
  · exact Nat.xor_lt_two_pow (n := 32) (by omega) (by decide)
  · omega
theorem rst_xor (a b : Nat) : rst (a ^^^ b) = rst a ^^^ rst b := by
  unfold rst
  have h1 := Nat.xor_div_two (a := a) (b := b)
  have h2 := Nat.xor_mod_two_eq_one (a := a) (b := b)
  rw [h1]
  by_cases ha : a % 2 = 1 <;> by_cases hb : b % 2 = 1
  · rw [if_neg (by rw [h2]; simp [ha, hb]), if_pos ha, if_pos hb]
    rw [Nat.xor_comm (b / 2) pol, Nat.xor_assoc, ← Nat.xor_assoc pol pol, Nat.xor_self, Nat.zero_xor]
  · rw [if_pos (by rw [h2]; simp [ha, hb]), if_pos ha, if_neg hb, Nat.xor_assoc, Nat.xor_assoc, Nat.xor_comm pol]
  · rw [if_pos (by rw [h2]; simp [ha, hb]), if_neg ha, if_pos hb, Nat.xor_assoc]
  · rw [if_neg (by rw [h2]; simp [ha, hb]), if_neg ha, if_neg hb]
def rsn : Nat → Nat → Nat | 0, x => x | n + 1, x => rsn n (rst x)
theorem rsn_lt : ∀ (n : Nat) {x : Nat}, x < 4294967296 → rsn n x < 4294967296
  | 0, _, h => h
  | n + 1, _, h => rsn_lt n (rst_lt h)
theorem split16 (s : Nat) : s = (2 ^ 4 * (s / 2 ^ 4)) ^^^ (s % 2 ^ 4) := by
  apply Nat.eq_of_testBit_eq
  intro i
  rw [Nat.testBit_xor, Nat.testBit_two_pow_mul, Nat.testBit_div_two_pow, Nat.testBit_mod_two_pow]
  by_cases h : i < 4
  · have : ¬ 4 ≤ i := by omega
    simp [h, this]
  · have h2 : 4 ≤ i := by omega
    simp [h, h2]
theorem rst_even (q : Nat) : rst (2 * q) = q := by
  unfold rst
  rw [if_neg (by omega)]; omega
theorem rsn4 (s : Nat) : rsn 4 s = cS s := by
  have h : rsn 4 s = rsn 4 (2 ^ 4 * (s / 2 ^ 4)) ^^^ rsn 4 (s % 2 ^ 4) := by
    conv => lhs; rw [split16 s]
    simp only [rsn, rst_xor]
  have h1 : rsn 4 (2 ^ 4 * (s / 2 ^ 4)) = s / 16 := by
    rw [show 2 ^ 4 * (s / 2 ^ 4) = 2 * (2 * (2 * (2 * (s / 16)))) from by omega]
    simp only [rsn, rst_even]
  have h2 : ∀ i : Fin 16, rsn 4 i.val = hNat i.val := by decide +kernel
  rw [h, h1, h2 ⟨s % 2 ^ 4, Nat.mod_lt _ (by decide)⟩]
  rfl
theorem rsn8 (s : Nat) : rsn 8 s = cS (cS s) := by rw [← rsn4, ← rsn4]; rfl


set_option maxRecDepth 100000 in
set_option maxHeartbeats 400000 in
theorem rlittle_any (n s : Nat) (hs : s ≤ 8) (w : World) :
    Calls Tryz.prog 106 #[.int .u64 n, .int .i64 s] w fun e w' => (∃ v', e = .returned v' ∧ w'.ownsRow w.heap.size 5 1 v' s (bcells (leB n s))) ∧ Below w.heap.size w w' := by
  go_enter Tryz.func106, Tryz.ntmps106
  go_wp2_with fail
  go_loopg [5, 6] s (fun r u j wr => ∃ k : Nat, k + r = s ∧ j = .int .i64 k ∧ wr.ownsRow w.heap.size 5 1 u k (bcells (leB n k)) ∧ Below w.heap.size w wr)
  case atStart => exact ⟨0, by omega, rfl, World.ownsRow_nil _ _ _ _, Below.refl _ _⟩
  case round =>
    obtain ⟨k, hk, rfl, hown, hb⟩ := hrel
    by_cases hlt : k < s
    · have hy := slB_new wr [n / 2 ^ (8 * k) % 256] 5
      rw [bcells_one, show ((n / 2 ^ (8 * k) % 256 : Nat) : Int) = (n : Int) / 2 ^ (8 * k) % 256 from by simp] at hy
      have HY := Lib.hid hy
      have HO2 := Lib.hid hown
      have hsz := hb.size
      have HB := Lib.hid hb
      clear hy hown hb
      obtain ⟨gk, rfl⟩ : ∃ x, gk = x + 1 := ⟨gk - 1, by omega⟩
      go_wp2_with (at_builtin; refine wpList_append_bytes rfl _ _ rfl w.heap.size _ _ _ rfl (HO2.out.alloc _) _ _ rfl HY.out ?c3 ?c5 ?_)
      case c3 => simp; omega
      case c5 => simp; omega
      intro v2 w4 hown' hgrow _ hat
      have hb4 := (HB.out.alloc hsz (.cells #[.int .u8 ((n : Int) / 2 ^ (8 * k) % 256)] 5)).grown hgrow (by simp; omega) (own_fresh HO2.out)
      have hown2 : w4.ownsRow w.heap.size 5 1 v2 (k + 1) (bcells (leB n (k + 1))) := by
        rw [leB_snoc]; exact hown'
      have HO4 := Lib.hid hown2
      have HB4 := Lib.hid hb4
      clear hown' hown2 hgrow hat hb4
      go_wp2_with fail
      go_roundg gk
      case measure => omega
      case rel => exact ⟨k + 1, by omega, by go_num, HO4.out, HB4.out⟩
    · obtain rfl : k = s := by omega
      go_wp2_with fail
      go_ret
      exact ⟨⟨_, rfl, hown⟩, hb⟩

set_option maxRecDepth 100000 in
set_option maxHeartbeats 400000 in
theorem rput_any (n : Nat) (hn : n < 18446744073709551616) (w : World) :
    Calls Tryz.prog 108 #[.int .u64 n] w fun e w' => (∃ v', e = .returned v' ∧ w'.ownsRow w.heap.size 5 1 v' (vput n).length (bcells (vput n))) ∧ Below w.heap.size w w' := by
  go_enter Tryz.func108, Tryz.ntmps108
  go_wp2_with fail
  go_loopg [0, 3] n (fun r m u wr => ∃ (q : Nat) (pre : List Nat), q ≤ r ∧ m = .int .u64 q ∧ q * 128 ^ pre.length < 18446744073709551616 ∧ pre ++ vput q = vput n ∧ wr.ownsRow w.heap.size 5 1 u pre.length (bcells pre) ∧ Below w.heap.size w wr)
  case atStart => exact ⟨n, [], by omega, rfl, by simpa using hn, rfl, World.ownsRow_nil _ _ _ _, Below.refl _ _⟩
  case round =>
    obtain ⟨q, pre, hq, rfl, hlim, hpre, hown, hb⟩ := hrel
    have hq64 : q < 18446744073709551616 := by
      have : q * 1 ≤ q * 128 ^ pre.length := Nat.mul_le_mul_left _ (Nat.pos_of_ne_zero (by simp))
      omega
    have hsz := hb.size
    have HO2 := Lib.hid hown
    have HL := Lib.hid hlim
    have HP := Lib.hid hpre
    clear hown hlim hpre
    by_cases hge : 128 ≤ q
    · have hk := ten_rounds q pre.length HL.out hge
      have hst := Lib.hid (step_round q pre.length HL.out)
      have hy := slB_new wr [q % 128 + 128] 5
      rw [bcells_one, ← or128 q] at hy
      have HY := Lib.hid hy
      clear hy
      obtain ⟨gk, rfl⟩ : ∃ x, gk = x + 1 := ⟨gk - 1, by omega⟩
      go_wp2_with (at_builtin; refine wpList_append_bytes rfl _ _ rfl w.heap.size _ _ _ rfl (HO2.out.alloc _) _ _ rfl HY.out ?c3 ?c5 ?_)
      case c3 => simp; omega
      case c5 => simp; omega
      intro v2 w4 hown' hgrow _ hat
      have hb4 : Below w.heap.size w w4 := (hb.alloc hsz _).grown hgrow (by simp; omega) (own_fresh HO2.out)
      have HO4 := Lib.hid hown'
      have HB4 := Lib.hid hb4
      clear hown' hgrow hat hb4
      go_wp2_with fail
      go_roundg gk
      case measure => omega
      case rel => exact ⟨q / 128, pre ++ [q % 128 + 128], by omega, by simp, by have := hst.out; simpa using this, by rw [← HP.out, vput_big q (by omega)]; simp, by have := HO4.out; simpa [Nat.add_assoc] using this, HB4.out⟩
    · have hy := slB_new wr [q] 5
      rw [bcells_one] at hy
      have hqm : (q : Int) % 256 = (q : Int) := by omega
      have HY := Lib.hid hy
      have HQ := Lib.hid hqm
      have hlen : pre.length ≤ 20 := by
        have := vput_len64 n hn
        rw [← HP.out] at this
        simp at this; omega
      have HF : Hid (vput n = pre ++ [q]) := by
        show _ = _
        rw [← HP.out, vput_small q (by omega)]
      clear hy hqm
      go_wp2_with (at_builtin; refine wpList_append_bytes rfl _ _ rfl w.heap.size _ _ _ rfl (HO2.out.alloc _) _ _ rfl HY.out ?c3 ?c5 ?_)
      case c3 => simp; omega
      case c5 => simp; omega
      intro v2 w4 hown' hgrow _ hat
      have hb4 : Below w.heap.size w w4 := (hb.alloc hsz _).grown hgrow (by simp; omega) (own_fresh HO2.out)
      have HO4 := Lib.hid hown'
      have HB4 := Lib.hid hb4
      clear hown' hgrow hat hb4
      go_wp2_with fail
      go_ret
      refine ⟨⟨_, rfl, ?_⟩, HB4.out⟩
      rw [HF.out]
      have := HO4.out
      simpa [Nat.add_assoc] using this


theorem rputint_any (z : Int) (hz : -4611686018427387904 ≤ z) (hz' : z < 4611686018427387904) (w : World) :
    Calls Tryz.prog 107 #[.int .i64 z] w fun e w' => (∃ v', e = .returned v' ∧ w'.ownsRow w.heap.size 5 1 v' (vput (zig z)).length (bcells (vput (zig z)))) ∧ Below w.heap.size w w' := by
  go_enter Tryz.func107, Tryz.ntmps107
  go_wp2_with fail
  rw [zig_eq z hz hz']
  refine (rput_any (zig z) (by have := zig_lt z hz hz'; omega) _).mono ?_
  rintro e w1 ⟨⟨v1, rfl, hown⟩, hb⟩
  have HO := Lib.hid hown
  have HB := Lib.hid hb
  clear hown hb
  go_wp2_with fail
  go_ret
  exact ⟨⟨_, rfl, HO.out⟩, HB.out⟩

/-- What holds at the head of More's inner loop. -/
def MoreIn (w0 : World) (x0 : Nat) (m : Nat) (vc vi : Value) (w : World) : Prop := ∃ (j x : Nat), j + m = 8 ∧ vi = .int .i64 j ∧ vc = .int .u32 x ∧ x < 4294967296 ∧ rsn m x = rsn 8 x0 ∧ w = w0

set_option maxRecDepth 100000 in
set_option maxHeartbeats 400000 in
theorem rmore_any (s : Nat) (hs : s < 4294967296) (v : Value) (xs : List Nat) (w : World) (h : SlB w v xs) (hx : ∀ x ∈ xs, x < 256) (hl : xs.length ≤ 1099511627776) :
    Calls Tryz.prog 137 #[.int .u32 s, v] w fun e w' => e = .returned (.int .u32 (crcF s xs)) ∧ w = w' := by
  have H0 := Lib.hid h
  obtain ⟨va, vc, rfl, -⟩ := h.shape
  clear h
  go_enter Tryz.func137, Tryz.ntmps137
  go_wp2_with fail
  go_loopg [5, 6] xs.length (fun r q i wr => ∃ k : Nat, k + r = xs.length ∧ i = .int .i64 k ∧ q = .int .u32 (cRow (4294967295 - s) (xs.take k)) ∧ w = wr)
  case atStart => exact ⟨0, by omega, rfl, by rw [not32 s hs]; rfl, rfl⟩
  case round =>
    obtain ⟨k, hk, rfl, rfl, rfl⟩ := hrel
    by_cases hlt : k < xs.length
    · obtain ⟨g, off, cap, hv, hg, hcell⟩ := slB_cell H0.out hlt
      cases hv
      have hc : xs[k] < 256 := hx _ (List.getElem_mem hlt)
      have hs0 : cRow (4294967295 - s) (xs.take k) < 4294967296 := cRow_lt _ _ (by omega) (fun x hm => hx x (List.mem_of_mem_take hm))
      have hnext : cRow (4294967295 - s) (xs.take (k + 1)) = cB (cRow (4294967295 - s) (xs.take k)) xs[k] := by rw [List.take_add_one, List.getElem?_eq_getElem hlt]; exact cRow_snoc _ _ _
      generalize cRow (4294967295 - s) (xs.take k) = s0 at *
      generalize xs[k] = c at *
      obtain ⟨s1, hs1, hs1n, hs1l⟩ : ∃ s1 : Nat, bits .xor .u32 (s0 : Int) (c : Int) = (s1 : Int) ∧ s1 = s0 ^^^ c ∧ s1 < 4294967296 := ⟨_, xor32 s0 c hs0 (by omega), rfl, Nat.xor_lt_two_pow (n := 32) hs0 (by omega)⟩
      obtain ⟨go, rfl⟩ : ∃ x, gk = x + 1 := ⟨gk - 1, by omega⟩
      have HN := Lib.hid hnext
      have HE : Hid (rsn 8 s1 = cB s0 c) := by show _ = _; rw [rsn8, hs1n]; rfl
      clear hnext hs1n
      go_wp2_with fail
      go_loopg [5, 7] 8 (fun m vc vi wq => MoreIn w s1 m vc vi wq)
      case atStart => exact ⟨0, s1, by omega, rfl, rfl, hs1l, rfl, rfl⟩
      case round =>
        obtain ⟨j, x, hj, rfl, rfl, hxl, hrs, rfl⟩ := hrel
        by_cases hj8 : j < 8
        · obtain ⟨gj, rfl⟩ : ∃ x, gk = x + 1 := ⟨gk - 1, by omega⟩
          have ha : bits .and .u32 (x : Int) 1 = ((x % 2 : Nat) : Int) := by
            have := and32 x 1 hxl (by omega)
            rw [Nat.and_one_is_mod] at this
            exact this
          have HR := Lib.hid hrs
          have hrl := rst_lt hxl
          obtain ⟨r, hr⟩ : ∃ r, x % 2 = r := ⟨_, rfl⟩
          rw [hr] at ha
          clear hrs
          by_cases hp : r = 1
          · subst hp
            have hb : bits .xor .u32 ((x : Int) / 2) 2197175160 = ((rst x : Nat) : Int) := by
              have := xor32 (x / 2) pol (by omega) (by decide)
              rw [show rst x = x / 2 ^^^ pol from by unfold rst; rw [if_pos hr]]
              exact this
            obtain ⟨rx, hrx⟩ : ∃ rx, rst x = rx := ⟨_, rfl⟩
            rw [hrx] at hb hrl
            have HRX := Lib.hid hrx
            clear hr hrx
            go_wp2_with fail
            go_roundg gj
            case measure => omega
            case rel => exact ⟨j + 1, rx, by omega, by go_num, rfl, hrl, by rw [← HR.out, ← HRX.out]; rfl, rfl⟩
          · have hp0 : ((r : Nat) : Int) ≠ 1 := by omega
            have hp1 : (((r : Nat) : Int) == 1) = false := beq_eq_false_iff_ne.2 hp0
            have hp2 : (r == 1) = false := beq_eq_false_iff_ne.2 hp
            have hd : (x : Int) / 2 = ((rst x : Nat) : Int) := by rw [show rst x = x / 2 from by unfold rst; rw [if_neg (by omega)]]; rfl
            obtain ⟨rx, hrx⟩ : ∃ rx, rst x = rx := ⟨_, rfl⟩
            rw [hrx] at hd hrl
            have HRX := Lib.hid hrx
            clear hr hrx
            go_wp2_with fail
            go_roundg gj
            case measure => omega
            case rel => exact ⟨j + 1, rx, by omega, by go_num, rfl, hrl, by rw [← HR.out, ← HRX.out]; rfl, rfl⟩
        · obtain rfl : j = 8 := by omega
          obtain rfl : gk = 0 := by omega
          have hx8 : x = rsn 8 s1 := hrs
          rw [HE.out] at hx8
          have HX8 := Lib.hid hx8
          clear hx8 hrs
          go_wp2_with fail
          go_roundg go
          case measure => omega
          case rel => exact ⟨k + 1, by omega, by go_num, by rw [HN.out, ← HX8.out], rfl⟩
    · obtain rfl : k = xs.length := by omega
      go_wp2_with fail
      go_ret
      exact ⟨by rw [List.take_length]; unfold crcF; rw [not32 _ (cRow_lt _ _ (by omega) hx)]; rfl, rfl⟩

theorem rsum_any (v : Value) (xs : List Nat) (w : World) (h : SlB w v xs) (hx : ∀ x ∈ xs, x < 256) (hl : xs.length ≤ 1099511627776) :
    Calls Tryz.prog 102 #[v] w fun e w' => e = .returned (.int .u32 (crcF 0 xs)) ∧ w = w' := by
  go_enter Tryz.func102, Tryz.ntmps102
  go_wp2_with fail
  refine (rmore_any 0 (by decide) v xs w h hx hl).mono ?_
  rintro e w' ⟨rfl, rfl⟩
  go_wp2_with fail
  go_ret
  exact ⟨rfl, rfl⟩

end Go.Proofs.YtncjffkpkmjgkaaGreatDoor.Sg

/-! Rb -/
namespace Go.Proofs.YtncjffkpkmjgkaaGreatDoor.Sg
open Go.RowKit Er Go.Maps

theorem rright_any (a : Int) (w : World) : Calls Tryz.prog 44 #[.int .i64 a] w fun e w' => e = .returned (.bool (decide (0 ≤ a) && decide (a ≤ 1099511627776))) ∧ w = w' := by
  by_cases h1 : 0 ≤ a
  · have hr : (decide (0 ≤ a) && decide (a ≤ 1099511627776)) = decide (a ≤ 1099511627776) := by simp [h1]
    rw [hr]
    go_enter Tryz.func44, Tryz.ntmps44
    go_wp2
    go_ret
    exact ⟨rfl, rfl⟩
  · have hr : (decide (0 ≤ a) && decide (a ≤ 1099511627776)) = false := by simp [h1]
    rw [hr]
    go_enter Tryz.func44, Tryz.ntmps44
    go_wp2
    go_ret
    exact ⟨rfl, rfl⟩
theorem repoch_any (a : Int) (w : World) : Calls Tryz.prog 104 #[.int .i64 a] w fun e w' => e = .returned (.bool (decide (0 ≤ a) && decide (a ≤ 1073741824))) ∧ w = w' := by
  by_cases h1 : 0 ≤ a
  · have hr : (decide (0 ≤ a) && decide (a ≤ 1073741824)) = decide (a ≤ 1073741824) := by simp [h1]
    rw [hr]
    go_enter Tryz.func104, Tryz.ntmps104
    go_wp2
    go_ret
    exact ⟨rfl, rfl⟩
  · have hr : (decide (0 ≤ a) && decide (a ≤ 1073741824)) = false := by simp [h1]
    rw [hr]
    go_enter Tryz.func104, Tryz.ntmps104
    go_wp2
    go_ret
    exact ⟨rfl, rfl⟩
theorem rtimeok_any (a : Int) (w : World) : Calls Tryz.prog 105 #[.int .i64 a] w fun e w' => e = .returned (.bool (decide (-1099511627776 ≤ a) && decide (a ≤ 1099511627776))) ∧ w = w' := by
  by_cases h1 : -1099511627776 ≤ a
  · have hr : (decide (-1099511627776 ≤ a) && decide (a ≤ 1099511627776)) = decide (a ≤ 1099511627776) := by simp [h1]
    rw [hr]
    go_enter Tryz.func105, Tryz.ntmps105
    go_wp2
    go_ret
    exact ⟨rfl, rfl⟩
  · have hr : (decide (-1099511627776 ≤ a) && decide (a ≤ 1099511627776)) = false := by simp [h1]
    rw [hr]
    go_enter Tryz.func105, Tryz.ntmps105
    go_wp2
    go_ret
    exact ⟨rfl, rfl⟩

set_option maxRecDepth 100000 in
set_option maxHeartbeats 1000000 in
theorem rvalid_any (x : Bt) (hn : x.r.length ≤ 1099511627776) (v : Value) (w : World) (h : BtV w v x) :
    Calls Tryz.prog 53 #[v] w fun e w' => e = .returned (.int .i64 (vcode x)) ∧ Below w.heap.size w w' := by
  obtain ⟨rs, rfl, h⟩ := h
  obtain ⟨va, vc, rfl⟩ := h.shape
  have ha := (h.below ((Below.refl _ _).alloc (Nat.le_refl _) (.cells #[.int .i64 x.b, .int .i64 x.e, .slice va x.r.length vc] 38)) rfl)
  have HA := Lib.hid ha
  clear ha h
  by_cases hA : x.r.length < 1 ∨ 64 < x.r.length
  · have hc : vcode x = 104 := by unfold vcode; rw [if_pos hA]
    rw [hc]
    rcases hA with hA | hA
    · have hA0 : x.r.length = 0 := by omega
      rw [hA0]
      clear HA
      go_enter Tryz.func53, Tryz.ntmps53
      go_wp2_with fail
      go_ret
      exact ⟨rfl, (Below.refl _ _).alloc (Nat.le_refl _) _⟩
    · have d1 : ¬ (x.r.length : Int) = 0 := by omega
      have d3 : ((x.r.length : Int) == 0) = false := beq_eq_false_iff_ne.2 d1
      have d4 : ¬ x.r.length = 0 := by omega
      have d2 : 64 < (x.r.length : Int) := by omega
      go_enter Tryz.func53, Tryz.ntmps53
      go_wp2_with fail
      go_ret
      exact ⟨rfl, (Below.refl _ _).alloc (Nat.le_refl _) _⟩
  · have d1 : ¬ (x.r.length : Int) = 0 := by omega
    have d3 : ((x.r.length : Int) == 0) = false := beq_eq_false_iff_ne.2 d1
    have d4 : ¬ x.r.length = 0 := by omega
    have d2 : ¬ 64 < (x.r.length : Int) := by omega
    have d5 : ¬ 64 < x.r.length := by omega
    have d6 : x.r.length ≤ 64 := by omega
    have hc : vcode x = if x.b < 0 ∨ 1099511627776 - (x.r.length : Int) < x.b ∨ x.e < 0 ∨ 1073741824 < x.e then 105 else if x.r.all rcOk then 0 else 105 := by unfold vcode; rw [if_neg hA]
    clear hA
    by_cases c1 : 0 ≤ x.b ∧ x.b ≤ 1099511627776
    · have hr1 : (decide (0 ≤ x.b) && decide (x.b ≤ 1099511627776)) = true := by simp [c1]
      obtain ⟨c11, c12⟩ := c1
      by_cases c2 : x.b + (x.r.length : Int) ≤ 1099511627776
      · have hr2 : (decide (0 ≤ x.b + (x.r.length : Int)) && decide (x.b + (x.r.length : Int) ≤ 1099511627776)) = true := by simp; omega
        by_cases c3 : 0 ≤ x.e ∧ x.e ≤ 1073741824
        · have hr3 : (decide (0 ≤ x.e) && decide (x.e ≤ 1073741824)) = true := by simp [c3]
          rw [if_neg (by omega)] at hc
          have HC := Lib.hid hc
          have HR1 := Lib.hid hr1
          have HR2 := Lib.hid hr2
          have HR3 := Lib.hid hr3
          clear hc hr1 hr2 hr3
          go_enter Tryz.func53, Tryz.ntmps53
          go_wp2_with fail
          refine (rright_any _ _).mono ?_
          rintro e w' ⟨rfl, rfl⟩
          rw [HR1.out]
          go_wp2_with fail
          refine (rright_any _ _).mono ?_
          rintro e w' ⟨rfl, rfl⟩
          rw [HR2.out]
          go_wp2_with fail
          refine (repoch_any _ _).mono ?_
          rintro e w' ⟨rfl, rfl⟩
          rw [HR3.out]
          go_wp2_with fail
          go_loopg [3] x.r.length (fun r i wr => ∃ k : Nat, k + r = x.r.length ∧ i = .int .i64 k ∧ (x.r.take k).all rcOk = true ∧ Below (w.heap.size + 1) (w.alloc (.cells #[.int .i64 x.b, .int .i64 x.e, .slice va x.r.length vc] 38)) wr)
          case atStart => exact ⟨0, by omega, rfl, rfl, Below.refl _ _⟩
          case round =>
            obtain ⟨k, hk, rfl, hall, hb⟩ := hrel
            have b0 := (hb.cell (p := ⟨w.heap.size, 2, none⟩) (by simp)).trans (show _ = some (Value.slice va x.r.length vc) by go_simp)
            by_cases hlt : k < x.r.length
            · obtain ⟨g', off', cap', hv, hg', hat'⟩ := (HA.out.below hb (by simp)).at_ hlt
              cases hv
              obtain ⟨ka, kc, ua, uc, c0, c1, -, c2, -⟩ := hat'.get
              clear hat'
              have hbs := hb.size
              have j1 : (k : Int) < (x.r.length : Int) := by omega
              obtain ⟨gk, rfl⟩ : ∃ x, gk = x + 1 := ⟨gk - 1, by omega⟩
              have hnext : (x.r.take (k + 1)).all rcOk = rcOk x.r[k] := by rw [List.take_add_one, List.getElem?_eq_getElem hlt, List.all_append, hall]; simp
              have hbad : rcOk x.r[k] = false → vcode x = 105 := fun hf => by
                rw [HC.out, if_neg]
                intro hh
                have := List.all_eq_true.1 hh _ (List.getElem_mem hlt)
                rw [hf] at this; cases this
              have HB := Lib.hid hb
              by_cases q : -1099511627776 ≤ x.r[k].t ∧ x.r[k].t ≤ 1099511627776
              · have hq : (decide (-1099511627776 ≤ x.r[k].t) && decide (x.r[k].t ≤ 1099511627776)) = true := by simp [q]
                have HQ := Lib.hid hq
                by_cases q2 : 64 < x.r[k].k.length
                · have q2' : (64 : Int) < (x.r[k].k.length : Int) := by omega
                  have HN : Hid (vcode x = 105) := hbad (by simp [rcOk]; omega)
                  clear hnext hall hb hq hbad
                  go_wp2_with fail
                  refine (rtimeok_any _ _).mono ?_
                  rintro e w' ⟨rfl, rfl⟩
                  rw [HQ.out]
                  go_wp2_with fail
                  go_ret
                  exact ⟨by rw [HN.out]; rfl, below_box (HB.out.alloc (by simpa using hbs) _) (Nat.le_refl _)⟩
                · by_cases q3 : 512 < x.r[k].v.length
                  · have q2' : ¬ (64 : Int) < (x.r[k].k.length : Int) := by omega
                    have q3' : (512 : Int) < (x.r[k].v.length : Int) := by omega
                    have HN : Hid (vcode x = 105) := hbad (by simp [rcOk]; omega)
                    clear hnext hall hb hq hbad
                    go_wp2_with fail
                    refine (rtimeok_any _ _).mono ?_
                    rintro e w' ⟨rfl, rfl⟩
                    rw [HQ.out]
                    go_wp2_with fail
                    go_ret
                    exact ⟨by rw [HN.out]; rfl, below_box (HB.out.alloc (by simpa using hbs) _) (Nat.le_refl _)⟩
                  · have HN : Hid ((x.r.take (k + 1)).all rcOk = true) := by show _ = _; rw [hnext]; simp [rcOk]; omega
                    have q2' : ¬ (64 : Int) < (x.r[k].k.length : Int) := by omega
                    have q3' : ¬ (512 : Int) < (x.r[k].v.length : Int) := by omega
                    clear hnext hall hb hq hbad
                    go_wp2_with fail
                    refine (rtimeok_any _ _).mono ?_
                    rintro e w' ⟨rfl, rfl⟩
                    rw [HQ.out]
                    go_wp2_with fail
                    go_roundg gk
                    case measure => omega
                    case rel => exact ⟨k + 1, by omega, by go_num, HN.out, HB.out.alloc (by simpa using hbs) _⟩
              · have hq : (decide (-1099511627776 ≤ x.r[k].t) && decide (x.r[k].t ≤ 1099511627776)) = false := by
                  rw [Bool.and_eq_false_iff, decide_eq_false_iff_not, decide_eq_false_iff_not]; omega
                have HQ := Lib.hid hq
                have HN : Hid (vcode x = 105) := hbad (by unfold rcOk; rw [hq]; rfl)
                clear hnext hall hb hq hbad
                go_wp2_with fail
                refine (rtimeok_any _ _).mono ?_
                rintro e w' ⟨rfl, rfl⟩
                rw [HQ.out]
                go_wp2_with fail
                go_ret
                exact ⟨by rw [HN.out]; rfl, below_box (HB.out.alloc (by simpa using hbs) _) (Nat.le_refl _)⟩
            · obtain rfl : k = x.r.length := by omega
              rw [List.take_length] at hall
              have HN : Hid (vcode x = 0) := by show _ = _; rw [HC.out, if_pos hall]
              have HB := Lib.hid hb
              clear hall hb
              go_wp2_with fail
              go_ret
              exact ⟨by rw [HN.out]; rfl, below_box HB.out (Nat.le_refl _)⟩
        · have hr3 : (decide (0 ≤ x.e) && decide (x.e ≤ 1073741824)) = false := by
            rw [Bool.and_eq_false_iff, decide_eq_false_iff_not, decide_eq_false_iff_not]; omega
          rw [if_pos (by omega)] at hc
          have HR1 := Lib.hid hr1
          have HR2 := Lib.hid hr2
          have HR3 := Lib.hid hr3
          rw [hc]
          clear hc hr1 hr2 hr3
          go_enter Tryz.func53, Tryz.ntmps53
          go_wp2_with fail
          refine (rright_any _ _).mono ?_
          rintro e w' ⟨rfl, rfl⟩
          rw [HR1.out]
          go_wp2_with fail
          refine (rright_any _ _).mono ?_
          rintro e w' ⟨rfl, rfl⟩
          rw [HR2.out]
          go_wp2_with fail
          refine (repoch_any _ _).mono ?_
          rintro e w' ⟨rfl, rfl⟩
          rw [HR3.out]
          go_wp2_with fail
          go_ret
          exact ⟨rfl, (Below.refl _ _).alloc (Nat.le_refl _) _⟩
      · have hr2 : (decide (0 ≤ x.b + (x.r.length : Int)) && decide (x.b + (x.r.length : Int) ≤ 1099511627776)) = false := by
          rw [Bool.and_eq_false_iff, decide_eq_false_iff_not, decide_eq_false_iff_not]; omega
        rw [if_pos (by omega)] at hc
        have HR1 := Lib.hid hr1
        have HR2 := Lib.hid hr2
        rw [hc]
        clear hc hr1 hr2
        go_enter Tryz.func53, Tryz.ntmps53
        go_wp2_with fail
        refine (rright_any _ _).mono ?_
        rintro e w' ⟨rfl, rfl⟩
        rw [HR1.out]
        go_wp2_with fail
        refine (rright_any _ _).mono ?_
        rintro e w' ⟨rfl, rfl⟩
        rw [HR2.out]
        go_wp2_with fail
        go_ret
        exact ⟨rfl, (Below.refl _ _).alloc (Nat.le_refl _) _⟩
    · have hr1 : (decide (0 ≤ x.b) && decide (x.b ≤ 1099511627776)) = false := by
        rw [Bool.and_eq_false_iff, decide_eq_false_iff_not, decide_eq_false_iff_not]; omega
      rw [if_pos (by omega)] at hc
      have HR1 := Lib.hid hr1
      rw [hc]
      clear hc hr1
      go_enter Tryz.func53, Tryz.ntmps53
      go_wp2_with fail
      refine (rright_any _ _).mono ?_
      rintro e w' ⟨rfl, rfl⟩
      rw [HR1.out]
      go_wp2_with fail
      go_ret
      exact ⟨rfl, (Below.refl _ _).alloc (Nat.le_refl _) _⟩

end Go.Proofs.YtncjffkpkmjgkaaGreatDoor.Sg

/-! Rc -/
namespace Go.Proofs.YtncjffkpkmjgkaaGreatDoor.Sg
open Go.RowKit Er Go.Maps

theorem step_append_b {w : World} {ops : Array Oper} {o : Oper} {a : Act} {K : Act → World → Prop} {Q : Exit → Act → World → Prop} {E : Prop} (hgd : o.guard = none) (s x : Operand)
    (ho : o.op = .call { callee := .builtin .append, args := #[s, x], argTypes := #[22, 22] })
    (base : Nat) (v : Value) (n : Nat) (xs : List Nat) (hs : a.eval s = v) (hown : w.ownsRow base 5 1 v n (bcells xs)) (y : Value) (ys : List Nat) (hx : a.eval x = y) (hy : SlB w y ys) (h0 : ys ≠ [])
    (hbd : n + ys.length ≤ 70368744177664) (hbase : base ≤ w.heap.size)
    (h : ∀ v' w', w'.ownsRow base 5 1 v' (n + ys.length) (bcells (xs ++ ys)) → w.grownBy w' v.ownBlock → K (a.put o.dst v') w') : if Region.wanted o (yielded ops a.tmps) = true then Oper.wp Tryz.prog o a w K Q else E := by
  obtain ⟨i0, hi, hz0, hz1, hz2⟩ := info_parts infoU8
  rcases hy with ⟨-, rfl⟩ | ⟨g, off, cap, rfl, _, _, hc⟩ | ⟨_, _, _, rfl⟩
  case inr.inr => exact absurd rfl h0
  · exact absurd rfl h0
  · refine step_append_lies (w := w) hgd s x _ ho base 5 i0 (.int .u8 0) 1 1 Tryz.underlying22 hi hz0 hz1 hz2 rfl (by decide) v n (bcells xs) hs hown ⟨g, off, none⟩ ys.length cap (bcells ys) hx
      (by rw [bcells_len, Nat.mul_one]) (slB_news hc) (bcells_cell ys) (List.length_pos_iff.2 h0) (by unfold maxLen; omega) (by omega) hbase w.heap.size rfl fun g cap w' h1 h2 h3 h4 => ?_
    exact h _ w' (by rw [bcells_app]; exact h1) h2

theorem rlittle8 (n : Nat) (w : World) : Calls Tryz.prog 106 #[.int .u64 n, .int .i64 8] w fun e w' => (∃ v', e = .returned v' ∧ w'.ownsRow w.heap.size 5 1 v' 8 (bcells (leB n 8))) ∧ Below w.heap.size w w' := rlittle_any n 8 (by omega) w
theorem rlittle4 (n : Nat) (w : World) : Calls Tryz.prog 106 #[.int .u64 n, .int .i64 4] w fun e w' => (∃ v', e = .returned v' ∧ w'.ownsRow w.heap.size 5 1 v' 4 (bcells (leB n 4))) ∧ Below w.heap.size w w' := rlittle_any n 4 (by omega) w
theorem rlittle2 (n : Nat) (w : World) : Calls Tryz.prog 106 #[.int .u64 n, .int .i64 2] w fun e w' => (∃ v', e = .returned v' ∧ w'.ownsRow w.heap.size 5 1 v' 2 (bcells (leB n 2))) ∧ Below w.heap.size w w' := rlittle_any n 2 (by omega) w
theorem leB_ne (n k : Nat) (h : 0 < k) : leB n k ≠ [] := fun e => by have := leB_len n k; rw [e] at this; simp at this; omega

set_option maxRecDepth 100000 in
set_option maxHeartbeats 2000000 in
theorem rbatch_any (x : Bt) (hok : BtOk x) (hby : BtBy x) (v : Value) (w : World) (h : BtV w v x) :
    Calls Tryz.prog 54 #[v] w fun e w' => (∃ v', e = .returned v' ∧ w'.ownsRow w.heap.size 5 1 v' (batB x).length (bcells (batB x))) ∧ Below w.heap.size w w' := by
  obtain ⟨rs, rfl, h⟩ := h
  have ha := (h.below ((Below.refl _ _).alloc (Nat.le_refl _) (.cells #[.int .i64 x.b, .int .i64 x.e, rs] 38)) rfl)
  obtain ⟨g, off, cap, rfl, hg, hat⟩ := ha.at_ hok.n1
  rw [Nat.zero_mul, Nat.add_zero] at hat
  have c0 := hat.1
  rw [← t0_at x hok.n1] at c0
  have hg' : g < w.heap.size := by
    rcases h with ⟨h, _⟩ | ⟨g1, o1, cap1, h1, _, hg1, _⟩ | ⟨_, _, _, h0⟩
    · cases h
    · cases h1; exact hg1
    · have := hok.n1; rw [h0] at this; simp at this
  have HA := Lib.hid ha
  have HK := Lib.hid hok
  obtain ⟨bn, hbn⟩ : ∃ n : Nat, x.b = (n : Int) := ⟨x.b.toNat, by have := hok.b0; omega⟩
  obtain ⟨en, hen⟩ : ∃ n : Nat, x.e = (n : Int) := ⟨x.e.toNat, by have := hok.e0; omega⟩
  have hb1 : bn ≤ 1099511627776 := by have := hok.b1; omega
  have he1 : en ≤ 1073741824 := by have := hok.e1; omega
  have hn1 := hok.n1
  have hn64 := hok.n64
  have hz' : (0 : Int) < (x.r.length : Int) := by omega
  obtain ⟨ht1, ht2⟩ := t0_in x hok
  have HHD : Hid (headB x = leB bn 8 ++ leB en 4 ++ leB x.r.length 2) := by
    show _ = _
    unfold headB
    rw [hbn, hen]; rfl
  rw [hbn, hen] at HA c0 ⊢
  obtain ⟨W, hW⟩ : ∃ W, W = w.alloc (.cells #[.int .i64 bn, .int .i64 en, .slice (some ⟨g, off, none⟩) x.r.length cap] 38) := ⟨_, rfl⟩
  have z0 : W.cell? ⟨w.heap.size, 0, none⟩ = some (.int .i64 bn) := by rw [hW]; go_simp
  have z1 : W.cell? ⟨w.heap.size, 1, none⟩ = some (.int .i64 en) := by rw [hW]; go_simp
  have z2 : W.cell? ⟨w.heap.size, 2, none⟩ = some (.slice (some ⟨g, off, none⟩) x.r.length cap) := by rw [hW]; go_simp
  have hsW : W.heap.size = w.heap.size + 1 := by rw [hW]; simp
  have bW : w.heap.size + 1 ≤ W.heap.size := by omega
  have HSW := Lib.hid hsW
  rw [← hW] at HA c0
  have HW := Lib.hid hW
  clear ha h hat hok hsW hW
  go_enter Tryz.func54, Tryz.ntmps54
  go_wp2_with fail
  rw [← HW.out]
  have ub : IntKind.u64.wrap (bn : Int) = (bn : Int) := wraps_u64 _ (by omega) (by omega)
  have ue : IntKind.u64.wrap (en : Int) = (en : Int) := wraps_u64 _ (by omega) (by omega)
  have hdW : Below W.heap.size W W.drew := (Below.refl _ _).drew
  go_region_held3 (fun w' => w'.cell? ⟨w.heap.size, 0, none⟩ = some (.int .i64 bn) ∧ w'.cell? ⟨w.heap.size, 1, none⟩ = some (.int .i64 en))
    (first
      | go_keep
      | exact ⟨y0, y1⟩)
    (first
      | (go_at_call 106
         with_reducible refine (rlittle8 bn _).mono ?_
         rintro e wA ⟨⟨vA, rfl, hoA⟩, hbA⟩
         have y0 := (hbA.cell (p := ⟨w.heap.size, 0, none⟩) (World.block_lt_of_cell? _ _ z0)).trans z0
         have y1 := (hbA.cell (p := ⟨w.heap.size, 1, none⟩) (World.block_lt_of_cell? _ _ z1)).trans z1)
      | (go_at_call 106
         with_reducible refine (rlittle4 en _).mono ?_
         rintro e wB ⟨⟨vB, rfl, hoB⟩, hbB⟩
         have y0 := (hbB.cell (p := ⟨w.heap.size, 0, none⟩) (World.block_lt_of_cell? _ _ y0)).trans y0
         have y1 := (hbB.cell (p := ⟨w.heap.size, 1, none⟩) (World.block_lt_of_cell? _ _ y1)).trans y1)
      | (refine step_append_b (by rfl) _ _ (by rfl) (w.heap.size + 1) _ 8 (leB bn 8) (by rfl) (owns_bound (owns_below hoA hbB) bW) _ (leB en 4) (by rfl) (owns_read hoB).2 (leB_ne _ _ (by omega)) (by rw [leB_len]; omega) (Nat.le_trans bW (Nat.le_trans hbA.size hbB.size)) ?_
         intro v1 w1 hown1 hgr1
         have hbl1 : Below (w.heap.size + 1) W w1 := (((hdW.mono bW).trans (hbA.mono bW)).trans (hbB.mono (Nat.le_trans bW hbA.size))).grown hgr1 (Nat.le_trans bW (Nat.le_trans hbA.size hbB.size)) (own_fresh (owns_bound (owns_below hoA hbB) bW))
         have y0 := (hbl1.cell (p := ⟨w.heap.size, 0, none⟩) (Nat.lt_succ_self _)).trans z0
         have y1 := (hbl1.cell (p := ⟨w.heap.size, 1, none⟩) (Nat.lt_succ_self _)).trans z1))
  rw [leB_len] at hown1
  have q2 := (hbl1.cell (p := ⟨w.heap.size, 2, none⟩) (Nat.lt_succ_self _)).trans z2
  have s1 : w.heap.size + 1 ≤ w1.heap.size := Nat.le_trans bW hbl1.size
  have HO1 := Lib.hid hown1
  have HB1 := Lib.hid hbl1
  have Z2 := Lib.hid z2
  have HBW := Lib.hid bW
  clear hown1 hbl1 hgr1 hoA hbA hoB hbB ub ue hdW z0 z1 z2 y0 y1 bW
  go_wp2_with fail
  refine (rlittle2 x.r.length _).mono ?_
  rintro e w2 ⟨⟨v2, rfl, ho2⟩, hb2⟩
  have HY2 := Lib.hid (owns_read ho2).2
  have HO2 := Lib.hid (owns_below HO1.out hb2)
  have HB2 := Lib.hid (HB1.out.trans (hb2.mono s1))
  have s2 := Nat.le_trans s1 hb2.size
  clear ho2 hb2 q2 HO1 HB1 s1
  go_wp2_with (at_builtin; refine wpList_append_bytes rfl _ _ rfl (w.heap.size + 1) _ _ _ rfl HO2.out _ _ rfl HY2.out ?c3 ?c5 ?_)
  case c3 => simp [leB_len]
  case c5 => omega
  intro v3 w3 hown3 hgr3 _ _
  rw [leB_len] at hown3
  have hown3 : w3.ownsRow (w.heap.size + 1) 5 1 v3 14 (bcells (headB x)) := by rw [HHD.out]; simpa using hown3
  have hbl3 := HB2.out.grown hgr3 s2 (own_fresh HO2.out)
  have q2 := (hbl3.cell (p := ⟨w.heap.size, 2, none⟩) (Nat.lt_succ_self _)).trans Z2.out
  have c3 := (hbl3.cell (p := ⟨g, off, none⟩) (by show g < _; omega)).trans c0
  have s3 := Nat.le_trans s2 hgr3.size
  have HO3 := Lib.hid hown3
  have HB3 := Lib.hid hbl3
  clear hown3 hgr3 hbl3 HO2 HB2 s2 HY2
  go_wp2_with fail
  refine (rputint_any (t0 x) (by omega) (by omega) _).mono ?_
  rintro e w4 ⟨⟨v4, rfl, ho4⟩, hb4⟩
  have HY4 := Lib.hid (owns_read ho4).2
  have HO4 := Lib.hid (owns_below HO3.out hb4)
  have HB4 := Lib.hid (HB3.out.trans (hb4.mono s3))
  have s4 := Nat.le_trans s3 hb4.size
  have hl4 := vput_len64 (zig (t0 x)) (by have := zig_lt (t0 x) (by omega) (by omega); omega)
  clear ho4 hb4 q2 c3 HO3 HB3 s3
  go_wp2_with (at_builtin; refine wpList_append_bytes rfl _ _ rfl (w.heap.size + 1) _ _ _ rfl HO4.out _ _ rfl HY4.out ?c3 ?c5 ?_)
  case c3 => omega
  case c5 => omega
  intro v5 w5 hown5 hgr5 _ _
  have hbl5 := HB4.out.grown hgr5 s4 (own_fresh HO4.out)
  have q2 := (hbl5.cell (p := ⟨w.heap.size, 2, none⟩) (Nat.lt_succ_self _)).trans Z2.out
  have c3 := (hbl5.cell (p := ⟨g, off, none⟩) (by show g < _; omega)).trans c0
  have s5 := Nat.le_trans s4 hgr5.size
  have HO5 := Lib.hid hown5
  have HB5 := Lib.hid hbl5
  clear hown5 hgr5 hbl5 HO4 HB4 s4 HY4
  go_wp2_with fail
  go_loopg [3, 4, 5] x.r.length (fun r u q i wr => ∃ k : Nat, k + r = x.r.length ∧ i = .int .i64 k ∧ q = .int .i64 (tEnd (t0 x) (x.r.take k)) ∧
    (∃ n, wr.ownsRow (w.heap.size + 1) 5 1 u n (bcells (headB x ++ vput (zig (t0 x)) ++ bodyR (t0 x) (x.r.take k)))) ∧ Below (w.heap.size + 1) W wr)
  case atStart => exact ⟨0, by omega, rfl, rfl, ⟨_, by simpa [bodyR] using HO5.out⟩, HB5.out⟩
  case round =>
    obtain ⟨k, hk, rfl, rfl, ⟨n, hown⟩, hb⟩ := hrel
    have q2 := (hb.cell (p := ⟨w.heap.size, 2, none⟩) (Nat.lt_succ_self _)).trans Z2.out
    have hsr : w.heap.size + 1 ≤ wr.heap.size := Nat.le_trans HBW.out hb.size
    by_cases hlt : k < x.r.length
    · obtain ⟨g', off', cap', hv, hg', hat'⟩ := HA.out.at_ hlt
      cases hv
      obtain ⟨ka, kc, va, vc, z0, z1, e1, z2, e2⟩ := hat'.get
      have d0 := (hb.cell (p := ⟨g, off + k * 3, none⟩) (by show g < _; omega)).trans z0
      have d1 := (hb.cell (p := ⟨g, off + k * 3 + 1, none⟩) (by show g < _; omega)).trans z1
      have d2 := (hb.cell (p := ⟨g, off + k * 3 + 2, none⟩) (by show g < _; omega)).trans z2
      clear hat' z0 z1 z2
      obtain ⟨go, rfl⟩ : ∃ x, gk = x + 1 := ⟨gk - 1, by omega⟩
      obtain ⟨p1, p2, p3, p4⟩ := HK.out.rs _ (List.getElem_mem hlt)
      obtain ⟨p5, p6⟩ := tEnd_in (t0 x) (x.r.take k) ⟨ht1, ht2⟩ (fun y hy => HK.out.rs y (List.mem_of_mem_take hy))
      have hlen := bodyR_len (t0 x) (x.r.take k) ⟨ht1, ht2⟩ (fun y hy => HK.out.rs y (List.mem_of_mem_take hy))
      have hlt0 := vput_len64 (zig (t0 x)) (by have := zig_lt (t0 x) (by omega) (by omega); omega)
      have HNX : Hid (headB x ++ vput (zig (t0 x)) ++ bodyR (t0 x) (x.r.take (k + 1)) = headB x ++ vput (zig (t0 x)) ++ bodyR (t0 x) (x.r.take k) ++ rcB (tEnd (t0 x) (x.r.take k)) x.r[k]) := by
        show _ = _
        rw [List.take_add_one, List.getElem?_eq_getElem hlt, Option.toList_some, bodyR_snoc]
        simp only [List.append_assoc]
      have HTX : Hid (tEnd (t0 x) (x.r.take (k + 1)) = x.r[k].t) := by
        show _ = _
        rw [List.take_add_one, List.getElem?_eq_getElem hlt, Option.toList_some, tEnd_snoc]
      have hplen : (headB x ++ vput (zig (t0 x)) ++ bodyR (t0 x) (x.r.take k)).length ≤ 40000 := by
        have : (x.r.take k).length ≤ 64 := by simp; omega
        simp [headB, leB_len]; omega
      obtain ⟨hn, -⟩ := owns_read hown
      rw [← hn] at hplen
      generalize hpre : headB x ++ vput (zig (t0 x)) ++ bodyR (t0 x) (x.r.take k) = pre at *
      generalize hlast : tEnd (t0 x) (x.r.take k) = last at *
      have j1 : (k : Int) < (x.r.length : Int) := by omega
      have HO := Lib.hid hown
      have HB := Lib.hid hb
      have HKY := Lib.hid e1
      have HVL := Lib.hid e2
      have hl6 := vput_len64 (zig (x.r[k].t - last)) (by have := zig_lt (x.r[k].t - last) (by omega) (by omega); omega)
      have hl7 := vput_len64 x.r[k].k.length (by omega)
      have hl8 := vput_len64 x.r[k].v.length (by omega)
      clear hpre hlast hown hlen hlt0 e1 e2 hn hb
      go_wp2_with fail
      have ne0 := owns_lt HO.out (Nat.le_refl _)
      have HOa := Lib.hid (HO.out.alloc (.cells #[.int .i64 x.r[k].t, .slice ka x.r[k].k.length kc, .slice va x.r[k].v.length vc] 116))
      have HBa := Lib.hid (HB.out.alloc hsr (.cells #[.int .i64 x.r[k].t, .slice ka x.r[k].k.length kc, .slice va x.r[k].v.length vc] 116))
      have sa : w.heap.size + 1 ≤ (wr.alloc (.cells #[.int .i64 x.r[k].t, .slice ka x.r[k].k.length kc, .slice va x.r[k].v.length vc] 116)).heap.size := by simp; omega
      refine (rputint_any (x.r[k].t - last) (by omega) (by omega) _).mono ?_
      rintro e wb ⟨⟨vb, rfl, hob⟩, hbb⟩
      have f0 := (hbb.cell (p := ⟨wr.heap.size, 0, none⟩) (by simp)).trans (show _ = some (Value.int .i64 x.r[k].t) by go_simp)
      have f1 := (hbb.cell (p := ⟨wr.heap.size, 1, none⟩) (by simp)).trans (show _ = some (Value.slice ka x.r[k].k.length kc) by go_simp)
      have f2 := (hbb.cell (p := ⟨wr.heap.size, 2, none⟩) (by simp)).trans (show _ = some (Value.slice va x.r[k].v.length vc) by go_simp)
      have HYb := Lib.hid (owns_read hob).2
      have HOb := Lib.hid (owns_below HOa.out hbb)
      have HBb := Lib.hid (HBa.out.trans (hbb.mono sa))
      have sb := Nat.le_trans sa hbb.size
      have zb : wr.heap.size < wb.heap.size := World.block_lt_of_cell? _ _ f0
      clear hob hbb HOa HBa sa
      go_wp2_with (at_builtin; refine wpList_append_bytes rfl _ _ rfl (w.heap.size + 1) _ _ _ rfl HOb.out _ _ rfl HYb.out ?c3 ?c5 ?_)
      case c3 => omega
      case c5 => omega
      intro vc wc hownc hgrc _ hatc
      have g0 := (own_cell (o := 0) hgrc (b := wr.heap.size) zb ne0).trans f0
      have g1 := (own_cell (o := 1) hgrc (b := wr.heap.size) zb ne0).trans f1
      have g2 := (own_cell (o := 2) hgrc (b := wr.heap.size) zb ne0).trans f2
      have ne1 : vc.ownBlock ≠ some wr.heap.size := by
        rcases hatc with e' | e' <;> rw [e']
        · exact ne0
        · intro e''; have := Option.some.inj e''; omega
      have HBc := Lib.hid (HBb.out.grown hgrc sb (own_fresh HOb.out))
      have sc := Nat.le_trans sb hgrc.size
      have zc : wr.heap.size < wc.heap.size := World.block_lt_of_cell? _ _ g0
      have HOc := Lib.hid hownc
      clear hownc hgrc hatc f0 f1 f2 HBb sb zb ne0
      go_wp2_with fail
      refine (rput_any x.r[k].k.length (by omega) _).mono ?_
      rintro e wd ⟨⟨vd, rfl, hod⟩, hbd⟩
      have f0 := (hbd.cell (p := ⟨wr.heap.size, 0, none⟩) (World.block_lt_of_cell? _ _ g0)).trans g0
      have f1 := (hbd.cell (p := ⟨wr.heap.size, 1, none⟩) (World.block_lt_of_cell? _ _ g1)).trans g1
      have f2 := (hbd.cell (p := ⟨wr.heap.size, 2, none⟩) (World.block_lt_of_cell? _ _ g2)).trans g2
      have HYd := Lib.hid (owns_read hod).2
      have HOd := Lib.hid (owns_below HOc.out hbd)
      have HBd := Lib.hid (HBc.out.trans (hbd.mono sc))
      have sd := Nat.le_trans sc hbd.size
      have zd : wr.heap.size < wd.heap.size := World.block_lt_of_cell? _ _ f0
      clear hod hbd HOc HBc sc g0 g1 g2
      go_wp2_with (at_builtin; refine wpList_append_bytes rfl _ _ rfl (w.heap.size + 1) _ _ _ rfl HOd.out _ _ rfl HYd.out ?c3 ?c5 ?_)
      case c3 => omega
      case c5 => omega
      intro ve we howne hgre _ hate
      have g0 := (own_cell (o := 0) hgre (b := wr.heap.size) zd ne1).trans f0
      have g1 := (own_cell (o := 1) hgre (b := wr.heap.size) zd ne1).trans f1
      have g2 := (own_cell (o := 2) hgre (b := wr.heap.size) zd ne1).trans f2
      have ne2 : ve.ownBlock ≠ some wr.heap.size := by
        rcases hate with e' | e' <;> rw [e']
        · exact ne1
        · intro e''; have := Option.some.inj e''; omega
      have HBe := Lib.hid (HBd.out.grown hgre sd (own_fresh HOd.out))
      have se := Nat.le_trans sd hgre.size
      have ze : wr.heap.size < we.heap.size := World.block_lt_of_cell? _ _ g0
      have HOe := Lib.hid howne
      clear howne hgre hate f0 f1 f2 HBd sd zd ne1
      have HKe := Lib.hid (HKY.out.below HBe.out HSW.out.symm)
      go_wp2_with (at_builtin; refine wpList_append_bytes rfl _ _ rfl (w.heap.size + 1) _ _ _ rfl HOe.out _ _ rfl HKe.out ?c3 ?c5 ?_)
      case c3 => omega
      case c5 => omega
      intro vf wf hownf hgrf _ hatf
      have f0 := (own_cell (o := 0) hgrf (b := wr.heap.size) ze ne2).trans g0
      have f1 := (own_cell (o := 1) hgrf (b := wr.heap.size) ze ne2).trans g1
      have f2 := (own_cell (o := 2) hgrf (b := wr.heap.size) ze ne2).trans g2
      have ne3 : vf.ownBlock ≠ some wr.heap.size := by
        rcases hatf with e' | e' <;> rw [e']
        · exact ne2
        · intro e''; have := Option.some.inj e''; omega
      have HBf := Lib.hid (HBe.out.grown hgrf se (own_fresh HOe.out))
      have sf := Nat.le_trans se hgrf.size
      have zf : wr.heap.size < wf.heap.size := World.block_lt_of_cell? _ _ f0
      have HOf := Lib.hid hownf
      clear hownf hgrf hatf g0 g1 g2 HBe se ze ne2
      have g0 := f0
      have g1 := f1
      have g2 := f2
      clear f0 f1 f2
      go_wp2_with fail
      refine (rput_any x.r[k].v.length (by omega) _).mono ?_
      rintro e wg ⟨⟨vg, rfl, hog⟩, hbg⟩
      have f0 := (hbg.cell (p := ⟨wr.heap.size, 0, none⟩) (World.block_lt_of_cell? _ _ g0)).trans g0
      have f1 := (hbg.cell (p := ⟨wr.heap.size, 1, none⟩) (World.block_lt_of_cell? _ _ g1)).trans g1
      have f2 := (hbg.cell (p := ⟨wr.heap.size, 2, none⟩) (World.block_lt_of_cell? _ _ g2)).trans g2
      have HYg := Lib.hid (owns_read hog).2
      have HOg := Lib.hid (owns_below HOf.out hbg)
      have HBg := Lib.hid (HBf.out.trans (hbg.mono sf))
      have sg := Nat.le_trans sf hbg.size
      have zg : wr.heap.size < wg.heap.size := World.block_lt_of_cell? _ _ f0
      clear hog hbg HOf HBf sf g0 g1 g2
      go_wp2_with (at_builtin; refine wpList_append_bytes rfl _ _ rfl (w.heap.size + 1) _ _ _ rfl HOg.out _ _ rfl HYg.out ?c3 ?c5 ?_)
      case c3 => omega
      case c5 => omega
      intro vh wh hownh hgrh _ hath
      have g0 := (own_cell (o := 0) hgrh (b := wr.heap.size) zg ne3).trans f0
      have g1 := (own_cell (o := 1) hgrh (b := wr.heap.size) zg ne3).trans f1
      have g2 := (own_cell (o := 2) hgrh (b := wr.heap.size) zg ne3).trans f2
      have ne4 : vh.ownBlock ≠ some wr.heap.size := by
        rcases hath with e' | e' <;> rw [e']
        · exact ne3
        · intro e''; have := Option.some.inj e''; omega
      have HBh := Lib.hid (HBg.out.grown hgrh sg (own_fresh HOg.out))
      have sh := Nat.le_trans sg hgrh.size
      have zh : wr.heap.size < wh.heap.size := World.block_lt_of_cell? _ _ g0
      have HOh := Lib.hid hownh
      clear hownh hgrh hath f0 f1 f2 HBg sg zg ne3
      have HVh := Lib.hid (HVL.out.below HBh.out HSW.out.symm)
      go_wp2_with (at_builtin; refine wpList_append_bytes rfl _ _ rfl (w.heap.size + 1) _ _ _ rfl HOh.out _ _ rfl HVh.out ?c3 ?c5 ?_)
      case c3 => omega
      case c5 => omega
      intro vi wi howni hgri _ hati
      have f0 := (own_cell (o := 0) hgri (b := wr.heap.size) zh ne4).trans g0
      have f1 := (own_cell (o := 1) hgri (b := wr.heap.size) zh ne4).trans g1
      have f2 := (own_cell (o := 2) hgri (b := wr.heap.size) zh ne4).trans g2
      have ne5 : vi.ownBlock ≠ some wr.heap.size := by
        rcases hati with e' | e' <;> rw [e']
        · exact ne4
        · intro e''; have := Option.some.inj e''; omega
      have HBi := Lib.hid (HBh.out.grown hgri sh (own_fresh HOh.out))
      have si := Nat.le_trans sh hgri.size
      have zi : wr.heap.size < wi.heap.size := World.block_lt_of_cell? _ _ f0
      have HOi := Lib.hid howni
      clear howni hgri hati g0 g1 g2 HBh sh zh ne4
      go_wp2_with fail
      go_roundg go
      case measure => omega
      case rel => exact ⟨k + 1, by omega, by go_num, by rw [HTX.out], ⟨_, by rw [HNX.out]; simpa [rcB, List.append_assoc] using HOi.out⟩, HBi.out⟩
    · obtain rfl : k = x.r.length := by omega
      rw [List.take_length, show headB x ++ vput (zig (t0 x)) ++ bodyR (t0 x) x.r = bodyB x from rfl] at hown
      have hbl := bodyB_len x HK.out
      have hbt := bodyB_lt x hby
      obtain ⟨hn, hsl⟩ := owns_read hown
      obtain ⟨bd, hbd⟩ : ∃ bd, bd = bodyB x := ⟨_, rfl⟩
      have HBD : Hid (batB x = leB bd.length 4 ++ leB (crcF 0 bd) 4 ++ bd) := by show _ = _; rw [hbd]; rfl
      rw [← hbd] at hown hbl hbt hn hsl
      have HNE0 : Hid (bd ≠ []) := fun e => by
        have h : 14 ≤ bd.length := by rw [hbd]; simp [bodyB, headB, leB_len]; omega
        rw [e] at h
        simp at h
      obtain ⟨cr, hcr⟩ : ∃ cr, cr = crcF 0 bd := ⟨_, rfl⟩
      have hcl : cr < 4294967296 := by rw [hcr]; exact crcF_lt _ _
      rw [← hcr] at HBD
      subst hn
      have HO := Lib.hid hown
      have HB := Lib.hid hb
      have HSL := Lib.hid hsl
      have HBT := Lib.hid hbt
      have HCR := Lib.hid hcr
      obtain ⟨ua, uc, hu, -⟩ := hsl.shape
      clear hown hb hsl hbt hbd hcr
      subst hu
      go_wp2_with fail
      refine (rlittle4 bd.length _).mono ?_
      rintro e w6 ⟨⟨v6, rfl, ho6⟩, hb6⟩
      have HSL6 := Lib.hid (HSL.out.below hb6 rfl)
      have HO6 := Lib.hid ho6
      have HB6 := Lib.hid (HB.out.trans (hb6.mono hsr))
      have HOB := Lib.hid (owns_below HO.out hb6)
      have s6 := Nat.le_trans hsr hb6.size
      clear hb6 ho6
      go_wp2_with fail
      refine (rsum_any _ bd _ HSL6.out HBT.out (by omega)).mono ?_
      rintro e w' ⟨rfl, rfl⟩
      rw [← HCR.out]
      go_wp2_with fail
      refine (rlittle4 cr _).mono ?_
      rintro e w7 ⟨⟨v7, rfl, ho7⟩, hb7⟩
      have HY7 := Lib.hid (owns_read ho7).2
      have HO7 := Lib.hid (owns_bound (owns_below HO6.out hb7) hsr)
      have HB7 := Lib.hid (HB6.out.trans (hb7.mono s6))
      have HSL7 := Lib.hid (HSL6.out.below hb7 rfl)
      have s7 := Nat.le_trans s6 hb7.size
      have hne : ∀ q, v6.ownBlock = some q → wr.heap.size ≤ q := own_fresh HO6.out
      have hrl : ∀ q, (Value.slice ua bd.length uc).ownBlock = some q → q < wr.heap.size := fun q hq => HSL.out.own_lt HNE0.out hq
      have HNE := Lib.hid hne
      have HRL := Lib.hid hrl
      clear ho7 hb7 hne hrl
      go_wp2_with (at_builtin; refine wpList_append_bytes rfl _ _ rfl (w.heap.size + 1) _ _ _ rfl HO7.out _ _ rfl HY7.out ?c3 ?c5 ?_)
      case c3 => simp [leB_len]
      case c5 => omega
      intro v8 w8 hown8 hgr8 _ hat8
      have hsl8 : SlB w8 (.slice ua bd.length uc) bd := by
        rcases HSL7.out with h | ⟨g8, o8, c8, h1, h2, h3, h4⟩ | h
        case inr.inr => exact .inr (.inr h)
        · exact .inl h
        · refine .inr (.inl ⟨g8, o8, c8, h1, h2, Nat.lt_of_lt_of_le h3 hgr8.size, fun i y hy => ?_⟩)
          rw [← h4 i y hy]
          refine own_cell hgr8 h3 (fun e => ?_)
          have q1 := HNE.out g8 e
          have q2 := HRL.out g8 (by rw [h1]; rfl)
          omega
      have HB8 := Lib.hid (HB7.out.grown hgr8 s7 (own_fresh HO7.out))
      have s8 := Nat.le_trans s7 hgr8.size
      rw [leB_len] at hown8
      have HO8 := Lib.hid hown8
      have HSL8 := Lib.hid hsl8
      clear hown8 hgr8 hat8 hsl8
      go_wp2_with (at_builtin; refine wpList_append_bytes rfl _ _ rfl (w.heap.size + 1) _ _ _ rfl HO8.out _ _ rfl HSL8.out ?c3 ?c5 ?_)
      case c3 => omega
      case c5 => omega
      intro v9 w9 hown9 hgr9 _ _
      have HB9 := Lib.hid (HB8.out.grown hgr9 s8 (own_fresh HO8.out))
      have HO9 := Lib.hid hown9
      clear hown9 hgr9
      go_wp2_with fail
      go_ret
      
      have h9 := HO9.out
      have e1 : leB bd.length 4 ++ leB cr 4 ++ bd = batB x := HBD.out.symm
      have e2 : w9.ownsRow (w.heap.size + 1) 5 1 v9 (4 + 4 + bd.length) (bcells (batB x)) := by rw [← e1]; simpa using h9
      obtain ⟨hl9, -⟩ := owns_read e2
      rw [hl9] at e2
      refine ⟨⟨_, rfl, owns_bound e2 (by omega)⟩, ?_⟩
      have hbw := HB9.out
      rw [HW.out] at hbw
      exact below_box hbw (Nat.le_refl _)

theorem rsize_any (x : Bt) (hok : BtOk x) (hby : BtBy x) (v : Value) (w : World) (h : BtV w v x) :
    Calls Tryz.prog 15 #[v] w fun e w' => e = .returned (.int .i64 (szB x)) ∧ Below w.heap.size w w' := by
  obtain ⟨rs, rfl, hr⟩ := h
  obtain ⟨va, vc, rfl⟩ := hr.shape
  have hb0 : Below w.heap.size w (w.alloc (.cells #[.int .i64 x.b, .int .i64 x.e, .slice va x.r.length vc] 38)) := (Below.refl _ _).alloc (Nat.le_refl _) _
  have hv0 : BtV (w.alloc (.cells #[.int .i64 x.b, .int .i64 x.e, .slice va x.r.length vc] 38)) (.agg #[.int .i64 x.b, .int .i64 x.e, .slice va x.r.length vc]) x := ⟨_, rfl, hr.below hb0 rfl⟩
  have HV0 := Lib.hid hv0
  have HB0 := Lib.hid hb0
  have HC := Lib.hid hok.code
  have hn64 := hok.n64
  have HK := Lib.hid hok
  clear hr hb0 hv0 hok
  go_enter Tryz.func15, Tryz.ntmps15
  go_wp2_with fail
  refine (rvalid_any x (by omega) _ _ HV0.out).mono ?_
  rintro e w1 ⟨rfl, hb1⟩
  rw [HC.out]
  have k0 := (hb1.cell (p := ⟨w.heap.size, 0, none⟩) (by simp)).trans (show _ = some (Value.int .i64 x.b) by go_simp)
  have k1 := (hb1.cell (p := ⟨w.heap.size, 1, none⟩) (by simp)).trans (show _ = some (Value.int .i64 x.e) by go_simp)
  have k2 := (hb1.cell (p := ⟨w.heap.size, 2, none⟩) (by simp)).trans (show _ = some (Value.slice va x.r.length vc) by go_simp)
  have hv1 := HV0.out.below hb1 rfl
  have HV1 := Lib.hid hv1
  have HB1 := Lib.hid (HB0.out.trans (hb1.mono HB0.out.size))
  clear hb1 hv1
  go_wp2_with fail
  refine (rbatch_any x HK.out hby _ _ HV1.out).mono ?_
  rintro e w2 ⟨⟨v2, rfl, ho2⟩, hb2⟩
  obtain ⟨ua, uc, rfl, -⟩ := (owns_read ho2).2.shape
  have HB2 := Lib.hid (HB1.out.trans (hb2.mono HB1.out.size))
  have hsz : (batB x).length = szB x := rfl
  rw [hsz]
  clear ho2 hb2 hsz
  go_wp2_with fail
  go_ret
  exact ⟨rfl, HB2.out⟩

end Go.Proofs.YtncjffkpkmjgkaaGreatDoor.Sg
