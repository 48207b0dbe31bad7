/- seg.Cut: where a batch begins (slices.IndexFunc with its closure). seg.Sync, seg.Synced. seg.Cut. disk.picked; slices.Contains of nothing, slices.SortFunc of one; seg.Cut of an empty segment. disk.Crash of a disk with one file. seg.Cut of an empty segment, at its end. Row's batches of at most twenty numbers. -/
import Derived.Test.YtlkkagjpapjehaaGreatDoorMg
import Derived.Test.YtlkkagjpapjehaaGreatDoorMh

/-! Sc -/
namespace Go.Proofs.YtlkkagjpapjehaaGreatDoor.Sg
open Go.RowKit Er Go.Maps

/-- The first batch that begins at an offset. -/
def idxO (o : Int) : List Bt → Option Nat
  | [] => none
  | x :: l => if x.b = o then some 0 else (idxO o l).map (· + 1)
theorem idxO_some (o : Int) : ∀ (l0 l1 : List Bt) (y : Bt), (∀ x ∈ l0, x.b ≠ o) → y.b = o → idxO o (l0 ++ y :: l1) = some l0.length
  | [], l1, y, _, h => by simp [idxO, h]
  | x :: l0, l1, y, h0, h => by
    simp only [List.cons_append, idxO]
    rw [if_neg (h0 x List.mem_cons_self), idxO_some o l0 l1 y (fun z hz => h0 z (List.mem_cons_of_mem _ hz)) h]; rfl
theorem idxO_none (o : Int) : ∀ l : List Bt, (∀ x ∈ l, x.b ≠ o) → idxO o l = none
  | [], _ => rfl
  | x :: l, h0 => by
    show (if x.b = o then _ else _) = _
    rw [if_neg (h0 x List.mem_cons_self), idxO_none o l (fun z hz => h0 z (List.mem_cons_of_mem _ hz))]; rfl
/-- .. none: -1. -/
def idxB (o : Int) (l : List Bt) : Int := match idxO o l with | some k => k | none => -1
abbrev cutFn (b : Nat) : Value := .func (.func 95) #[] #[ptr b]

set_option maxRecDepth 100000 in
theorem cutfn_ok (x : Bt) (p b : Nat) (o : Int) (w : World) (hc : w.cell? ⟨b, 0, none⟩ = some (.int .i64 o)) :
    Calls Tryz.prog 95 #[.agg #[.int .i64 x.b, .int .i64 (x.b + x.r.length), .int .i64 p, .int .i64 (szB x), .int .i64 x.e, .int .i64 (tmax x)], ptr b] w fun e w' => e = .returned (.bool (x.b == o)) ∧ Below w.heap.size w w' := by
  have hb := World.block_lt_of_cell? _ _ hc
  go_enter Tryz.func95, Tryz.ntmps95
  go_wp2_with fail
  go_ret
  exact ⟨rfl, (Below.refl _ _).alloc (Nat.le_refl _) _⟩

section
variable {S : List Nat} {E : Nat → Addr} {B : Nat} {P : Pm} {s : Nat} {G : Sg} {D : Dk} {A Ad F : Mm} {w : World}

set_option maxRecDepth 100000 in
set_option maxHeartbeats 1000000 in
theorem idxfn_ok (hG : SgM s G A) (hW : SgW G) (lv : Value) (h4 : w.cell? ⟨s, 4, none⟩ = some lv) (b : Nat) (o : Int) (hb : P.m b = some (.cells #[.int .i64 o] 2 (0, 0))) (hH : Hp w P (A ++ F)) :
    Calls Tryz.prog 94 #[lv, cutFn b] w fun e w' => e = .returned (.int .i64 (idxB o G.l)) ∧ Hp w' P (A ++ F) := by
  have hbx : Pers P (fun w => w.cell? ⟨b, 0, none⟩ = some (.int .i64 o)) := fun w hw => by
    have := hw.m _ _ hb
    simp [World.cell?, this]
  obtain ⟨n, hn⟩ : ∃ n, G.l.length = n := ⟨_, rfl⟩
  have hnl := hW.len
  by_cases h0 : G.l = []
  · have hG2 := hG
    obtain ⟨lv2, Al, hA, hr⟩ := hG2
    obtain ⟨a, c, rfl⟩ := hr.shape
    have c4 : w.cell? ⟨s, 4, none⟩ = some (.slice a G.l.length c) := hH.cell (b := s) (c := sgCells G (.slice a G.l.length c)) (t := 92) (fr := (0, 0)) (by simp [hA]) rfl
    have hl0 : G.l.length = 0 := by rw [h0]; rfl
    rw [hl0] at c4
    rw [c4] at h4
    cases h4
    have H0 := Lib.hid hH
    have hi : idxB o G.l = -1 := by rw [h0]; rfl
    rw [hi]
    clear hH hr hG h0 hW c4 hn hi hb hbx hA hl0
    go_enter Tryz.func94, Tryz.ntmps94
    go_wp2_with fail
    go_loopg [8] 0 (fun m vi wr => vi = .int .i64 0 ∧ wr = w)
    case atStart => exact ⟨rfl, rfl⟩
    case round =>
      obtain ⟨rfl, rfl⟩ := hrel
      go_wp2_with fail
      go_ret
      exact ⟨rfl, H0.out⟩
  · obtain ⟨g, c, hc, hpl⟩ := hG.places h0
    obtain ⟨d4, -⟩ := hpl w P _ hH
    rw [d4] at h4
    cases h4
    rw [hn] at hc hnl ⊢
    have H0 := Lib.hid hH
    have HN := Lib.hid hn
    have HP := Lib.hid hpl
    have HBX := Lib.hid hbx
    clear hH hn hpl h0 hW d4 hb hbx
    go_enter Tryz.func94, Tryz.ntmps94
    go_wp2_with fail
    go_loopg [8] n (fun m vi wr => ∃ k : Nat, k + m = n ∧ vi = .int .i64 k ∧ (∀ x, x ∈ G.l.take k → x.b ≠ o) ∧ Hp wr P (A ++ F))
    case atStart => exact ⟨0, by omega, rfl, by simp, H0.out⟩
    case round =>
      obtain ⟨k, hk, rfl, hall, hHr⟩ := hrel
      by_cases hlt : k < n
      · obtain ⟨gj, rfl⟩ : ∃ x, gk = x + 1 := ⟨gk - 1, by omega⟩
        have hkl : k < G.l.length := by rw [HN.out]; exact hlt
        obtain ⟨x, hx⟩ : ∃ x, G.l[k] = x := ⟨_, rfl⟩
        obtain ⟨-, hpc⟩ := HP.out wr P _ hHr
        have hpc := hpc k hkl
        obtain ⟨p, hp⟩ : ∃ p, sizes (G.l.take k) = p := ⟨_, rfl⟩
        rw [hx, hp] at hpc
        have q0 := hpc 0 _ rfl
        have q1 := hpc 1 _ rfl
        have q2 := hpc 2 _ rfl
        have q3 := hpc 3 _ rfl
        have q4 := hpc 4 _ rfl
        have q5 := hpc 5 _ rfl
        rw [Nat.add_zero] at q0
        have j2 : (k : Int) < (n : Int) := by omega
        have j3 : (0 : Int) ≤ (k : Int) := by omega
        have hcx := hHr.use HBX.out
        have HHR := Lib.hid hHr
        have HX := Lib.hid hx
        have HALL := Lib.hid hall
        clear hHr hpc hx hp hall
        go_wp2_with fail
        refine (cutfn_ok x p b o _ hcx).mono ?_
        rintro e w3 ⟨rfl, hb3⟩
        have H3 := Lib.hid (HHR.out.below hb3 (Nat.le_refl _))
        clear hb3
        by_cases hxo : x.b = o
        · have hbq : (x.b == o) = true := by simp [hxo]
          rw [hbq]
          have hix : idxB o G.l = (k : Int) := by
            unfold idxB
            rw [← take_split G.l k hkl, idxO_some o _ _ _ HALL.out (by rw [HX.out]; exact hxo), List.length_take, Nat.min_eq_left (by omega)]
          have HIX := Lib.hid hix
          clear hxo hbq hix
          go_wp2_with fail
          go_ret
          exact ⟨by rw [HIX.out]; rfl, H3.out⟩
        · have hbq : (x.b == o) = false := by simp [hxo]
          rw [hbq]
          have hall2 : ∀ y, y ∈ G.l.take (k + 1) → y.b ≠ o := fun y hy => by
            rw [take_next _ k hkl] at hy
            rcases List.mem_append.1 hy with hy | hy
            · exact HALL.out y hy
            · rw [List.mem_singleton.1 hy, HX.out]; exact hxo
          have HALL2 := Lib.hid hall2
          clear hxo hbq hall2
          go_wp2_with fail
          go_roundg gj
          case measure => omega
          case rel => exact ⟨k + 1, by omega, by simp, HALL2.out, H3.out⟩
      · have hkn : k = n := by omega
        have e : G.l.take k = G.l := by rw [hkn, ← HN.out]; exact List.take_length
        rw [e] at hall
        have hix : idxB o G.l = -1 := by unfold idxB; rw [idxO_none o _ hall]
        have HIX := Lib.hid hix
        have HHR := Lib.hid hHr
        clear hall hix e hHr
        go_wp2_with fail
        go_ret
        exact ⟨by rw [HIX.out]; rfl, HHR.out⟩
end

end Go.Proofs.YtlkkagjpapjehaaGreatDoor.Sg

/-! Sd -/
namespace Go.Proofs.YtlkkagjpapjehaaGreatDoor.Sg
open Go.RowKit Er Go.Maps

theorem sizes_mono (l : List Bt) : ∀ (j k : Nat), j ≤ k → sizes (l.take j) ≤ sizes (l.take k)
  | j, 0, h => by obtain rfl : j = 0 := by omega
                  exact Nat.le_refl _
  | j, k + 1, h => by
    by_cases e : j = k + 1
    · rw [e]; exact Nat.le_refl _
    · refine Nat.le_trans (sizes_mono l j k (by omega)) ?_
      by_cases hk : k < l.length
      · rw [take_next l k hk, sizes_app]; omega
      · rw [List.take_of_length_le (by omega), List.take_of_length_le (by omega)]; exact Nat.le_refl _
def synS (kept : Nat) (b : Int) (l : List Bt) : Int × Nat := l.foldl (fun s x => (if s.2 + szB x ≤ kept then x.b + x.r.length else s.1, s.2 + szB x)) (b, 0)
/-- Where what is synced ends. -/
def synF (kept : Nat) (b : Int) (l : List Bt) : Int := (synS kept b l).1
theorem synS_step (kept : Nat) (b : Int) (l : List Bt) (k : Nat) (h : k < l.length) : synS kept b (l.take (k + 1)) = (if (synS kept b (l.take k)).2 + szB l[k] ≤ kept then l[k].b + l[k].r.length else (synS kept b (l.take k)).1, (synS kept b (l.take k)).2 + szB l[k]) := by
  unfold synS; rw [take_next l k h, List.foldl_append]; rfl
theorem synS_pos (kept : Nat) (b : Int) (l : List Bt) : ∀ k, k ≤ l.length → (synS kept b (l.take k)).2 = sizes (l.take k)
  | 0, _ => by simp [synS, sizes]
  | k + 1, h => by
    rw [synS_step _ _ l k (by omega), synS_pos kept b l k (by omega), take_next l k (by omega), sizes_app]; simp [sizes]
theorem synF_step (kept : Nat) (b : Int) (l : List Bt) (k : Nat) (h : k < l.length) : synF kept b (l.take (k + 1)) = if sizes (l.take k) + szB l[k] ≤ kept then l[k].b + l[k].r.length else synF kept b (l.take k) := by
  unfold synF; rw [synS_step _ _ l k h, synS_pos kept b l k (by omega)]
theorem synF_at (b : Int) (l : List Bt) (j : Nat) (hj : j ≤ l.length) : ∀ k, k ≤ l.length → synF (sizes (l.take j)) b (l.take k) = endOf b (l.take (min j k))
  | 0, _ => by simp [synF, synS, endOf]
  | k + 1, h => by
    have ih := synF_at b l j hj k (by omega)
    have e : sizes (l.take k) + szB l[k] = sizes (l.take (k + 1)) := by rw [take_next l k (by omega), sizes_app]; simp [sizes]
    rw [synF_step _ _ l k (by omega), e]
    by_cases hk : k + 1 ≤ j
    · rw [if_pos (sizes_mono l _ _ hk), Nat.min_eq_right hk, take_next l k (by omega), endOf_snoc]
    · rw [if_neg, ih, Nat.min_eq_left (by omega), Nat.min_eq_left (by omega)]
      have h1 := sizes_mono l j k (by omega)
      have h2 := szB_pos (l[k]'(by omega))
      omega
theorem synF_all (b : Int) (l : List Bt) : synF (sizes l) b l = endOf b l := by
  have := synF_at b l l.length (Nat.le_refl _) l.length (Nat.le_refl _)
  simpa using this

section
variable {S : List Nat} {E : Nat → Addr} {B : Nat} {P : Pm} {s : Nat} {G : Sg} {D : Dk} {A Ad F : Mm} {w : World}

def Sg.syn (G : Sg) : Sg := { G with kept := sizes G.l }

set_option maxRecDepth 100000 in
set_option maxHeartbeats 1000000 in
theorem ssync_on (C : Ctx S E B P) (hG : SgM s G A) (hO : SegOn D G) (hD : DkM P G.d D Ad) (hH : Hp w P (A ++ (Ad ++ F))) :
    Calls Tryz.prog 46 #[ptr s] w fun e w' => e = .returned .nilIface ∧ ∃ A' Ad' D', SgM s G.syn A' ∧ DkM P G.d D' Ad' ∧ SegOn D' G.syn ∧ DkSame D D' ∧ D'.used = D.used ∧
      (∀ s', s' ≠ G.nm → D'.look s' = D.look s') ∧ Hp w' P (A' ++ (Ad' ++ F)) := by
  obtain ⟨f, h1, h2, h3⟩ := hO.f
  have hr := hO.room
  have hu := hO.used
  have hnm := hO.nm
  have hW := hO.W
  have hfl : f.b.length = sizes G.l := by rw [h2, flatB_len]
  have hO2 : SegOn (D.sync f) G.syn := ⟨sync_I hO.I f, hO.ok, hO.by_, hO.base, hO.nm, ⟨{ f with s := f.b.length }, by show Dk.look _ G.nm = _; rw [sync_look hO.I h1, if_pos rfl], h2, hfl⟩, by rw [(sync_same hO.I f).room]; exact hr, by rw [sync_used hO.I h1, (sync_same hO.I f).room]; exact hu⟩
  obtain ⟨lv, c0, c1, -, -, -, -⟩ := hG.cells hH
  have HO2 := Lib.hid hO2
  have HSM := Lib.hid (sync_same hO.I f)
  have HUS := Lib.hid (sync_used hO.I h1)
  have HLK : Hid (∀ s', s' ≠ G.nm → (D.sync f).look s' = D.look s') := fun s' hs' => by rw [sync_look hO.I h1, if_neg hs']
  have HF := Lib.hid (hO.I.find_ok h1)
  have HL := Lib.hid (look_some h1).2
  have HW := Lib.hid hW
  have H0 := Lib.hid hH
  obtain ⟨n, hn⟩ : ∃ n, sizes G.l = n := ⟨_, rfl⟩
  have HN := Lib.hid hn
  clear h1 h2 h3 hH hO hO2 hfl hW hn
  go_enter Tryz.func46, Tryz.ntmps46
  go_wp2_with fail
  go_region_held3 (fun w' => w'.cell? ⟨s, 0, none⟩ = some (ptr G.d) ∧ w'.cell? ⟨s, 1, none⟩ = some (str G.nm))
    (first
      | go_keep
      | exact ⟨k0, k1⟩)
    (first
      | (go_at_call 65
         with_reducible refine (dsync_ok C hD (Hp.mid H0.out.drew) G.nm (by omega) f.blk HF.out f HL.out).mono ?_
         rintro e w1 ⟨rfl, Ad1, hD1, hH1⟩
         have hH3 := Hp.mid hH1
         obtain ⟨lv3, k0, k1, -, -, -, -⟩ := hG.cells hH3))
  have H3 := Lib.hid hH3
  have HD1 := Lib.hid hD1
  clear hH1 hH3 hD1
  go_wp2_with fail
  refine (ssize_any hG HW.out H3.out).mono ?_
  rintro e w2 ⟨rfl, hH4⟩
  rw [HN.out]
  obtain ⟨lv4, Al, rfl, hr4⟩ := hG
  have k5 := (@Hp.cell _ _ _ hH4 s (sgCells G lv4) 92 (0, 0) (by simp)) (i := 5) rfl
  have kf := @Hp.frozen _ _ _ hH4 s (sgCells G lv4) 92 (by simp) 5
  have H4 := Lib.hid hH4
  clear hH4
  go_wp2_with fail
  go_ret
  refine ⟨rfl, (s, Obj.cells (sgCells G.syn lv4) 92 (0, 0)) :: Al, Ad1, D.sync f, ⟨lv4, Al, rfl, hr4⟩, HD1.out, HO2.out, HSM.out, HUS.out, HLK.out, ?_⟩
  have := H4.out.set 5 (.int .i64 n)
  unfold Sg.syn
  rw [HN.out]
  simpa [sgCells] using this

set_option maxRecDepth 100000 in
set_option maxHeartbeats 1000000 in
theorem ssynced_ok (hG : SgM s G A) (hW : SgW G) (hH : Hp w P (A ++ F)) :
    Calls Tryz.prog 47 #[ptr s] w fun e w' => e = .returned (.int .i64 (synF G.kept G.base G.l)) ∧ Hp w' P (A ++ F) := by
  obtain ⟨n, hn⟩ : ∃ n, G.l.length = n := ⟨_, rfl⟩
  have hG2 := hG
  obtain ⟨lv, Al, hA, hr⟩ := hG2
  obtain ⟨la, lc, rfl⟩ := hr.shape
  have c4 : ∀ w F, Hp w P (A ++ F) → w.cell? ⟨s, 2, none⟩ = some (.int .i64 G.base) ∧ w.cell? ⟨s, 4, none⟩ = some (.slice la n lc) ∧ w.cell? ⟨s, 5, none⟩ = some (.int .i64 G.kept) := fun w F hH => by
    rw [← hn]
    exact ⟨hH.cell (b := s) (c := sgCells G (.slice la G.l.length lc)) (t := 92) (fr := (0, 0)) (by simp [hA]) rfl, hH.cell (b := s) (c := sgCells G (.slice la G.l.length lc)) (t := 92) (fr := (0, 0)) (by simp [hA]) rfl, hH.cell (b := s) (c := sgCells G (.slice la G.l.length lc)) (t := 92) (fr := (0, 0)) (by simp [hA]) rfl⟩
  have hnl := hW.len
  rw [hn] at hnl
  obtain ⟨d2, d4, d5⟩ := c4 w F hH
  obtain ⟨kp, hkp⟩ : ∃ k, G.kept = k := ⟨_, rfl⟩
  have H0 := Lib.hid hH
  have HN := Lib.hid hn
  have HG := Lib.hid hG
  have HW := Lib.hid hW
  have HC4 := Lib.hid c4
  rw [hkp] at d5 HC4 ⊢
  clear hH hn hG hW c4 hr hA hkp
  go_enter Tryz.func47, Tryz.ntmps47
  go_wp2_with fail
  go_loopg [3, 15] n (fun m vt vi wr => ∃ k : Nat, k + m = n ∧ vi = .int .i64 k ∧ vt = .int .i64 (synF kp G.base (G.l.take k)) ∧ Hp wr P (A ++ F))
  case atStart => exact ⟨0, by omega, rfl, rfl, H0.out⟩
  case round =>
    obtain ⟨k, hk2, rfl, rfl, hHr⟩ := hrel
    by_cases hlt : k < n
    · obtain ⟨gj, rfl⟩ : ∃ x, gk = x + 1 := ⟨gk - 1, by omega⟩
      have hkl : k < G.l.length := by rw [HN.out]; exact hlt
      obtain ⟨g, c, hc, hpl⟩ := HG.out.places (fun h => by rw [h] at hkl; simp at hkl)
      obtain ⟨-, e5, e6⟩ := HC4.out wr _ hHr
      obtain ⟨e7, hpc⟩ := hpl wr P _ hHr
      rw [HN.out] at hc e7
      rw [e7] at e5
      cases e5
      have hpc := hpc k hkl
      have hst := synF_step kp G.base G.l k hkl
      have hsk := sizes_take G.l k hkl
      have hsz := HW.out.size
      obtain ⟨x, hx⟩ : ∃ x, G.l[k] = x := ⟨_, rfl⟩
      obtain ⟨p, hp⟩ : ∃ p, sizes (G.l.take k) = p := ⟨_, rfl⟩
      rw [hx, hp] at hpc hst hsk
      have q0 := hpc 0 _ rfl
      have q1 := hpc 1 _ rfl
      have q2 := hpc 2 _ rfl
      have q3 := hpc 3 _ rfl
      have q4 := hpc 4 _ rfl
      have q5 := hpc 5 _ rfl
      rw [Nat.add_zero] at q0
      obtain ⟨sx, hsx⟩ : ∃ t, szB x = t := ⟨_, rfl⟩
      rw [hsx] at q3 hsk hst
      obtain ⟨sy, hsy⟩ : ∃ t, synF kp G.base (G.l.take k) = t := ⟨_, rfl⟩
      rw [hsy] at hst ⊢
      have hww : IntKind.i64.wrap ((p : Int) + (sx : Int)) = (p : Int) + (sx : Int) := IntWalk.i64_in _ (by omega)
      have j2 : (k : Int) < (n : Int) := by omega
      have j3 : (0 : Int) ≤ (k : Int) := by omega
      have hsb : s < wr.heap.size := World.block_lt_of_cell? _ _ e6
      have HST := Lib.hid hst
      have HHR := Lib.hid hHr
      clear hHr hpc hpl hst hx hp hsx hsy hsk hsz e7
      by_cases hle : p + sx ≤ kp
      · have hle2 : (p : Int) + (sx : Int) ≤ (kp : Int) := by omega
        go_wp2_with fail
        go_quiet (fail)
        go_wp2_with fail
        go_roundg gj
        case measure => omega
        case rel => exact ⟨k + 1, by omega, by simp, by rw [HST.out, if_pos hle], ((HHR.out.alloc _).tail).drewN _⟩
      · have hle2 : ¬ (p : Int) + (sx : Int) ≤ (kp : Int) := by omega
        go_wp2_with fail
        go_quiet (fail)
        go_wp2_with fail
        go_roundg gj
        case measure => omega
        case rel => exact ⟨k + 1, by omega, by simp, by rw [HST.out, if_neg hle], ((HHR.out.alloc _).tail).drewN _⟩
    · have hkn : k = n := by omega
      have e : G.l.take k = G.l := by rw [hkn, ← HN.out]; exact List.take_length
      rw [e]
      have HHR := Lib.hid hHr
      clear hHr e
      go_wp2_with fail
      go_ret
      exact ⟨rfl, HHR.out⟩
end

end Go.Proofs.YtlkkagjpapjehaaGreatDoor.Sg

/-! Se -/
namespace Go.Proofs.YtlkkagjpapjehaaGreatDoor.Sg
open Go.RowKit Er Go.Maps

theorem placesV_take : ∀ (l : List Bt) (p k : Nat), k ≤ l.length → (placesV p l).take (k * 6) = placesV p (l.take k)
  | [], p, k, h => by simp at h; subst h; rfl
  | x :: l, p, 0, _ => by simp [placesV]
  | x :: l, p, k + 1, h => by
    show (placeL p x ++ placesV (p + szB x) l).take ((k + 1) * 6) = placeL p x ++ placesV (p + szB x) (l.take k)
    rw [show (k + 1) * 6 = (placeL p x).length + k * 6 from by simp [placeL]; omega, List.take_length_add_append, placesV_take l _ k (by simpa using h)]
theorem placesV_one : ∀ (l : List Bt) (p : Nat), ∀ u ∈ placesV p l, u.oneCell' = true
  | [], p, u, h => by simp [placesV] at h
  | x :: l, p, u, h => by
    rcases List.mem_append.1 (show u ∈ placeL p x ++ placesV (p + szB x) l from h) with h | h
    · simp [placeL] at h
      rcases h with rfl | rfl | rfl | rfl | rfl | rfl <;> rfl
    · exact placesV_one l _ u h
section
variable {S : List Nat} {E : Nat → Addr} {B : Nat} {P : Pm} {s : Nat} {G : Sg} {D : Dk} {A Ad F : Mm} {w : World}

set_option maxRecDepth 100000 in
set_option maxHeartbeats 400000 in
theorem clonepl_ok (g k cap : Nat) (xs : List Value) (hl : xs.length = k * 6) (hone : ∀ u ∈ xs, u.oneCell' = true) (hcell : ∀ (j : Nat) u, xs[j]? = some u → w.cell? ⟨g, j, none⟩ = some u) (hk : k ≤ 1000000) (hH : Hp w P F) :
    Calls Tryz.prog 96 #[.slice (some ⟨g, 0, none⟩) k cap] w fun e w' => ∃ v A', e = .returned v ∧ RowM 87 6 v k xs A' ∧ Hp w' P (A' ++ F) := by
  have hq := fun (w : World) => Lib.run_eql_slice_nil (P := Tryz.prog) w 90 87 (some ⟨g, 0, none⟩) k cap 0 0 Tryz.underlying90
  obtain ⟨i0, hi0, hz0, hz1, hz2⟩ := info_parts infoPl
  have HI := Lib.hid hi0
  have hown := World.ownsRow_made (base := w.heap.size) (e := 87) (size := 6) w #[] 0 (Nat.le_refl _) (by unfold maxLen; omega) rfl
  have HO := Lib.hid hown
  have hc2 : ∀ (j : Nat) u, xs[j]? = some u → (w.alloc (.cells #[] 87)).cell? ((⟨g, 0, none⟩ : Addr).add j) = some u := fun j u hu => by
    have h1 := hcell j u hu
    have hg := World.block_lt_of_cell? _ _ h1
    rw [addr_add]
    have hb : Below w.heap.size w (w.alloc (.cells #[] 87)) := (Below.refl _ _).alloc (Nat.le_refl _) _
    exact (hb.cell (p := ⟨g, j, none⟩) hg).trans h1
  have HC := Lib.hid hc2
  have HONE := Lib.hid hone
  have HL := Lib.hid hl
  have H0 := Lib.hid hH
  clear hi0 hown hcell hc2 hone hl hH
  go_enter Tryz.func96, Tryz.ntmps96
  go_wp2_with (at_builtin; refine wpList_append_own_at _ rfl _ _ 90 rfl w.heap.size 87 i0 (.agg #[.int .i64 0, .int .i64 0, .int .i64 0, .int .i64 0, .int .i64 0, .int .i64 0]) 6 48 Tryz.underlying90 HI.out hz0 hz1 hz2 rfl (by decide) _ 0 [] rfl HO.out ⟨g, 0, none⟩ k cap xs rfl HL.out HC.out HONE.out ?c3 ?c4 ?c5 ?_)
  case c3 => unfold maxLen; omega
  case c4 => omega
  case c5 => simp
  intro v2 w4 hown' hgrow _ hat'
  have HO4 := Lib.hid hown'
  have HG := Lib.hid hgrow
  clear hown' hgrow hat'
  go_wp2_with fail
  go_ret
  have hb : Below w.heap.size w w4 := ((Below.refl _ _).alloc (Nat.le_refl _) _).grown HG.out (by simp) (fun k hk => by simp [Value.ownBlock] at hk; omega)
  have hown : w4.ownsRow w.heap.size 87 6 v2 k xs := by
    have := HO4.out
    simpa using this
  obtain ⟨A', hr, hH'⟩ := H0.out.rowNew (H0.out.below hb (Nat.le_refl _)) hown (Nat.le_refl _)
  exact ⟨v2, A', rfl, hr, hH'⟩

/-- A segment that is cut behind so many batches. -/
def Sg.cutK (G : Sg) (k : Nat) : Sg := { G with l := G.l.take k, kept := sizes (G.l.take k) }

set_option maxRecDepth 100000 in
set_option maxHeartbeats 2000000 in
/-- Cut where a batch begins, or at the end. -/
theorem scut_ok (C : Ctx S E B P) (hG : SgM s G A) (hO : SegOn D G) (hD : DkM P G.d D Ad) (k : Nat) (o : Int) (hne : G.l ≠ []) (hko : (∃ y, G.l[k]? = some y ∧ y.b = o ∧ ∀ z ∈ G.l.take k, z.b ≠ o) ∨ (k = G.l.length ∧ o = G.end_ ∧ ∀ z ∈ G.l, z.b ≠ o)) (hH : Hp w P (A ++ (Ad ++ F))) :
    Calls Tryz.prog 50 #[ptr s, .int .i64 o] w fun e w' => e = .returned .nilIface ∧ ∃ P' A' Ad' D', Sub P P' ∧ SgM s (G.cutK k) A' ∧ DkM P' G.d D' Ad' ∧ SegOn D' (G.cutK k) ∧ DkSame D D' ∧ D'.used ≤ D.used ∧
      (∀ s', s' ≠ G.nm → D'.look s' = D.look s') ∧ Hp w' P' (A' ++ (Ad' ++ F)) := by
  have hkl : k ≤ G.l.length := by
    rcases hko with ⟨y, h, -⟩ | ⟨h, -⟩
    · exact Nat.le_of_lt (List.getElem?_eq_some_iff.1 h).1
    · omega
  obtain ⟨f, h1, h2, h3⟩ := hO.f
  have hr := hO.room
  have hu := hO.used
  have hnm := hO.nm
  have hW := hO.W
  have hfl : f.b.length = sizes G.l := by rw [h2, flatB_len]
  have hsk : sizes (G.l.take k) ≤ sizes G.l := by
    have := sizes_mono G.l k G.l.length hkl
    rwa [List.take_length] at this
  have hft : f.b.take (sizes (G.l.take k)) = flatB (G.l.take k) := by
    have e : flatB G.l = flatB (G.l.take k) ++ flatB (G.l.drop k) := by rw [← flatB_app, List.take_append_drop]
    rw [h2, e, ← flatB_len]
    exact List.take_left
  have hus := cut_used hO.I h1 (sizes (G.l.take k)) (by omega)
  have hO2 : SegOn (D.cut f (sizes (G.l.take k))) (G.cutK k) := ⟨cut_I hO.I f _, fun x hx => hO.ok x (List.mem_of_mem_take hx), fun x hx => hO.by_ x (List.mem_of_mem_take hx), hO.base, hO.nm, ⟨{ f with b := f.b.take (sizes (G.l.take k)), s := sizes (G.l.take k) }, by show Dk.look _ G.nm = _; rw [cut_look hO.I h1, if_pos rfl], hft, rfl⟩, by rw [(cut_same hO.I f _).room]; exact hr, by rw [(cut_same hO.I f _).room]; omega⟩
  have hflen : f.b.length ≤ D.used := used_ge h1
  obtain ⟨g, c, hc, hpl⟩ := hG.places hne
  obtain ⟨P1, hs1, hH1, hm1⟩ := hH.lay (.cells #[.int .i64 o] 2)
  have hbx : Pers P1 (fun w' => w'.cell? ⟨w.heap.size, 0, none⟩ = some (.int .i64 o)) := fun w' hw => by
    have := hw.m _ _ hm1
    simp [World.cell?, this]
  obtain ⟨c4, -⟩ := hpl _ _ _ hH1
  have hbl : s < w.heap.size := by
    have := World.block_lt_of_cell? _ _ (hpl _ _ _ hH).1
    exact this
  have hxl : (placesV 0 (G.l.take k)).length = k * 6 := by rw [placesV_len, List.length_take, Nat.min_eq_left hkl]
  have hcl : ∀ w P F, Hp w P (A ++ F) → ∀ (j : Nat) u, (placesV 0 (G.l.take k))[j]? = some u → w.cell? ⟨g, j, none⟩ = some u := by
    intro w P F hH j u hj
    obtain ⟨lv, Al, rfl, hr⟩ := id hG
    have hj2 : (placesV 0 G.l)[j]? = some u := by
      rw [← placesV_take G.l 0 k hkl, List.getElem?_take] at hj
      split at hj
      · exact hj
      · cases hj
    have hH2 : Hp w P (Al ++ ((s, Obj.cells (sgCells G lv) 92 (0, 0)) :: F)) := Hp.mid (A := [_]) (B := Al) (C := F) hH
    obtain ⟨g', c', e, -, y⟩ := hr.cell hH2 hj2
    have e2 := (hpl w P F hH).1
    have e3 : w.cell? ⟨s, 4, none⟩ = some lv := hH.cell (b := s) (c := sgCells G lv) (t := 92) (fr := (0, 0)) (by simp) rfl
    rw [e3] at e2
    have e4 := Option.some.inj e2
    rw [e] at e4
    cases e4
    exact y
  obtain ⟨n, hn⟩ : ∃ n, G.l.length = n := ⟨_, rfl⟩
  obtain ⟨en, hen⟩ : ∃ e, G.end_ = e := ⟨_, rfl⟩
  obtain ⟨kz, hkz⟩ : ∃ z, sizes (G.l.take k) = z := ⟨_, rfl⟩
  obtain ⟨nz, hnz⟩ : ∃ z, sizes G.l = z := ⟨_, rfl⟩
  have hnl := hW.len
  rw [hn] at hc c4 hkl hnl
  rw [hkz] at hsk hO2 hus hft
  rw [hnz] at hsk hfl
  have hn0 : 0 < n := by rw [← hn]; exact List.length_pos_iff.2 hne
  have hc0 : ¬ c = 0 := by omega
  have hkc : k ≤ c := by omega
  have i1 : (k : Int) ≤ (c : Int) := by omega
  have HKZ := Lib.hid hkz
  have HNZ := Lib.hid hnz
  have HSM := Lib.hid (cut_same hO.I f kz)
  have HUS : Hid ((D.cut f kz).used ≤ D.used) := by show _ ≤ _; omega
  have HLK : Hid (∀ s', s' ≠ G.nm → (D.cut f kz).look s' = D.look s') := fun s' hs' => by rw [cut_look hO.I h1, if_neg hs']
  have HF := Lib.hid (hO.I.find_ok h1)
  have HL := Lib.hid (look_some h1).2
  have HO2 := Lib.hid hO2
  have HW := Lib.hid hW
  have HC := Lib.hid hcl
  have HP := Lib.hid hpl
  have HX := Lib.hid hxl
  have HBX := Lib.hid hbx
  have HM1 := Lib.hid hm1
  have HS1 := Lib.hid hs1
  have H1 := Lib.hid hH1
  have HN := Lib.hid hn
  have HEN := Lib.hid hen
  have hkn : kz ≤ f.b.length := by omega
  have hfl2 : f.b.length ≤ 1099511627776 := by omega
  clear h1 h2 h3 hH hO hO2 hfl hW hn hen hpl hH1 hm1 hs1 hbx hxl hcl hkz hnz hft hus hne
  rcases hko with ⟨y, hy, hyo, hyz⟩ | ⟨hkn2, hoe, hyz⟩
  case' inl =>
    have hklt : k < n := by rw [← HN.out]; exact (List.getElem?_eq_some_iff.1 hy).1
    have hix : idxB o G.l = (k : Int) := by
      have hkl2 : k < G.l.length := by rw [HN.out]; exact hklt
      have hyk : G.l[k] = y := by rw [List.getElem?_eq_getElem hkl2] at hy; exact Option.some.inj hy
      unfold idxB
      rw [← take_split G.l k hkl2, idxO_some o _ _ _ hyz (by rw [hyk]; exact hyo), List.length_take, Nat.min_eq_left (by omega)]
    have hy2 : ∀ w P F, Hp w P (A ++ F) → w.cell? ⟨g, k * 6 + 2, none⟩ = some (.int .i64 kz) := fun w P F hH => by
      have h1 := (HP.out w P F hH).2 k (by rw [HN.out]; exact hklt) 2 (.int .i64 (sizes (G.l.take k))) rfl
      rwa [HKZ.out] at h1
    have HY2 := Lib.hid hy2
    have HIX := Lib.hid hix
    have j1 : (0 : Int) ≤ (k : Int) := by omega
    have j2 : (k : Int) < (n : Int) := by omega
    clear hy hyo hyz hix hy2
    go_enter Tryz.func50, Tryz.ntmps50
    go_wp2_with fail
    refine (idxfn_ok hG HW.out _ c4 w.heap.size o HM1.out H1.out).mono ?_
    rintro e w2 ⟨rfl, hH2⟩
    rw [HIX.out]
    have H2 := Lib.hid hH2
    clear hH2
    go_wp2_with fail
    refine wp_region_hp (by kernel_rfl) (by decide) _ _ H2.out (fun i _ v => match i with | 0 => v = .int .i64 k | 1 => v = .bool false | 2 => v = .bool false | 3 => v = undef | 4 => v = undef | 5 => v = undef | 6 => v = undef | 7 => v = .bool false | _ => True) (by intro i P P' v _ h; exact h) ?_ ?_
    · intro i o ho u wq Pq hsq hHq hp K hK
      rcases i with _ | _ | _ | _ | _ | _ | _ | _ | i
      · cases ho
        simp only [frOf, Act.put, List.setIfInBounds_toArray, List.set_cons_zero, List.set_cons_succ, Nat.zero_add, Nat.reduceAdd] at hK ⊢
        go_simp
        exact hK _ wq Pq (Sub.refl _) hHq rfl
      · cases ho
        have h0 : u 0 = .int .i64 k := hp ⟨0, .data⟩ (by simp) rfl
        simp only [frOf, Act.put, List.setIfInBounds_toArray, List.set_cons_zero, List.set_cons_succ, Nat.zero_add, Nat.reduceAdd] at hK ⊢
        simp only [h0] at hK ⊢
        go_simp
        exact hK _ wq Pq (Sub.refl _) hHq (by simp)
      · cases ho
        have h1 : u 1 = .bool false := hp ⟨1, .data⟩ (by simp) rfl
        simp only [frOf, Act.put, List.setIfInBounds_toArray, List.set_cons_zero, List.set_cons_succ, Nat.zero_add, Nat.reduceAdd] at hK ⊢
        simp only [h1] at hK ⊢
        go_simp
        exact hK _ wq Pq (Sub.refl _) hHq rfl
      · cases ho
        have h2 : u 2 = .bool false := hp ⟨2, .guard⟩ (by simp) rfl
        simp only [frOf, Act.put, List.setIfInBounds_toArray, List.set_cons_zero, List.set_cons_succ, Nat.zero_add, Nat.reduceAdd] at hK ⊢
        simp only [h2]
        first | exact trivial | (go_simp; done) | (rw [if_neg (by decide)]; trivial) | (rw [if_neg (Bool.not_eq_true _ ▸ (by kernel_rfl))]; trivial)
      · cases ho
        have h2 : u 2 = .bool false := hp ⟨2, .guard⟩ (by simp) rfl
        simp only [frOf, Act.put, List.setIfInBounds_toArray, List.set_cons_zero, List.set_cons_succ, Nat.zero_add, Nat.reduceAdd] at hK ⊢
        simp only [h2]
        first | exact trivial | (go_simp; done) | (rw [if_neg (by decide)]; trivial) | (rw [if_neg (Bool.not_eq_true _ ▸ (by kernel_rfl))]; trivial)
      · cases ho
        have h4 : u 4 = undef := hp ⟨4, .data⟩ (by simp) rfl
        have h2 : u 2 = .bool false := hp ⟨2, .guard⟩ (by simp) rfl
        simp only [frOf, Act.put, List.setIfInBounds_toArray, List.set_cons_zero, List.set_cons_succ, Nat.zero_add, Nat.reduceAdd] at hK ⊢
        simp only [h4, h2]
        first | exact trivial | (go_simp; done) | (rw [if_neg (by decide)]; trivial) | (rw [if_neg (Bool.not_eq_true _ ▸ (by kernel_rfl))]; trivial)
      · cases ho
        have h3 : u 3 = undef := hp ⟨3, .data⟩ (by simp) rfl
        have h5 : u 5 = undef := hp ⟨5, .data⟩ (by simp) rfl
        have h2 : u 2 = .bool false := hp ⟨2, .guard⟩ (by simp) rfl
        simp only [frOf, Act.put, List.setIfInBounds_toArray, List.set_cons_zero, List.set_cons_succ, Nat.zero_add, Nat.reduceAdd] at hK ⊢
        simp only [h3, h5, h2]
        first | exact trivial | (go_simp; done) | (rw [if_neg (by decide)]; trivial) | (rw [if_neg (Bool.not_eq_true _ ▸ (by kernel_rfl))]; trivial)
      · cases ho
        have h2 : u 2 = .bool false := hp ⟨2, .data⟩ (by simp) rfl
        have h6 : u 6 = undef := hp ⟨6, .data⟩ (by simp) rfl
        simp only [frOf, Act.put, List.setIfInBounds_toArray, List.set_cons_zero, List.set_cons_succ, Nat.zero_add, Nat.reduceAdd] at hK ⊢
        simp only [h2, h6] at hK ⊢
        go_simp
        exact hK _ wq Pq (Sub.refl _) hHq rfl
      · exact absurd ho (by simp)
    intro u wq Pq hsq hHq hR
    have h7 : u 7 = .bool false := hR 7 (by decide)
    simp only [frOf, List.setIfInBounds_toArray, List.set_cons_zero, List.set_cons_succ, Nat.zero_add, Nat.reduceAdd]
    simp only [h7]
    have H3 := Lib.hid (hHq.weaken hsq)
    clear hR hHq hsq h7
    go_wp2_with fail
    refine (ssize_any hG HW.out H3.out).mono ?_
    rintro e w4 ⟨rfl, hH4⟩
    obtain ⟨d4, -⟩ := HP.out _ _ _ hH4
    rw [HN.out] at d4
    have d5 := HY2.out _ _ _ hH4
    obtain ⟨lv4, k0, k1, -, -, -, -⟩ := hG.cells hH4
    have H4 := Lib.hid hH4
    clear hH4
    go_wp2_with fail
  case' inr =>
    have hix : idxB o G.l = -1 := by unfold idxB; rw [idxO_none o _ hyz]
    have hkz2 : nz = kz := by rw [← HNZ.out, ← HKZ.out, hkn2, List.take_length]
    have hoe2 : o = en := by rw [← HEN.out]; exact hoe
    have HOE := Lib.hid hoe2
    have HIX := Lib.hid hix
    have hkn3 : k = n := by rw [hkn2]; exact HN.out
    have HZZ : Hid (sizes G.l = kz) := by show _ = _; rw [HNZ.out]; exact hkz2
    clear hkn2 hoe hyz hix hkz2 hoe2
    subst hkn3
    go_enter Tryz.func50, Tryz.ntmps50
    go_wp2_with fail
    refine (idxfn_ok hG HW.out _ c4 w.heap.size o HM1.out H1.out).mono ?_
    rintro e w2 ⟨rfl, hH2⟩
    rw [HIX.out]
    have H2 := Lib.hid hH2
    clear hH2
    go_wp2_with fail
    refine wp_region_hp (by kernel_rfl) (by decide) _ _ H2.out (fun i _ v => match i with | 0 => v = .int .i64 (-1) | 1 => v = .bool true | 2 => v = .bool true | 3 => v = .int .i64 o | 4 => v = ptr s | 5 => v = .int .i64 en | 6 => v = .bool false | 7 => v = .bool false | _ => True) (by intro i P P' v _ h; exact h) ?_ ?_
    · intro i o ho u wq Pq hsq hHq hp K hK
      rcases i with _ | _ | _ | _ | _ | _ | _ | _ | i
      · cases ho
        simp only [frOf, Act.put, List.setIfInBounds_toArray, List.set_cons_zero, List.set_cons_succ, Nat.zero_add, Nat.reduceAdd] at hK ⊢
        go_simp
        exact hK _ wq Pq (Sub.refl _) hHq rfl
      · cases ho
        have h0 : u 0 = .int .i64 (-1) := hp ⟨0, .data⟩ (by simp) rfl
        simp only [frOf, Act.put, List.setIfInBounds_toArray, List.set_cons_zero, List.set_cons_succ, Nat.zero_add, Nat.reduceAdd] at hK ⊢
        simp only [h0] at hK ⊢
        go_simp
        exact hK _ wq Pq (Sub.refl _) hHq (by rfl)
      · cases ho
        have h1 : u 1 = .bool true := hp ⟨1, .data⟩ (by simp) rfl
        simp only [frOf, Act.put, List.setIfInBounds_toArray, List.set_cons_zero, List.set_cons_succ, Nat.zero_add, Nat.reduceAdd] at hK ⊢
        simp only [h1] at hK ⊢
        go_simp
        exact hK _ wq Pq (Sub.refl _) hHq rfl
      · cases ho
        have h2 : u 2 = .bool true := hp ⟨2, .guard⟩ (by simp) rfl
        simp only [frOf, Act.put, List.setIfInBounds_toArray, List.set_cons_zero, List.set_cons_succ, Nat.zero_add, Nat.reduceAdd] at hK ⊢
        simp only [h2] at hK ⊢
        have kb : wq.cell? ⟨w.heap.size, 0, none⟩ = some (.int .i64 o) := hHq.use (HBX.out.sub hsq)
        go_simp
        exact hK _ wq Pq (Sub.refl _) hHq rfl
      · cases ho
        have h2 : u 2 = .bool true := hp ⟨2, .guard⟩ (by simp) rfl
        simp only [frOf, Act.put, List.setIfInBounds_toArray, List.set_cons_zero, List.set_cons_succ, Nat.zero_add, Nat.reduceAdd] at hK ⊢
        simp only [h2] at hK ⊢
        go_simp
        exact hK _ wq Pq (Sub.refl _) hHq rfl
      · cases ho
        have h4 : u 4 = ptr s := hp ⟨4, .data⟩ (by simp) rfl
        have h2 : u 2 = .bool true := hp ⟨2, .guard⟩ (by simp) rfl
        simp only [frOf, Act.put, List.setIfInBounds_toArray, List.set_cons_zero, List.set_cons_succ, Nat.zero_add, Nat.reduceAdd] at hK ⊢
        simp only [h4, h2] at hK ⊢
        go_simp
        with_reducible refine (end_any hG HW.out hHq).mono ?_
        rintro e w3 ⟨rfl, hH3⟩
        rw [HEN.out]
        exact hK _ w3 Pq (Sub.refl _) hH3 rfl
      · cases ho
        have h3 : u 3 = .int .i64 o := hp ⟨3, .data⟩ (by simp) rfl
        have h5 : u 5 = .int .i64 en := hp ⟨5, .data⟩ (by simp) rfl
        have h2 : u 2 = .bool true := hp ⟨2, .guard⟩ (by simp) rfl
        simp only [frOf, Act.put, List.setIfInBounds_toArray, List.set_cons_zero, List.set_cons_succ, Nat.zero_add, Nat.reduceAdd] at hK ⊢
        simp only [h3, h5, h2] at hK ⊢
        go_simp
        exact hK _ wq Pq (Sub.refl _) hHq (by simp [HOE.out])
      · cases ho
        have h2 : u 2 = .bool true := hp ⟨2, .data⟩ (by simp) rfl
        have h6 : u 6 = .bool false := hp ⟨6, .data⟩ (by simp) rfl
        simp only [frOf, Act.put, List.setIfInBounds_toArray, List.set_cons_zero, List.set_cons_succ, Nat.zero_add, Nat.reduceAdd] at hK ⊢
        simp only [h2, h6] at hK ⊢
        go_simp
        exact hK _ wq Pq (Sub.refl _) hHq rfl
      · exact absurd ho (by simp)
    intro u wq Pq hsq hHq hR
    have h7 : u 7 = .bool false := hR 7 (by decide)
    simp only [frOf, List.setIfInBounds_toArray, List.set_cons_zero, List.set_cons_succ, Nat.zero_add, Nat.reduceAdd]
    simp only [h7]
    have H3 := Lib.hid (hHq.weaken hsq)
    clear hR hHq hsq h7
    obtain ⟨c4b, -⟩ := HP.out _ _ _ H3.out
    rw [HN.out] at c4b
    go_wp2_with fail
    refine (ssize_any hG HW.out H3.out).mono ?_
    rintro e w4 ⟨rfl, hH4⟩
    rw [HZZ.out]
    obtain ⟨d4, -⟩ := HP.out _ _ _ hH4
    rw [HN.out] at d4
    obtain ⟨lv4, k0, k1, -, -, -, -⟩ := hG.cells hH4
    have H4 := Lib.hid hH4
    clear hH4
    go_wp2_with fail
  all_goals
    go_region_held3 (fun w' => w'.cell? ⟨s, 0, none⟩ = some (ptr G.d) ∧ w'.cell? ⟨s, 1, none⟩ = some (str G.nm))
      (first
        | go_keep
        | exact ⟨k0, k1⟩)
      (first
        | (go_at_call 76
           with_reducible refine (dcut_ok (C.sub HS1.out) (hD.sub HS1.out) (Hp.mid H4.out.drew) G.nm (by omega) f.blk HF.out f HL.out kz hkn hfl2).mono ?_
           rintro e w5 ⟨rfl, P5, Ad5, hs5, hD5, hH5⟩
           have hH6 := Hp.mid hH5
           obtain ⟨lv5, k0, k1, -, -, -, -⟩ := hG.cells hH6))
    obtain ⟨d6, -⟩ := HP.out _ _ _ hH6
    rw [HN.out] at d6
    have H6 := Lib.hid hH6
    have HD5 := Lib.hid hD5
    have HS5 := Lib.hid (HS1.out.trans hs5)
    clear hH5 hH6 hD5 hs5 d4
    go_wp2_with fail
    refine (clonepl_ok g k c (placesV 0 (G.l.take k)) HX.out (fun u hu => placesV_one _ _ u hu) (HC.out _ _ _ H6.out) (by omega) H6.out).mono ?_
    rintro e w7 ⟨v7, A7, rfl, hr7, hH7⟩
    obtain ⟨a7, c7, rfl⟩ := hr7.shape
    obtain ⟨lv, Al, hA, hr⟩ := id hG
    have hH8 : Hp w7 P5 ((s, Obj.cells (sgCells G lv) 92 (0, 0)) :: (A7 ++ (Al ++ (Ad5 ++ F)))) := by
      rw [hA] at hH7
      have := Hp.mid (A := A7) (B := [(s, Obj.cells (sgCells G lv) 92 (0, 0))]) (C := Al ++ (Ad5 ++ F)) (by simpa using hH7)
      simpa using this
    have e4 := (@Hp.cell _ _ _ hH8 s _ _ (0, 0) List.mem_cons_self) (i := 4) rfl
    have e5 := (@Hp.cell _ _ _ hH8 s _ _ (0, 0) List.mem_cons_self) (i := 5) rfl
    have f4 := @Hp.frozen _ _ _ hH8 s _ _ List.mem_cons_self 4
    have f5 := @Hp.frozen _ _ _ hH8 s _ _ List.mem_cons_self 5
    have H8 := Lib.hid hH8
    have HR7 := Lib.hid hr7
    clear hH7 hH8 hr7 hA hr d6
    go_wp2_with fail
    go_ret
    refine ⟨rfl, P5, (s, Obj.cells (sgCells (G.cutK k) (.slice a7 k c7)) 92 (0, 0)) :: A7, Ad5, D.cut f kz, HS5.out, ⟨_, A7, rfl, ?_⟩, HD5.out, HO2.out, HSM.out, HUS.out, HLK.out, ?_⟩
    · have hl : (G.cutK k).l.length = k := by show (G.l.take k).length = k; rw [List.length_take, HN.out]; omega
      rw [hl]; exact HR7.out
    · have h1 := (H8.out.set 4 (.slice a7 k c7)).set 5 (.int .i64 kz)
      have h2 := (Hp.mid (A := (s, _) :: A7) (B := Al) (C := Ad5 ++ F) h1).drop
      unfold Sg.cutK
      rw [HKZ.out]
      simpa [sgCells] using h2

set_option maxRecDepth 100000 in
set_option maxHeartbeats 1000000 in
/-- Cut elsewhere: refused. -/
theorem scut_out (C : Ctx S E B P) (hG : SgM s G A) (hW : SgW G) (o : Int) (hoe : o ≠ G.end_) (hyz : ∀ z ∈ G.l, z.b ≠ o) (hH : Hp w P (A ++ F)) :
    Calls Tryz.prog 50 #[ptr s, .int .i64 o] w fun e w' => e = .returned (.iface 248 (.pointer (some (E 14)))) ∧ ∃ P', Sub P P' ∧ Hp w' P' (A ++ F) := by
  obtain ⟨P1, hs1, hH1, hm1⟩ := hH.lay (.cells #[.int .i64 o] 2)
  have hbx : Pers P1 (fun w' => w'.cell? ⟨w.heap.size, 0, none⟩ = some (.int .i64 o)) := fun w' hw => by
    have := hw.m _ _ hm1
    simp [World.cell?, this]
  obtain ⟨en, hen⟩ : ∃ e, G.end_ = e := ⟨_, rfl⟩
  rw [hen] at hoe
  have hix : idxB o G.l = -1 := by unfold idxB; rw [idxO_none o _ hyz]
  obtain ⟨lv, Al, hA, hr⟩ := id hG
  obtain ⟨la, lc, rfl⟩ := hr.shape
  have c4 : (w.alloc (.cells #[.int .i64 o] 2)).cell? ⟨s, 4, none⟩ = some (.slice la G.l.length lc) := hH1.cell (b := s) (c := sgCells G (.slice la G.l.length lc)) (t := 92) (fr := (0, 0)) (by simp [hA]) rfl
  have hbl : s < w.heap.size := hH.lt (x := (s, Obj.cells (sgCells G (.slice la G.l.length lc)) 92 (0, 0))) (by simp [hA])
  have ce : ∀ w, Agr P1 w → w.cell? ⟨0, 0, none⟩ = some (.iface 248 (.pointer (some (E 14)))) := fun w hw => ((C.sub hs1).errs w hw).at_ 14 (C.all 14 (by omega))
  have HW := Lib.hid hW
  have HBX := Lib.hid hbx
  have HM1 := Lib.hid hm1
  have HS1 := Lib.hid hs1
  have H1 := Lib.hid hH1
  have HEN := Lib.hid hen
  have HOE := Lib.hid hoe
  have HIX := Lib.hid hix
  have HCE := Lib.hid ce
  clear hH hW hen hH1 hm1 hs1 hbx hoe hyz hix ce hA hr
  go_enter Tryz.func50, Tryz.ntmps50
  go_wp2_with fail
  refine (idxfn_ok hG HW.out _ c4 w.heap.size o HM1.out H1.out).mono ?_
  rintro e w2 ⟨rfl, hH2⟩
  rw [HIX.out]
  have H2 := Lib.hid hH2
  clear hH2
  go_wp2_with fail
  refine wp_region_hp (by kernel_rfl) (by decide) _ _ H2.out (fun i _ v => match i with | 0 => v = .int .i64 (-1) | 1 => v = .bool true | 2 => v = .bool true | 3 => v = .int .i64 o | 4 => v = ptr s | 5 => v = .int .i64 en | 6 => v = .bool true | 7 => v = .bool true | _ => True) (by intro i P P' v _ h; exact h) ?_ ?_
  · intro i o ho u wq Pq hsq hHq hp K hK
    rcases i with _ | _ | _ | _ | _ | _ | _ | _ | i
    · cases ho
      simp only [frOf, Act.put, List.setIfInBounds_toArray, List.set_cons_zero, List.set_cons_succ, Nat.zero_add, Nat.reduceAdd] at hK ⊢
      go_simp
      exact hK _ wq Pq (Sub.refl _) hHq rfl
    · cases ho
      have h0 : u 0 = .int .i64 (-1) := hp ⟨0, .data⟩ (by simp) rfl
      simp only [frOf, Act.put, List.setIfInBounds_toArray, List.set_cons_zero, List.set_cons_succ, Nat.zero_add, Nat.reduceAdd] at hK ⊢
      simp only [h0] at hK ⊢
      go_simp
      exact hK _ wq Pq (Sub.refl _) hHq (by rfl)
    · cases ho
      have h1 : u 1 = .bool true := hp ⟨1, .data⟩ (by simp) rfl
      simp only [frOf, Act.put, List.setIfInBounds_toArray, List.set_cons_zero, List.set_cons_succ, Nat.zero_add, Nat.reduceAdd] at hK ⊢
      simp only [h1] at hK ⊢
      go_simp
      exact hK _ wq Pq (Sub.refl _) hHq rfl
    · cases ho
      have h2 : u 2 = .bool true := hp ⟨2, .guard⟩ (by simp) rfl
      simp only [frOf, Act.put, List.setIfInBounds_toArray, List.set_cons_zero, List.set_cons_succ, Nat.zero_add, Nat.reduceAdd] at hK ⊢
      simp only [h2] at hK ⊢
      have kb : wq.cell? ⟨w.heap.size, 0, none⟩ = some (.int .i64 o) := hHq.use (HBX.out.sub hsq)
      go_simp
      exact hK _ wq Pq (Sub.refl _) hHq rfl
    · cases ho
      have h2 : u 2 = .bool true := hp ⟨2, .guard⟩ (by simp) rfl
      simp only [frOf, Act.put, List.setIfInBounds_toArray, List.set_cons_zero, List.set_cons_succ, Nat.zero_add, Nat.reduceAdd] at hK ⊢
      simp only [h2] at hK ⊢
      go_simp
      exact hK _ wq Pq (Sub.refl _) hHq rfl
    · cases ho
      have h4 : u 4 = ptr s := hp ⟨4, .data⟩ (by simp) rfl
      have h2 : u 2 = .bool true := hp ⟨2, .guard⟩ (by simp) rfl
      simp only [frOf, Act.put, List.setIfInBounds_toArray, List.set_cons_zero, List.set_cons_succ, Nat.zero_add, Nat.reduceAdd] at hK ⊢
      simp only [h4, h2] at hK ⊢
      go_simp
      with_reducible refine (end_any hG HW.out hHq).mono ?_
      rintro e w3 ⟨rfl, hH3⟩
      rw [HEN.out]
      exact hK _ w3 Pq (Sub.refl _) hH3 rfl
    · cases ho
      have h3 : u 3 = .int .i64 o := hp ⟨3, .data⟩ (by simp) rfl
      have h5 : u 5 = .int .i64 en := hp ⟨5, .data⟩ (by simp) rfl
      have h2 : u 2 = .bool true := hp ⟨2, .guard⟩ (by simp) rfl
      simp only [frOf, Act.put, List.setIfInBounds_toArray, List.set_cons_zero, List.set_cons_succ, Nat.zero_add, Nat.reduceAdd] at hK ⊢
      simp only [h3, h5, h2] at hK ⊢
      go_simp
      exact hK _ wq Pq (Sub.refl _) hHq (by simp [HOE.out])
    · cases ho
      have h2 : u 2 = .bool true := hp ⟨2, .data⟩ (by simp) rfl
      have h6 : u 6 = .bool true := hp ⟨6, .data⟩ (by simp) rfl
      simp only [frOf, Act.put, List.setIfInBounds_toArray, List.set_cons_zero, List.set_cons_succ, Nat.zero_add, Nat.reduceAdd] at hK ⊢
      simp only [h2, h6] at hK ⊢
      go_simp
      exact hK _ wq Pq (Sub.refl _) hHq rfl
    · exact absurd ho (by simp)
  intro u wq Pq hsq hHq hR
  have h7 : u 7 = .bool true := hR 7 (by decide)
  simp only [frOf, List.setIfInBounds_toArray, List.set_cons_zero, List.set_cons_succ, Nat.zero_add, Nat.reduceAdd]
  simp only [h7]
  have H3 := Lib.hid (hHq.weaken hsq)
  clear hR hHq hsq h7
  have ce3 := HCE.out _ H3.out.agr
  go_wp2_with fail
  go_ret
  exact ⟨rfl, P1, HS1.out, H3.out⟩
end

end Go.Proofs.YtlkkagjpapjehaaGreatDoor.Sg

/-! Sf -/
namespace Go.Proofs.YtlkkagjpapjehaaGreatDoor.Sg
open Go.RowKit Er Go.Maps

/-- What a pick says. -/
def pickF (xs : List Int) (k n : Nat) : Nat := match xs[k]? with | some x => ((Int.tmod x ((n : Int) + 1) + (n : Int) + 1) % ((n : Int) + 1)).toNat | none => 0
theorem pick_emod (x : Int) (n : Nat) : 0 ≤ (Int.tmod x ((n : Int) + 1) + (n : Int) + 1) % ((n : Int) + 1) ∧ (Int.tmod x ((n : Int) + 1) + (n : Int) + 1) % ((n : Int) + 1) < (n : Int) + 1 :=
  ⟨Int.emod_nonneg _ (by omega), Int.emod_lt_of_pos _ (by omega)⟩
theorem pickF_le (xs : List Int) (k n : Nat) : pickF xs k n ≤ n := by
  unfold pickF
  split
  · rename_i x _
    have := pick_emod x n
    omega
  · omega

set_option maxRecDepth 100000 in
theorem picked_ok (w : World) (a : Option Addr) (xs : List Int) (m c : Nat) (hm : xs.length = m) (hr : IntsR w a xs) (k n : Nat) (hn : n ≤ 1099511627776) :
    Calls Tryz.prog 86 #[.slice a m c, .int .i64 k, .int .i64 n] w fun e w' => e = .returned (.int .i64 (pickF xs k n)) ∧ w' = w := by
  by_cases hk : k < xs.length
  · obtain ⟨g, off, rfl, hg, hc⟩ := hr k xs[k] (List.getElem?_eq_getElem hk)
    obtain ⟨x, hx⟩ : ∃ x, xs[k] = x := ⟨_, rfl⟩
    have hp : ((pickF xs k n : Nat) : Int) = (Int.tmod x ((n : Int) + 1) + (n : Int) + 1) % ((n : Int) + 1) := by
      unfold pickF
      rw [List.getElem?_eq_getElem hk, hx]
      have := pick_emod x n
      dsimp only
      omega
    rw [hx] at hc
    rw [hm] at hk
    have j1 : (k : Int) < (m : Int) := by omega
    have j2 : (0 : Int) ≤ (k : Int) := by omega
    have j3 : ¬ (m : Int) ≤ (k : Int) := by omega
    obtain ⟨t1, t2, -, -⟩ := tmod_emod x ((n : Int) + 1) (by omega)
    have HP := Lib.hid hp
    have hr2 := hr
    clear hr hr2 hx hm hp
    go_enter Tryz.func86, Tryz.ntmps86
    go_wp2_with fail
    go_ret
    exact ⟨by rw [HP.out]; rfl, rfl⟩
  · have j3 : (m : Int) ≤ (k : Int) := by omega
    have hp : pickF xs k n = 0 := by unfold pickF; rw [List.getElem?_eq_none (by omega)]
    rw [hp]
    clear hr hm hk hp
    go_enter Tryz.func86, Tryz.ntmps86
    go_wp2_with fail
    go_ret
    exact ⟨rfl, rfl⟩
theorem picked_zero (w : World) (a : Option Addr) (xs : List Int) (m c : Nat) (hm : xs.length = m) (hr : IntsR w a xs) :
    Calls Tryz.prog 86 #[.slice a m c, .int .i64 0, .int .i64 0] w fun e w' => e = .returned (.int .i64 0) ∧ w' = w := by
  refine (picked_ok w a xs m c hm hr 0 0 (by omega)).mono ?_
  rintro e w' ⟨rfl, rfl⟩
  have := pickF_le xs 0 0
  rw [show pickF xs 0 0 = 0 by omega]
  exact ⟨rfl, rfl⟩
theorem picked_q (w : World) (a : Option Addr) (xs : List Int) (m c : Nat) (hm : xs.length = m) (hr : IntsR w a xs) (n : Nat) (hn : n ≤ 1099511627776) (z : Int) (hz : z = (n : Int)) :
    Calls Tryz.prog 86 #[.slice a m c, .int .i64 1, .int .i64 z] w fun e w' => e = .returned (.int .i64 (pickF xs 1 n)) ∧ w' = w := by
  subst hz
  exact picked_ok w a xs m c hm hr 1 n hn

set_option maxRecDepth 100000 in
theorem contains0 (b : Nat) (w : World) : Calls Tryz.prog 88 #[.slice none 0 0, ptr b] w fun e w' => e = .returned (.bool false) ∧ w' = w := by
  go_enter Tryz.func88, Tryz.ntmps88
  go_wp2_with fail
  have hi : Calls Tryz.prog 112 #[.slice none 0 0, ptr b] w fun e w' => e = .returned (.int .i64 (-1)) ∧ w' = w := by
    go_enter Tryz.func112, Tryz.ntmps112
    go_wp2_with fail
    go_loopg [8] 0 (fun m vi wr => vi = .int .i64 0 ∧ wr = w)
    case atStart => exact ⟨rfl, rfl⟩
    case round =>
      obtain ⟨rfl, rfl⟩ := hrel
      go_wp2_with fail
      go_ret
      exact ⟨rfl, rfl⟩
  refine hi.mono ?_
  rintro e w1 ⟨rfl, rfl⟩
  go_wp2_with fail
  go_ret
  exact ⟨rfl, rfl⟩

set_option maxRecDepth 100000 in
theorem len64_one (w : World) : Calls Tryz.prog 140 #[.int .u64 1] w fun e w' => (∃ q, e = .returned (.int .i64 q)) ∧ w' = w := by
  go_enter Tryz.func140, Tryz.ntmps140
  go_wp2_with fail
  go_ret
  exact ⟨⟨_, rfl⟩, rfl⟩
set_option maxRecDepth 100000 in
theorem len_one (w : World) : Calls Tryz.prog 114 #[.int .u64 1] w fun e w' => (∃ q, e = .returned (.int .i64 q)) ∧ w' = w := by
  go_enter Tryz.func114, Tryz.ntmps114
  go_wp2_with fail
  refine (len64_one w).mono ?_
  rintro e w1 ⟨⟨q, rfl⟩, rfl⟩
  go_wp2_with fail
  go_ret
  exact ⟨⟨_, rfl⟩, rfl⟩
abbrev cmpFn : Value := .func (.func 90) #[] #[]
set_option maxRecDepth 100000 in
theorem insort_one (v : Value) (w : World) : Calls Tryz.prog 131 #[v, .int .i64 0, .int .i64 1, cmpFn] w fun e w' => e = .returned (.tuple #[]) ∧ w' = w := by
  go_enter Tryz.func131, Tryz.ntmps131
  go_wp2_with fail
  go_loopg [8] 0 (fun m vi wr => vi = .int .i64 1 ∧ wr = w)
  case atStart => exact ⟨rfl, rfl⟩
  case round =>
    obtain ⟨rfl, rfl⟩ := hrel
    go_wp2_with fail
    first | go_end0 | refine bodyPost_ret (results_none rfl _ _ _) rfl ?_
    exact ⟨rfl, rfl⟩
set_option maxRecDepth 100000 in
theorem pdq_one (v : Value) (q : Int) (w : World) : Calls Tryz.prog 113 #[v, .int .i64 0, .int .i64 1, .int .i64 q, cmpFn] w fun e w' => e = .returned (.tuple #[]) ∧ w' = w := by
  go_enter Tryz.func113, Tryz.ntmps113
  go_wp2_with fail
  go_loopg [1, 2, 3, 10, 11] 0 (fun m va vb vl vx vy wr => va = .int .i64 0 ∧ vb = .int .i64 1 ∧ wr = w)
  case atStart => exact ⟨rfl, rfl, rfl⟩
  case round =>
    obtain ⟨rfl, rfl, rfl⟩ := hrel
    go_wp2_with fail
    refine (insort_one v _).mono ?_
    rintro e w1 ⟨rfl, rfl⟩
    go_wp2_with fail
    first | go_end0 | refine bodyPost_ret (results_none rfl _ _ _) rfl ?_
    exact ⟨rfl, rfl⟩
set_option maxRecDepth 100000 in
theorem sort_one (a : Option Addr) (c : Nat) (w : World) : Calls Tryz.prog 89 #[.slice a 1 c, cmpFn] w fun e w' => e = .returned (.tuple #[]) ∧ w' = w := by
  go_enter Tryz.func89, Tryz.ntmps89
  go_wp2_with fail
  refine (len_one w).mono ?_
  rintro e w1 ⟨⟨q, rfl⟩, rfl⟩
  go_wp2_with fail
  refine (pdq_one _ q _).mono ?_
  rintro e w1 ⟨rfl, rfl⟩
  go_wp2_with fail
  first | go_end0 | refine bodyPost_ret (results_none rfl _ _ _) rfl ?_
  exact ⟨rfl, rfl⟩

section
variable {S : List Nat} {E : Nat → Addr} {B : Nat} {P : Pm} {s : Nat} {G : Sg} {D : Dk} {A Ad F : Mm} {w : World}
set_option maxRecDepth 100000 in
theorem clonepl_nil (w : World) : Calls Tryz.prog 96 #[.slice none 0 0] w fun e w' => e = .returned (.slice none 0 0) ∧ w' = w := by
  have hq := fun (w : World) => Lib.run_eql_slice_nil (P := Tryz.prog) w 90 87 none 0 0 0 0 Tryz.underlying90
  go_enter Tryz.func96, Tryz.ntmps96
  go_wp2_with fail
  go_ret
  exact ⟨rfl, rfl⟩
end
end Go.Proofs.YtlkkagjpapjehaaGreatDoor.Sg

/-! Sk -/
namespace Go.Proofs.YtlkkagjpapjehaaGreatDoor.Sg
open Go.RowKit Er Go.Maps

theorem infoFp : (Tryz.prog.info? 130).map (fun i => (i.zero, i.size, i.bytes)) = some (some (.pointer none), 1, 8) := by kernel_rfl
/-- A disk of one file behind a crash. -/
def Dk.crash1 (D : Dk) (f : Fl) (p : Nat) : Dk := { D with nm := D.kp, ch := [], fl := fset D.fl { f with b := f.b.take (f.s + p), s := f.s + p }, arm := 0, down := false }

/-- append of one element, and what has turned by it. -/
theorem wpList_push_g {w : World} {P : Pm} {A F : Mm} {o : Oper} {a : Act} {Q : Exit → Act → World → Prop} {ops : Array Oper} {rest : List Oper} (hgd : o.guard = none) (s x : Operand) (t : TypeId) (ho : o.op = .call { callee := .builtin .append, args := #[s, x], argTypes := #[t, t] })
    (e : TypeId) (z : Value) (size bytes : Nat) (ht : Tryz.prog.underlying t = some (.slice e)) (hinfo : (Tryz.prog.info? e).map (fun i => (i.zero, i.size, i.bytes)) = some (some z, size, bytes)) (hzs : z.cells.size = size) (hsz : 0 < size)
    (v : Value) (n : Nat) (xs : List Value) (hs : a.eval s = v) (hH : Hp w P (A ++ F)) (hr : RowM e size v n xs A) (news : Array Value) (hx : a.eval x = .slice (some ⟨w.heap.size, 0, none⟩) 1 1) (hl : news.size = size)
    (h1 : ∀ u ∈ news, u.oneCell' = true) (hn : n ≤ 1000000000) (hb : bytes ≤ 10000)
    (h : ∀ g cap w' A', RowM e size (.slice (some ⟨g, 0, none⟩) (n + 1) cap) (n + 1) (xs ++ news.toList) A' → Hp w' P (A' ++ F) → (w.alloc (.cells news e)).grownBy w' v.ownBlock → wpList Tryz.prog ops Q rest (a.put o.dst (.slice (some ⟨g, 0, none⟩) (n + 1) cap)) w') :
    wpList Tryz.prog ops Q (o :: rest) a (w.alloc (.cells news e)) := by
  obtain ⟨i0, hi, hz0, hz1, hz2⟩ := info_parts hinfo
  have hbb : (n + 1) * bytes ≤ 140737488355328 := Nat.le_trans (Nat.mul_le_mul (show n + 1 ≤ 1000000001 by omega) hb) (by omega)
  refine wpList_append_lies (w.alloc (.cells news e)) hgd s x t ho 0 e i0 z size bytes ht hi hz0 hz1 hz2 hzs hsz v n xs hs ((hr.owns hH).alloc _) ⟨w.heap.size, 0, none⟩ 1 1 news.toList hx (by simp [hl])
    (World.news_of_block (cs := news) (t := e) (fr := (0, 0)) (heap_alloc_new w _)) (by simpa using h1) (by omega) (by unfold maxLen; omega) hbb (Nat.zero_le _) (w.heap.size + 1) (by simp) ?_
  intro g cap w' hown hg hat _
  have hH2 : Hp (w.alloc (.cells news e)) P (A ++ F) := (hH.alloc _).tail
  obtain ⟨A', hr', hH'⟩ := hH2.rowGrown hr hg hown (by
    rcases hat with e1 | e1
    · exact .inl e1.symm
    · exact .inr ⟨w.heap.size + 1, by rw [e1]; rfl, by simp⟩)
  exact h g cap w' A' hr' hH' hg

section
variable {S : List Nat} {E : Nat → Addr} {B : Nat} {P : Pm} {s : Nam} {d b : Nat} {D : Dk} {A F : Mm} {w : World}

/-- What holds at the head of Crash's second loop. -/
def CrRel (s : Nam) (b kb r n : Nat) (Dm : DataW Value) (P : Pm) (M : Mm) (cnt : Nat) (v : Value) (w : World) : Prop :=
  ∃ left Al, w.ranges Tryz.prog 9 Rv kb r n Dm left cnt ∧ ((left (.string s) = true ∧ v = .slice none 0 0 ∧ Al = []) ∨ (left (.string s) = false ∧ RowM 130 1 v 1 [ptr b] Al)) ∧ Hp w P (Al ++ M)

set_option maxRecDepth 100000 in
set_option maxHeartbeats 4000000 in
theorem crash1_ok (hD : DkM P d D A) (hk : D.kp = [(s, b)]) (hc : D.ch = []) (f : Fl) (hf : ffind D.fl b = some f) (hfs : f.s ≤ f.b.length) (hfb : f.b.length ≤ 1099511627776) (a : Option Addr) (xs : List Int) (pc : Nat) (hpk : Pers P (fun w => IntsR w a xs)) (hH : Hp w P (A ++ F)) :
    Calls Tryz.prog 48 #[ptr d, .slice a xs.length pc] w fun e w' => e = .returned (.tuple #[]) ∧ ∃ p P' A', p ≤ f.b.length - f.s ∧ Sub P P' ∧ DkM P' d (D.crash1 f p) A' ∧ Hp w' P' (A' ++ F) := by
  obtain ⟨hfm, hfblk⟩ := ffind_mem hf
  subst hfblk
  have hnd := hH.nd
  obtain ⟨nb, no, kb, ko, cv, Ac, Af, rfl, h2, h3, h4, h5, h6⟩ := hD
  obtain ⟨l1, l2, hl⟩ := List.append_of_mem hfm
  have hn2 : ((l1 ++ f :: l2).map (·.blk)).Nodup := by
    rw [← hl, ← h5.blks]
    unfold ids at hnd ⊢
    simp only [List.map_cons, List.map_append, List.nodup_cons, List.nodup_append] at hnd
    exact hnd.2.2.2.2.1
  rw [hl] at h5
  obtain ⟨A1, A2, rfl, h7, v, A3, rfl, h8, h9⟩ := h5.app
  rw [hc] at h4
  obtain ⟨ca, cc, rfl⟩ := h4.shape
  have hca : ca = none ∨ ∃ g, ca = some ⟨g, 0, none⟩ := by
    rcases h4.2 with ⟨h, -⟩ | ⟨g, cap, cur, h, -⟩
    · injection h with h _ _; exact .inl h
    · injection h with h _ _; exact .inr ⟨g, h⟩
  obtain ⟨va, vc, rfl, hvc⟩ := (hH.use h8).shape
  have hva : va = none ∨ ∃ x, va = some x := by cases va <;> simp
  obtain ⟨pn, hpn⟩ : ∃ n, xs.length = n := ⟨_, rfl⟩
  rw [hpn]
  obtain ⟨b, hb⟩ : ∃ b, f.blk = b := ⟨_, rfl⟩
  obtain ⟨bl, hbl⟩ : ∃ n, f.b.length = n := ⟨_, rfl⟩
  obtain ⟨fs, hfsd⟩ : ∃ n, f.s = n := ⟨_, rfl⟩
  rw [hb] at hk
  rw [hbl, hfsd] at hfs
  rw [hbl] at hfb hvc h8
  have hH1 : Hp w P ((b, Obj.cells #[.int .i64 f.id, .slice va bl vc, .int .i64 fs] 133 (0, 0)) :: ((d, Obj.cells (dkCells D nb kb (.slice ca 0 cc)) 123 (0, 0)) :: (nb, no) :: (kb, ko) :: (Ac ++ (A1 ++ (A3 ++ F))))) := by
    have h1 := Hp.mid (A := (d, Obj.cells (dkCells D nb kb (.slice ca 0 cc)) 123 (0, 0)) :: (nb, no) :: (kb, ko) :: (Ac ++ A1)) (B := [(b, Obj.cells #[.int .i64 f.id, .slice va bl vc, .int .i64 fs] 133 (0, 0))]) (C := A3 ++ F) (by
      rw [← hb, ← hbl, ← hfsd]
      simpa [List.append_assoc] using hH)
    simpa [List.append_assoc] using h1
  obtain ⟨Rr, hRr⟩ : ∃ R, R = Ac ++ (A1 ++ (A3 ++ F)) := ⟨_, rfl⟩
  rw [← hRr] at hH1
  have H0 := Lib.hid hH1
  have HPN := Lib.hid hpn
  have HPK := Lib.hid hpk
  have HCA := Lib.hid hca
  have HVA := Lib.hid hva
  have HK := Lib.hid hk
  have HKO := Lib.hid h3
  have HFL := Lib.hid hl
  have HN2 := Lib.hid hn2
  have HA1 := Lib.hid h7
  have HA3 := Lib.hid h9
  have HSV := Lib.hid h8
  have HRR := Lib.hid hRr
  have HB := Lib.hid hb
  have HBL := Lib.hid hbl
  have HFS := Lib.hid hfsd
  clear hH hH1 hpn hpk hca hva hk h2 h3 h4 h5 h6 hl hn2 h7 h8 h9 hnd hfm hf hc hb hbl hfsd hRr
  go_enter Tryz.func48, Tryz.ntmps48
  go_wp2_with fail
  refine wp_region_hp (by kernel_rfl) (by decide) _ _ H0.out (fun i _ v => match i with | 0 => v = ptr d | 1 => v = ptr d | 2 => v = .pointer (some ⟨d, 3, none⟩) | 3 => v = .slice ca 0 cc | 4 => v = .slice a pn pc | 5 => v = ptr d | 6 => v = ptr d | 7 => v = .pointer (some ⟨d, 3, none⟩) | 8 => v = .slice ca 0 cc | 9 => v = .int .i64 0 | 10 => v = .int .i64 0 | 11 => v = .slice ca 0 cc | 12 => v = .int .i64 0 | 13 => v = .int .i64 0 | _ => True) (by intro i P P' v _ h; exact h) ?_ ?_
  · intro i o ho u wq Pq hsq hHq hp K hK
    rcases i with _ | _ | _ | _ | _ | _ | _ | _ | _ | _ | _ | _ | _ | _ | i
    · cases ho
      simp only [frOf, Act.put, List.setIfInBounds_toArray, List.set_cons_zero, List.set_cons_succ, Nat.zero_add, Nat.reduceAdd] at hK ⊢
      go_simp
      exact hK _ wq Pq (Sub.refl _) hHq rfl
    · cases ho
      have h0 : u 0 = ptr d := hp ⟨0, .data⟩ (by simp) rfl
      simp only [frOf, Act.put, List.setIfInBounds_toArray, List.set_cons_zero, List.set_cons_succ, Nat.zero_add, Nat.reduceAdd] at hK ⊢
      simp only [h0] at hK ⊢
      go_simp
      exact hK _ wq Pq (Sub.refl _) hHq rfl
    · cases ho
      have h1 : u 1 = ptr d := hp ⟨1, .data⟩ (by simp) rfl
      simp only [frOf, Act.put, List.setIfInBounds_toArray, List.set_cons_zero, List.set_cons_succ, Nat.zero_add, Nat.reduceAdd] at hK ⊢
      simp only [h1] at hK ⊢
      go_simp
      exact hK _ wq Pq (Sub.refl _) hHq rfl
    · cases ho
      have h2 : u 2 = .pointer (some ⟨d, 3, none⟩) := hp ⟨2, .data⟩ (by simp) rfl
      simp only [frOf, Act.put, List.setIfInBounds_toArray, List.set_cons_zero, List.set_cons_succ, Nat.zero_add, Nat.reduceAdd] at hK ⊢
      simp only [h2] at hK ⊢
      have k3 : wq.cell? ⟨d, 3, none⟩ = some (.slice ca 0 cc) := (@Hp.cell _ _ _ hHq d (dkCells D nb kb (.slice ca 0 cc)) 123 (0, 0) (by simp)) (i := 3) rfl
      go_simp
      exact hK _ wq Pq (Sub.refl _) hHq rfl
    · cases ho
      simp only [frOf, Act.put, List.setIfInBounds_toArray, List.set_cons_zero, List.set_cons_succ, Nat.zero_add, Nat.reduceAdd] at hK ⊢
      go_simp
      exact hK _ wq Pq (Sub.refl _) hHq rfl
    · cases ho
      simp only [frOf, Act.put, List.setIfInBounds_toArray, List.set_cons_zero, List.set_cons_succ, Nat.zero_add, Nat.reduceAdd] at hK ⊢
      go_simp
      exact hK _ wq Pq (Sub.refl _) hHq rfl
    · cases ho
      have h5 : u 5 = ptr d := hp ⟨5, .data⟩ (by simp) rfl
      simp only [frOf, Act.put, List.setIfInBounds_toArray, List.set_cons_zero, List.set_cons_succ, Nat.zero_add, Nat.reduceAdd] at hK ⊢
      simp only [h5] at hK ⊢
      go_simp
      exact hK _ wq Pq (Sub.refl _) hHq rfl
    · cases ho
      have h6 : u 6 = ptr d := hp ⟨6, .data⟩ (by simp) rfl
      simp only [frOf, Act.put, List.setIfInBounds_toArray, List.set_cons_zero, List.set_cons_succ, Nat.zero_add, Nat.reduceAdd] at hK ⊢
      simp only [h6] at hK ⊢
      go_simp
      exact hK _ wq Pq (Sub.refl _) hHq rfl
    · cases ho
      have h7 : u 7 = .pointer (some ⟨d, 3, none⟩) := hp ⟨7, .data⟩ (by simp) rfl
      simp only [frOf, Act.put, List.setIfInBounds_toArray, List.set_cons_zero, List.set_cons_succ, Nat.zero_add, Nat.reduceAdd] at hK ⊢
      simp only [h7] at hK ⊢
      have k3 : wq.cell? ⟨d, 3, none⟩ = some (.slice ca 0 cc) := (@Hp.cell _ _ _ hHq d (dkCells D nb kb (.slice ca 0 cc)) 123 (0, 0) (by simp)) (i := 3) rfl
      go_simp
      exact hK _ wq Pq (Sub.refl _) hHq rfl
    · cases ho
      have h8 : u 8 = .slice ca 0 cc := hp ⟨8, .data⟩ (by simp) rfl
      simp only [frOf, Act.put, List.setIfInBounds_toArray, List.set_cons_zero, List.set_cons_succ, Nat.zero_add, Nat.reduceAdd] at hK ⊢
      simp only [h8] at hK ⊢
      go_simp
      exact hK _ wq Pq (Sub.refl _) hHq rfl
    · cases ho
      have h4 : u 4 = .slice a pn pc := hp ⟨4, .data⟩ (by simp) rfl
      have h9 : u 9 = .int .i64 0 := hp ⟨9, .data⟩ (by simp) rfl
      simp only [frOf, Act.put, List.setIfInBounds_toArray, List.set_cons_zero, List.set_cons_succ, Nat.zero_add, Nat.reduceAdd] at hK ⊢
      simp only [h4, h9] at hK ⊢
      go_simp
      with_reducible refine (picked_zero _ a xs pn pc HPN.out (hHq.use (HPK.out.sub hsq))).mono ?_
      rintro e w3 ⟨rfl, rfl⟩
      exact hK _ _ Pq (Sub.refl _) hHq rfl
    · cases ho
      have h3 : u 3 = .slice ca 0 cc := hp ⟨3, .data⟩ (by simp) rfl
      have h10 : u 10 = .int .i64 0 := hp ⟨10, .data⟩ (by simp) rfl
      simp only [frOf, Act.put, List.setIfInBounds_toArray, List.set_cons_zero, List.set_cons_succ, Nat.zero_add, Nat.reduceAdd] at hK ⊢
      simp only [h3, h10] at hK ⊢
      go_simp
      exact hK _ wq Pq (Sub.refl _) hHq (by rcases HCA.out with h | ⟨g, h⟩ <;> rw [h] <;> simp [Addr.add])
    · cases ho
      have h11 : u 11 = .slice ca 0 cc := hp ⟨11, .data⟩ (by simp) rfl
      simp only [frOf, Act.put, List.setIfInBounds_toArray, List.set_cons_zero, List.set_cons_succ, Nat.zero_add, Nat.reduceAdd] at hK ⊢
      simp only [h11] at hK ⊢
      go_simp
      exact hK _ wq Pq (Sub.refl _) hHq rfl
    · cases ho
      simp only [frOf, Act.put, List.setIfInBounds_toArray, List.set_cons_zero, List.set_cons_succ, Nat.zero_add, Nat.reduceAdd] at hK ⊢
      go_simp
      exact hK _ wq Pq (Sub.refl _) hHq rfl
    · exact absurd ho (by simp)
  intro u wq Pq hsq hHq hR
  have h11 : u 11 = .slice ca 0 cc := hR 11 (by decide)
  have h12 : u 12 = .int .i64 0 := hR 12 (by decide)
  have h13 : u 13 = .int .i64 0 := hR 13 (by decide)
  simp only [frOf, List.setIfInBounds_toArray, List.set_cons_zero, List.set_cons_succ, Nat.zero_add, Nat.reduceAdd]
  simp only [h11, h12, h13]
  have H1 := Lib.hid (hHq.weaken hsq)
  clear hR hHq hsq h11 h12 h13
  have k2 : wq.cell? ⟨d, 2, none⟩ = some (.map (some kb)) := (@Hp.cell _ _ _ H1.out d (dkCells D nb kb (.slice ca 0 cc)) 123 (0, 0) (by simp)) (i := 2) rfl
  go_wp2_with fail
  go_loopg [24] 0 (fun m vi wr => vi = .int .i64 0 ∧ wr = wq)
  case atStart => exact ⟨rfl, rfl⟩
  case round =>
    obtain ⟨rfl, rfl⟩ := hrel
    have hmk : Hid ((kb, ko) ∈ (b, Obj.cells #[.int .i64 f.id, .slice va bl vc, .int .i64 fs] 133 (0, 0)) :: ((d, Obj.cells (dkCells D nb kb (.slice ca 0 cc)) 123 (0, 0)) :: (nb, no) :: (kb, ko) :: Rr)) := by simp [Hid]
    go_wp2_with (at_range; refine wpList_range_hp rfl _ 120 9 130 rfl strK Tryz.underlying120 rfl H1.out hmk.out HKO.out ?_; intro Dm w0 hDm hrg hH0 hr1 hr2)
    have HDm := Lib.hid hDm
    obtain ⟨rb, hrb⟩ : ∃ r, wr.heap.size = r := ⟨_, rfl⟩
    rw [hrb] at hrg hr1 hr2 ⊢
    have hsl : Maps.has Dm (.string s) = true := by
      rw [kfind_has hDm, kfind_kv, HK.out]; simp [nfind]
    have HR : Hid (CrRel s b kb rb (kvOf D.kp).length Dm P ((b, Obj.cells #[.int .i64 f.id, .slice va bl vc, .int .i64 fs] 133 (0, 0)) :: ((d, Obj.cells (dkCells D nb kb (.slice ca 0 cc)) 123 (0, 0)) :: (nb, no) :: (kb, ko) :: Rr)) (Maps.size Dm) (.slice none 0 0) w0) := ⟨_, [], hrg, .inl ⟨hsl, rfl, rfl⟩, hH0⟩
    have HR1 := Lib.hid hr1
    have HR2 := Lib.hid hr2
    clear hDm hrg hH0 hr1 hr2 hsl k2 hrb
    go_frame
    go_loopg [6] (Maps.size Dm) (fun cnt v w2 => CrRel s b kb rb (kvOf D.kp).length Dm P ((b, Obj.cells #[.int .i64 f.id, .slice va bl vc, .int .i64 fs] 133 (0, 0)) :: ((d, Obj.cells (dkCells D nb kb (.slice ca 0 cc)) 123 (0, 0)) :: (nb, no) :: (kb, ko) :: Rr)) cnt v w2)
    case atStart => exact HR.out
    case round =>
      obtain ⟨left, Al, hrg, hor, hHr⟩ := hrel
      go_wp2_with (at_next; refine wpList_next_hp (α := ByteArray) rfl _ rfl 9 strK Value.string invStr rfl hrg HDm.out hHr.drop HR1.out HR2.out ?_ ?_)
      · intro hl0
        rcases hor with ⟨h, -⟩ | ⟨-, hrow⟩
        · rw [hl0] at h; cases h
        obtain ⟨vl, vlc, rfl⟩ := hrow.shape
        have H3 := Lib.hid hHr
        have HRW := Lib.hid hrow
        clear hl0 hrow hHr hrg
        go_wp2_with fail
        refine (sort_one vl vlc _).mono ?_
        rintro e w3 ⟨rfl, rfl⟩
        go_wp2_with fail
        obtain ⟨g, cl, e, hcl, y0⟩ := HRW.out.cell H3.out (j := 0) rfl
        cases e
        have hH5 := Hp.mid (A := Al) (B := [(b, Obj.cells #[.int .i64 f.id, .slice va bl vc, .int .i64 fs] 133 (0, 0))]) (C := (d, Obj.cells (dkCells D nb kb (.slice ca 0 cc)) 123 (0, 0)) :: (nb, no) :: (kb, ko) :: Rr) H3.out
        obtain ⟨MR, hMR⟩ : ∃ M, M = Al ++ ((d, Obj.cells (dkCells D nb kb (.slice ca 0 cc)) 123 (0, 0)) :: (nb, no) :: (kb, ko) :: Rr) := ⟨_, rfl⟩
        rw [← hMR] at hH5
        have H6 := Lib.hid (show Hp w3 P ((b, Obj.cells #[.int .i64 f.id, .slice va bl vc, .int .i64 fs] 133 (0, 0)) :: MR) from by simpa using hH5)
        have HMR := Lib.hid hMR
        obtain ⟨q, hq⟩ : ∃ q : Nat, (bl : Int) - (fs : Int) = (q : Int) := ⟨bl - fs, by omega⟩
        obtain ⟨pk, hpk⟩ : ∃ p, pickF xs 1 q = p := ⟨_, rfl⟩
        have hpkl := pickF_le xs 1 q
        rw [hpk] at hpkl
        have HQ := Lib.hid hq
        have HPK1 := Lib.hid hpk
        have hmb : fs + pk ≤ bl := by omega
        have hqb : q = bl - fs := by omega
        clear hH5 hMR hq hpk
        go_loopg [56] 1 (fun m vi w4 => (m = 1 ∧ vi = .int .i64 0 ∧ w4 = w3) ∨ (m = 0 ∧ vi = .int .i64 1 ∧ ∃ P4 b2 c2, Sub P P4 ∧ Pers P4 (fun w => SlB w (.slice b2 (fs + pk) c2) (f.b.take (fs + pk))) ∧ Hp w4 P4 ((b, Obj.cells #[.int .i64 f.id, .slice b2 (fs + pk) c2, .int .i64 ((fs + pk : Nat) : Int)] 133 (0, 0)) :: MR)))
        case atStart => exact .inl ⟨rfl, rfl, rfl⟩
        case round =>
          rcases hrel with ⟨rfl, rfl, rfl⟩ | ⟨rfl, rfl, P4, b2, c2, hs4, hp4, hH4⟩
          · have HSM : Hid (Pers P (fun w => SlB w (.slice va (fs + pk) vc) (f.b.take (fs + pk)))) := fun w' hw' => by
              have h1 := SlB.cut (HSV.out w' hw') 0 (fs + pk) (by rw [Nat.zero_add, HBL.out]; omega)
              rw [List.drop_zero, Nat.sub_zero] at h1
              have : (if vc = 0 then va else va.map (fun x => x.add (0 * 1))) = va := by cases va <;> simp [Addr.add]
              rwa [this] at h1
            have HLM : Hid ((f.b.take (fs + pk)).length ≤ 1099511627776) := by show _ ≤ _; rw [List.length_take, HBL.out]; omega
            have HLN : Hid ((f.b.take (fs + pk)).length = fs + pk) := by show _ = _; rw [List.length_take, HBL.out]; omega
            have HW21 : Hid (IntKind.i64.wrap ((bl - fs : Nat) : Int) = (q : Int)) := by show _ = _; rw [← hqb]; exact IntWalk.i64_in _ (by omega)
            have HW21b : Hid (IntKind.i64.wrap ((bl : Int) - (fs : Int)) = (q : Int)) := by show _ = _; rw [HQ.out]; exact IntWalk.i64_in _ (by omega)
            have HW23 : Hid (IntKind.i64.wrap ((fs : Int) + (pk : Int)) = (fs : Int) + (pk : Int)) := IntWalk.i64_in _ (by omega)
            have hq2 : q ≤ 1099511627776 := by omega
            have HQB := Lib.hid hqb
            clear hqb
            go_wp2_with fail
            refine wp_region_ph (by kernel_rfl) (by decide) 25 28 (by kernel_rfl) ⟨by decide, by decide⟩ (by decide) _ (fun p P w3 v => match p with | 2 => ∃ b2 c2, v = .slice b2 (fs + pk) c2 ∧ Pers P (fun w => SlB w (.slice b2 (fs + pk) c2) (f.b.take (fs + pk))) ∧ Hp w3 P ((b, Obj.cells #[.int .i64 f.id, .slice b2 (fs + pk) c2, .int .i64 fs] 133 (0, 0)) :: MR) | _ => Hp w3 P ((b, Obj.cells #[.int .i64 f.id, .slice va bl vc, .int .i64 fs] 133 (0, 0)) :: MR)) (fun v => H6.out.drew) (fun i P v => match i with | 0 => v = ptr b | 1 => v = ptr b | 2 => v = ptr b | 3 => v = .pointer (some ⟨b, 1, none⟩) | 4 => v = .slice va bl vc | 5 => v = ptr b | 6 => v = ptr b | 7 => v = .pointer (some ⟨b, 2, none⟩) | 8 => v = .int .i64 fs | 9 => v = .slice a pn pc | 10 => v = .int .i64 0 | 11 => v = .int .i64 1 | 12 => v = ptr b | 13 => v = ptr b | 14 => v = .pointer (some ⟨b, 1, none⟩) | 15 => v = .slice va bl vc | 16 => v = .int .i64 bl | 17 => v = ptr b | 18 => v = ptr b | 19 => v = .pointer (some ⟨b, 2, none⟩) | 20 => v = .int .i64 fs | 21 => v = .int .i64 q | 22 => v = .int .i64 pk | 23 => v = .int .i64 ((fs : Int) + (pk : Int)) | 24 => v = .slice va (fs + pk) vc | 25 => ∃ b2 c2, v = .slice b2 (fs + pk) c2 ∧ Pers P (fun w => SlB w (.slice b2 (fs + pk) c2) (f.b.take (fs + pk))) | 26 => v = ptr b | 27 => v = .pointer (some ⟨b, 1, none⟩) | 28 => True | _ => True) (by intro i P P' v hs h; rcases i with _ | _ | _ | _ | _ | _ | _ | _ | _ | _ | _ | _ | _ | _ | _ | _ | _ | _ | _ | _ | _ | _ | _ | _ | _ | _ | _ | _ | _ | i <;> first | exact h | (obtain ⟨b2, c2, h1, h2⟩ := h; exact ⟨b2, c2, h1, h2.sub hs⟩)) ?_ ?_
            · intro i o ho b1 u w3 Q2 hsq hJ hp q1 q2 q3 q4 K hK
              rcases i with _ | _ | _ | _ | _ | _ | _ | _ | _ | _ | _ | _ | _ | _ | _ | _ | _ | _ | _ | _ | _ | _ | _ | _ | _ | _ | _ | _ | _ | i
              · cases ho
                simp only [frOf, Act.put, List.setIfInBounds_toArray, List.set_cons_zero, List.set_cons_succ, Nat.zero_add, Nat.reduceAdd] at hK ⊢
                go_simp
                exact hK _ w3 Q2 (Sub.refl _) hJ rfl
              · cases ho
                simp only [frOf, Act.put, List.setIfInBounds_toArray, List.set_cons_zero, List.set_cons_succ, Nat.zero_add, Nat.reduceAdd] at hK ⊢
                go_simp
                exact hK _ w3 Q2 (Sub.refl _) hJ rfl
              · cases ho
                have h1 : u 1 = ptr b := hp ⟨1, .data⟩ (by simp) rfl
                simp only [frOf, Act.put, List.setIfInBounds_toArray, List.set_cons_zero, List.set_cons_succ, Nat.zero_add, Nat.reduceAdd] at hK ⊢
                simp only [h1] at hK ⊢
                go_simp
                exact hK _ w3 Q2 (Sub.refl _) hJ rfl
              · cases ho
                have h2 : u 2 = ptr b := hp ⟨2, .data⟩ (by simp) rfl
                simp only [frOf, Act.put, List.setIfInBounds_toArray, List.set_cons_zero, List.set_cons_succ, Nat.zero_add, Nat.reduceAdd] at hK ⊢
                simp only [h2] at hK ⊢
                go_simp
                exact hK _ w3 Q2 (Sub.refl _) hJ rfl
              · cases ho
                have h3 : u 3 = .pointer (some ⟨b, 1, none⟩) := hp ⟨3, .data⟩ (by simp) rfl
                simp only [frOf, Act.put, List.setIfInBounds_toArray, List.set_cons_zero, List.set_cons_succ, Nat.zero_add, Nat.reduceAdd] at hK ⊢
                simp only [h3] at hK ⊢
                have hb2 : b1 = 0 ∨ b1 = 1 := by
                  have h2 : b1 ≠ 2 := fun e => nomatch ((q2 e).1.symm.trans (by kernel_rfl : _ = true))
                  omega
                have hH3 : Hp w3 Q2 ((b, Obj.cells #[.int .i64 f.id, .slice va bl vc, .int .i64 fs] 133 (0, 0)) :: MR) := by rcases hb2 with rfl | rfl <;> exact hJ
                have kc := (@Hp.cell _ _ _ hH3 b _ _ (0, 0) List.mem_cons_self) (i := 1) rfl
                go_simp
                rcases hb2 with rfl | rfl <;> exact hK _ w3 Q2 (Sub.refl _) hJ rfl
              · cases ho
                simp only [frOf, Act.put, List.setIfInBounds_toArray, List.set_cons_zero, List.set_cons_succ, Nat.zero_add, Nat.reduceAdd] at hK ⊢
                go_simp
                exact hK _ w3 Q2 (Sub.refl _) hJ rfl
              · cases ho
                have h5 : u 5 = ptr b := hp ⟨5, .data⟩ (by simp) rfl
                simp only [frOf, Act.put, List.setIfInBounds_toArray, List.set_cons_zero, List.set_cons_succ, Nat.zero_add, Nat.reduceAdd] at hK ⊢
                simp only [h5] at hK ⊢
                go_simp
                exact hK _ w3 Q2 (Sub.refl _) hJ rfl
              · cases ho
                have h6 : u 6 = ptr b := hp ⟨6, .data⟩ (by simp) rfl
                simp only [frOf, Act.put, List.setIfInBounds_toArray, List.set_cons_zero, List.set_cons_succ, Nat.zero_add, Nat.reduceAdd] at hK ⊢
                simp only [h6] at hK ⊢
                go_simp
                exact hK _ w3 Q2 (Sub.refl _) hJ rfl
              · cases ho
                have h7 : u 7 = .pointer (some ⟨b, 2, none⟩) := hp ⟨7, .data⟩ (by simp) rfl
                simp only [frOf, Act.put, List.setIfInBounds_toArray, List.set_cons_zero, List.set_cons_succ, Nat.zero_add, Nat.reduceAdd] at hK ⊢
                simp only [h7] at hK ⊢
                have hb2 : b1 = 0 ∨ b1 = 1 := by
                  have h2 : b1 ≠ 2 := fun e => nomatch ((q2 e).1.symm.trans (by kernel_rfl : _ = true))
                  omega
                have hH3 : Hp w3 Q2 ((b, Obj.cells #[.int .i64 f.id, .slice va bl vc, .int .i64 fs] 133 (0, 0)) :: MR) := by rcases hb2 with rfl | rfl <;> exact hJ
                have kc := (@Hp.cell _ _ _ hH3 b _ _ (0, 0) List.mem_cons_self) (i := 2) rfl
                go_simp
                rcases hb2 with rfl | rfl <;> exact hK _ w3 Q2 (Sub.refl _) hJ rfl
              · cases ho
                simp only [frOf, Act.put, List.setIfInBounds_toArray, List.set_cons_zero, List.set_cons_succ, Nat.zero_add, Nat.reduceAdd] at hK ⊢
                go_simp
                exact hK _ w3 Q2 (Sub.refl _) hJ rfl
              · cases ho
                simp only [frOf, Act.put, List.setIfInBounds_toArray, List.set_cons_zero, List.set_cons_succ, Nat.zero_add, Nat.reduceAdd] at hK ⊢
                go_simp
                exact hK _ w3 Q2 (Sub.refl _) hJ rfl
              · cases ho
                have h10 : u 10 = .int .i64 0 := hp ⟨10, .data⟩ (by simp) rfl
                simp only [frOf, Act.put, List.setIfInBounds_toArray, List.set_cons_zero, List.set_cons_succ, Nat.zero_add, Nat.reduceAdd] at hK ⊢
                simp only [h10] at hK ⊢
                go_simp
                exact hK _ w3 Q2 (Sub.refl _) hJ rfl
              · cases ho
                simp only [frOf, Act.put, List.setIfInBounds_toArray, List.set_cons_zero, List.set_cons_succ, Nat.zero_add, Nat.reduceAdd] at hK ⊢
                go_simp
                exact hK _ w3 Q2 (Sub.refl _) hJ rfl
              · cases ho
                have h12 : u 12 = ptr b := hp ⟨12, .data⟩ (by simp) rfl
                simp only [frOf, Act.put, List.setIfInBounds_toArray, List.set_cons_zero, List.set_cons_succ, Nat.zero_add, Nat.reduceAdd] at hK ⊢
                simp only [h12] at hK ⊢
                go_simp
                exact hK _ w3 Q2 (Sub.refl _) hJ rfl
              · cases ho
                have h13 : u 13 = ptr b := hp ⟨13, .data⟩ (by simp) rfl
                simp only [frOf, Act.put, List.setIfInBounds_toArray, List.set_cons_zero, List.set_cons_succ, Nat.zero_add, Nat.reduceAdd] at hK ⊢
                simp only [h13] at hK ⊢
                go_simp
                exact hK _ w3 Q2 (Sub.refl _) hJ rfl
              · cases ho
                have h14 : u 14 = .pointer (some ⟨b, 1, none⟩) := hp ⟨14, .data⟩ (by simp) rfl
                simp only [frOf, Act.put, List.setIfInBounds_toArray, List.set_cons_zero, List.set_cons_succ, Nat.zero_add, Nat.reduceAdd] at hK ⊢
                simp only [h14] at hK ⊢
                have hb2 : b1 = 0 ∨ b1 = 1 := by
                  have h2 : b1 ≠ 2 := fun e => nomatch ((q2 e).1.symm.trans (by kernel_rfl : _ = true))
                  omega
                have hH3 : Hp w3 Q2 ((b, Obj.cells #[.int .i64 f.id, .slice va bl vc, .int .i64 fs] 133 (0, 0)) :: MR) := by rcases hb2 with rfl | rfl <;> exact hJ
                have kc := (@Hp.cell _ _ _ hH3 b _ _ (0, 0) List.mem_cons_self) (i := 1) rfl
                go_simp
                rcases hb2 with rfl | rfl <;> exact hK _ w3 Q2 (Sub.refl _) hJ rfl
              · cases ho
                have h15 : u 15 = .slice va bl vc := hp ⟨15, .data⟩ (by simp) rfl
                simp only [frOf, Act.put, List.setIfInBounds_toArray, List.set_cons_zero, List.set_cons_succ, Nat.zero_add, Nat.reduceAdd] at hK ⊢
                simp only [h15] at hK ⊢
                go_simp
                exact hK _ w3 Q2 (Sub.refl _) hJ rfl
              · cases ho
                simp only [frOf, Act.put, List.setIfInBounds_toArray, List.set_cons_zero, List.set_cons_succ, Nat.zero_add, Nat.reduceAdd] at hK ⊢
                go_simp
                exact hK _ w3 Q2 (Sub.refl _) hJ rfl
              · cases ho
                have h17 : u 17 = ptr b := hp ⟨17, .data⟩ (by simp) rfl
                simp only [frOf, Act.put, List.setIfInBounds_toArray, List.set_cons_zero, List.set_cons_succ, Nat.zero_add, Nat.reduceAdd] at hK ⊢
                simp only [h17] at hK ⊢
                go_simp
                exact hK _ w3 Q2 (Sub.refl _) hJ rfl
              · cases ho
                have h18 : u 18 = ptr b := hp ⟨18, .data⟩ (by simp) rfl
                simp only [frOf, Act.put, List.setIfInBounds_toArray, List.set_cons_zero, List.set_cons_succ, Nat.zero_add, Nat.reduceAdd] at hK ⊢
                simp only [h18] at hK ⊢
                go_simp
                exact hK _ w3 Q2 (Sub.refl _) hJ rfl
              · cases ho
                have h19 : u 19 = .pointer (some ⟨b, 2, none⟩) := hp ⟨19, .data⟩ (by simp) rfl
                simp only [frOf, Act.put, List.setIfInBounds_toArray, List.set_cons_zero, List.set_cons_succ, Nat.zero_add, Nat.reduceAdd] at hK ⊢
                simp only [h19] at hK ⊢
                have hb2 : b1 = 0 ∨ b1 = 1 := by
                  have h2 : b1 ≠ 2 := fun e => nomatch ((q2 e).1.symm.trans (by kernel_rfl : _ = true))
                  omega
                have hH3 : Hp w3 Q2 ((b, Obj.cells #[.int .i64 f.id, .slice va bl vc, .int .i64 fs] 133 (0, 0)) :: MR) := by rcases hb2 with rfl | rfl <;> exact hJ
                have kc := (@Hp.cell _ _ _ hH3 b _ _ (0, 0) List.mem_cons_self) (i := 2) rfl
                go_simp
                rcases hb2 with rfl | rfl <;> exact hK _ w3 Q2 (Sub.refl _) hJ rfl
              · cases ho
                have h16 : u 16 = .int .i64 bl := hp ⟨16, .data⟩ (by simp) rfl
                have h20 : u 20 = .int .i64 fs := hp ⟨20, .data⟩ (by simp) rfl
                simp only [frOf, Act.put, List.setIfInBounds_toArray, List.set_cons_zero, List.set_cons_succ, Nat.zero_add, Nat.reduceAdd] at hK ⊢
                simp only [h16, h20] at hK ⊢
                go_simp
                exact hK _ w3 Q2 (Sub.refl _) hJ (by first | rw [HW21.out] | rw [HW21b.out])
              · cases ho
                have h9 : u 9 = .slice a pn pc := hp ⟨9, .data⟩ (by simp) rfl
                have h11 : u 11 = .int .i64 1 := hp ⟨11, .data⟩ (by simp) rfl
                have h21 : u 21 = .int .i64 q := hp ⟨21, .data⟩ (by simp) rfl
                simp only [frOf, Act.put, List.setIfInBounds_toArray, List.set_cons_zero, List.set_cons_succ, Nat.zero_add, Nat.reduceAdd] at hK ⊢
                simp only [h9, h11, h21] at hK ⊢
                have hb2 : b1 = 0 ∨ b1 = 1 := by
                  have h2 : b1 ≠ 2 := fun e => nomatch ((q2 e).1.symm.trans (by kernel_rfl : _ = true))
                  omega
                have hH3 : Hp w3 Q2 ((b, Obj.cells #[.int .i64 f.id, .slice va bl vc, .int .i64 fs] 133 (0, 0)) :: MR) := by rcases hb2 with rfl | rfl <;> exact hJ
                go_simp
                with_reducible refine (picked_q _ a xs pn pc HPN.out (hH3.use (HPK.out.sub hsq)) q hq2 _ rfl).mono ?_
                rintro e w4 ⟨rfl, rfl⟩
                rw [HPK1.out]
                rcases hb2 with rfl | rfl <;> exact hK _ _ Q2 (Sub.refl _) hJ rfl
              · cases ho
                have h8 : u 8 = .int .i64 fs := hp ⟨8, .data⟩ (by simp) rfl
                have h22 : u 22 = .int .i64 pk := hp ⟨22, .data⟩ (by simp) rfl
                simp only [frOf, Act.put, List.setIfInBounds_toArray, List.set_cons_zero, List.set_cons_succ, Nat.zero_add, Nat.reduceAdd] at hK ⊢
                simp only [h8, h22] at hK ⊢
                go_simp
                exact hK _ w3 Q2 (Sub.refl _) hJ (by rw [HW23.out])
              · cases ho
                have h4 : u 4 = .slice va bl vc := hp ⟨4, .data⟩ (by simp) rfl
                have h23 : u 23 = .int .i64 ((fs : Int) + (pk : Int)) := hp ⟨23, .data⟩ (by simp) rfl
                simp only [frOf, Act.put, List.setIfInBounds_toArray, List.set_cons_zero, List.set_cons_succ, Nat.zero_add, Nat.reduceAdd] at hK ⊢
                simp only [h4, h23] at hK ⊢
                have i5 : (0 : Int) ≤ (fs : Int) + (pk : Int) := by omega
                have i6 : (fs : Int) + (pk : Int) ≤ (vc : Int) := by omega
                go_simp
                exact hK _ w3 Q2 (Sub.refl _) hJ (by rcases HVA.out with h | ⟨x, h⟩ <;> rw [h] <;> simp <;> omega)
              · cases ho
                have h24 : u 24 = .slice va (fs + pk) vc := hp ⟨24, .data⟩ (by simp) rfl
                simp only [frOf, Act.put, List.setIfInBounds_toArray, List.set_cons_zero, List.set_cons_succ, Nat.zero_add, Nat.reduceAdd] at hK ⊢
                simp only [h24] at hK ⊢
                have hb2 : b1 = 0 := ph0 (fun h => (q1 h).2 rfl)
                subst hb2
                have hH3 : Hp w3 Q2 ((b, Obj.cells #[.int .i64 f.id, .slice va bl vc, .int .i64 fs] 133 (0, 0)) :: MR) := hJ
                go_simp
                with_reducible refine (clone_any _ (f.b.take (fs + pk)) _ (hH3.use (HSM.out.sub hsq)) HLM.out).mono ?_
                rintro e w4 ⟨⟨v4, rfl, ho4, -⟩, hb4⟩
                obtain ⟨Q4, hs4, hH4, hp4⟩ := hH3.newBytes hb4 ho4
                obtain ⟨b2, c2, hv4, -⟩ := (hH4.use hp4).shape
                rw [HLN.out] at hv4
                subst hv4
                exact hK _ w4 Q4 hs4 hH4 ⟨b2, c2, rfl, hp4⟩
              · cases ho
                have h0 : u 0 = ptr b := hp ⟨0, .data⟩ (by simp) rfl
                simp only [frOf, Act.put, List.setIfInBounds_toArray, List.set_cons_zero, List.set_cons_succ, Nat.zero_add, Nat.reduceAdd] at hK ⊢
                simp only [h0] at hK ⊢
                go_simp
                exact hK _ w3 Q2 (Sub.refl _) hJ rfl
              · cases ho
                have h26 : u 26 = ptr b := hp ⟨26, .data⟩ (by simp) rfl
                simp only [frOf, Act.put, List.setIfInBounds_toArray, List.set_cons_zero, List.set_cons_succ, Nat.zero_add, Nat.reduceAdd] at hK ⊢
                simp only [h26] at hK ⊢
                go_simp
                exact hK _ w3 Q2 (Sub.refl _) hJ rfl
              · cases ho
                have h27 : u 27 = .pointer (some ⟨b, 1, none⟩) := hp ⟨27, .data⟩ (by simp) rfl
                have hr25 : ∃ b2 c2, u 25 = .slice b2 (fs + pk) c2 ∧ Pers Q2 (fun w => SlB w (.slice b2 (fs + pk) c2) (f.b.take (fs + pk))) := hp ⟨25, .data⟩ (by simp) rfl
                simp only [frOf, Act.put, List.setIfInBounds_toArray, List.set_cons_zero, List.set_cons_succ, Nat.zero_add, Nat.reduceAdd] at hK ⊢
                have hb2 : b1 = 1 := ph1 (q3 (by kernel_rfl)) (fun e => (q2 e).2 rfl) q4
                subst hb2
                have hH3 : Hp w3 Q2 ((b, Obj.cells #[.int .i64 f.id, .slice va bl vc, .int .i64 fs] 133 (0, 0)) :: MR) := hJ
                obtain ⟨b2, c2, h25, hp25⟩ := hr25
                simp only [Nat.reduceEqDiff, if_true, if_false] at hK
                simp only [h27, h25] at hK ⊢
                have f1 := @Hp.frozen _ _ _ hH3 b _ _ List.mem_cons_self 1
                have kc := (@Hp.cell _ _ _ hH3 b _ _ (0, 0) List.mem_cons_self) (i := 1) rfl
                go_simp
                exact hK undef _ Q2 (Sub.refl _) ⟨b2, c2, rfl, hp25, hH3.set 1 (.slice b2 (fs + pk) c2)⟩ trivial
              · exact absurd ho (by simp)
            intro u w3 Q2 hsq hJ hR
            obtain ⟨b2, c2, h25, hp25, hH4⟩ := hJ
            simp only [frOf, List.setIfInBounds_toArray, List.set_cons_zero, List.set_cons_succ, Nat.zero_add, Nat.reduceAdd]
            skip
            have e1 := (@Hp.cell _ _ _ hH4 b _ _ (0, 0) List.mem_cons_self) (i := 1) rfl
            have e2 := (@Hp.cell _ _ _ hH4 b _ _ (0, 0) List.mem_cons_self) (i := 2) rfl
            have f2 := @Hp.frozen _ _ _ hH4 b _ _ List.mem_cons_self 2
            have H8 := Lib.hid hH4
            have HP8 := Lib.hid hp25
            have HS8 := Lib.hid hsq
            clear hR hp25 hH4 hsq h25
            go_wp2_with fail
            go_roundg 0
            case measure => omega
            case rel =>
              refine .inr ⟨rfl, by simp, Q2, b2, c2, HS8.out, HP8.out, ?_⟩
              have := H8.out.set 2 (.int .i64 ((fs + pk : Nat) : Int))
              simpa using this
          · rw [HMR.out] at hH4
            have k2 : wr.cell? ⟨d, 2, none⟩ = some (.map (some kb)) := (@Hp.cell _ _ _ hH4 d (dkCells D nb kb (.slice ca 0 cc)) 123 (0, 0) (by simp)) (i := 2) rfl
            have hH5 := hH4.alloc ko
            have ex := @Hp.cell _ _ _ hH5 d (dkCells D nb kb (.slice ca 0 cc)) 123 (0, 0) (by simp)
            have e1 : (wr.alloc ko).cell? ⟨d, 1, none⟩ = some (.map (some nb)) := ex rfl
            have e3 : (wr.alloc ko).cell? ⟨d, 3, none⟩ = some (.slice ca 0 cc) := ex rfl
            have e5 : (wr.alloc ko).cell? ⟨d, 5, none⟩ = some (.int .i64 D.arm) := ex rfl
            have e6 : (wr.alloc ko).cell? ⟨d, 6, none⟩ = some (.bool D.down) := ex rfl
            have fx := @Hp.frozen _ _ _ hH5 d (dkCells D nb kb (.slice ca 0 cc)) 123 (by simp)
            have f1 := fx 1
            have f3 := fx 3
            have f5 := fx 5
            have f6 := fx 6
            have H4 := Lib.hid hH4
            have H5 := Lib.hid hH5
            have HP4 := Lib.hid hp4
            have HS4 := Lib.hid hs4
            clear hH4 hH5 ex fx hp4 hs4
            go_wp2_with fail
            refine (mclone_any H4.out (b := kb) (o := ko) (by simp) HKO.out).mono ?_
            rintro e w5 ⟨rfl, rfl⟩
            go_wp2_with fail
            go_end0
            have hg1 := (Hp.mid (A := (wr.heap.size, ko) :: (b, _) :: Al) (B := [(d, Obj.cells (dkCells D nb kb (.slice ca 0 cc)) 123 (0, 0))]) (C := (nb, no) :: (kb, ko) :: Rr) (by simpa using H5.out))
            have hg2 := (((hg1.set 1 (.map (some wr.heap.size))).set 3 (.slice none 0 0)).set 5 (.int .i64 0)).set 6 (.bool false)
            rw [HRR.out] at hg2
            have hg3 := (Hp.mid (A := [_, (wr.heap.size, ko), (b, Obj.cells #[.int .i64 f.id, .slice b2 (fs + pk) c2, .int .i64 ((fs + pk : Nat) : Int)] 133 (0, 0))]) (B := Al) (C := (nb, no) :: (kb, ko) :: (Ac ++ (A1 ++ (A3 ++ F)))) (by simpa using hg2)).drop
            have hg4 := (Hp.mid (A := [_, (wr.heap.size, ko), (b, Obj.cells #[.int .i64 f.id, .slice b2 (fs + pk) c2, .int .i64 ((fs + pk : Nat) : Int)] 133 (0, 0))]) (B := [(nb, no)]) (C := (kb, ko) :: (Ac ++ (A1 ++ (A3 ++ F)))) (by simpa using hg3)).tail
            have hg5 := (Hp.mid (A := [_, (wr.heap.size, ko), (b, Obj.cells #[.int .i64 f.id, .slice b2 (fs + pk) c2, .int .i64 ((fs + pk : Nat) : Int)] 133 (0, 0)), (kb, ko)]) (B := Ac) (C := A1 ++ (A3 ++ F)) (by simpa using hg4)).drop
            have hg6 := Hp.perm (M' := [_, (wr.heap.size, ko)] ++ (((kb, ko) :: A1) ++ ([(b, Obj.cells #[.int .i64 f.id, .slice b2 (fs + pk) c2, .int .i64 ((fs + pk : Nat) : Int)] 133 (0, 0))] ++ (A3 ++ F)))) hg5 (List.Perm.append_left [_, (wr.heap.size, ko)] (List.perm_append_comm_assoc [(b, Obj.cells #[.int .i64 f.id, .slice b2 (fs + pk) c2, .int .i64 ((fs + pk : Nat) : Int)] 133 (0, 0))] ((kb, ko) :: A1) (A3 ++ F)))
            have hgl : fset D.fl { f with b := f.b.take (f.s + pk), s := f.s + pk } = l1 ++ { f with b := f.b.take (f.s + pk), s := f.s + pk } :: l2 := by rw [HFL.out]; exact fset_at l1 l2 f { f with b := f.b.take (f.s + pk), s := f.s + pk } rfl HN2.out
            refine ⟨rfl, pk, P4, (d, Obj.cells (dkCells (D.crash1 f pk) wr.heap.size kb (.slice none 0 0)) 123 (0, 0)) :: (wr.heap.size, ko) :: (kb, ko) :: ([] ++ (A1 ++ (f.blk, Obj.cells #[.int .i64 f.id, .slice b2 (fs + pk) c2, .int .i64 ((f.s + pk : Nat) : Int)] 133 (0, 0)) :: A3)), by rw [HBL.out, HFS.out]; omega, HS4.out, ⟨wr.heap.size, ko, kb, ko, .slice none 0 0, [], _, rfl, HKO.out, HKO.out, rowM_nil _ _, ?_, Nat.zero_le _⟩, ?_⟩
            · show FlsM P4 (fset D.fl { f with b := f.b.take (f.s + pk), s := f.s + pk }) _
              rw [hgl]
              exact (HA1.out.sub HS4.out).join ⟨_, A3, rfl, by rw [HFS.out]; exact HP4.out, HA3.out.sub HS4.out⟩
            · rw [HB.out, HFS.out]
              simpa [dkCells, Dk.crash1] using hg6
      · intro x v1 kl w1 cnt1 hk hl hf hrg1 hlt hH1 hen
        obtain rfl := keyStr x kl hk
        rw [kfind_kv, HK.out] at hf
        obtain ⟨b', hb', rfl⟩ := Option.map_eq_some_iff.1 hf
        obtain ⟨hxs, rfl⟩ : x.data.toList = s ∧ b' = b := by
          have := nfind_mem hb'
          simpa using this
        rcases hor with ⟨hls, rfl, rfl⟩ | ⟨hls, -⟩
        case inr => rw [hxs, hls] at hl; cases hl
        have H2 := Lib.hid hH1
        have HRG := Lib.hid hrg1
        clear hk hl hf hb' hrg hHr hrg1 hH1
        go_wp2_with fail
        refine (contains0 b' _).mono ?_
        rintro e w3 ⟨rfl, rfl⟩
        go_wp2_with (at_builtin; refine wpList_push_g rfl _ _ _ rfl 130 _ 1 8 Tryz.underlying142 infoFp rfl (by omega) (.slice none 0 0) 0 [] rfl (A := []) H2.out (rowM_nil _ _) #[ptr b'] rfl rfl (by intro u hu; simp at hu; subst hu; rfl) (by omega) (by omega) ?_)
        intro g7 c7 w7 A7 hr7 hH7 hgr7
        have H7 := Lib.hid hH7
        have HR7 := Lib.hid hr7
        have HRG7 := Lib.hid ((HRG.out.alloc _).kept hgr7 (by simp [Value.ownBlock]) (by simp [Value.ownBlock]))
        clear hr7 hH7 hgr7
        go_wp2_with fail
        go_roundg cnt1
        case measure => omega
        case rel => exact ⟨_, A7, HRG7.out, .inr ⟨by rw [hxs]; simp [Lit.sameKey], HR7.out⟩, H7.out⟩
end

end Go.Proofs.YtlkkagjpapjehaaGreatDoor.Sg

/-! Sm -/
namespace Go.Proofs.YtlkkagjpapjehaaGreatDoor.Sg
open Go.RowKit Er Go.Maps

section
variable {S : List Nat} {E : Nat → Addr} {B : Nat} {P : Pm} {s : Nat} {G : Sg} {D : Dk} {A Ad F : Mm} {w : World}

set_option maxRecDepth 100000 in
set_option maxHeartbeats 2000000 in
theorem scut_empty (C : Ctx S E B P) (hG : SgM s G A) (hO : SegOn D G) (hD : DkM P G.d D Ad) (h0 : G.l = []) (o : Int) (ho : o = G.base) (hH : Hp w P (A ++ (Ad ++ F))) :
    Calls Tryz.prog 50 #[ptr s, .int .i64 o] w fun e w' => e = .returned .nilIface ∧ ∃ P' A' Ad' D', Sub P P' ∧ SgM s (G.cutK 0) A' ∧ DkM P' G.d D' Ad' ∧ SegOn D' (G.cutK 0) ∧ DkSame D D' ∧ D'.used ≤ D.used ∧
      (∀ s', s' ≠ G.nm → D'.look s' = D.look s') ∧ Hp w' P' (A' ++ (Ad' ++ F)) := by
  obtain ⟨f, h1, h2, h3⟩ := hO.f
  have hr := hO.room
  have hu := hO.used
  have hnm := hO.nm
  have hW := hO.W
  have hz0 : sizes G.l = 0 := by rw [h0]; rfl
  obtain ⟨kz, hkz⟩ : ∃ z, sizes G.l = z := ⟨_, rfl⟩
  have hz1 : kz = 0 := by rw [← hkz, hz0]
  have hft : f.b.take kz = flatB (G.l.take 0) := by rw [hz1]; rfl
  have hks : kz = sizes (G.l.take 0) := by rw [hz1]; rfl
  have hus := cut_used hO.I h1 kz (by omega)
  have hO2 : SegOn (D.cut f kz) (G.cutK 0) := ⟨cut_I hO.I f _, (fun x hx => by cases hx), (fun x hx => by cases hx), hO.base, hO.nm, ⟨{ f with b := f.b.take kz, s := kz }, by show Dk.look _ G.nm = _; rw [cut_look hO.I h1, if_pos rfl], hft, hks⟩, by rw [(cut_same hO.I f _).room]; exact hr, by rw [(cut_same hO.I f _).room]; omega⟩
  have hflen : f.b.length ≤ D.used := used_ge h1
  obtain ⟨P1, hs1, hH1, hm1⟩ := hH.lay (.cells #[.int .i64 o] 2)
  have hbx : Pers P1 (fun w' => w'.cell? ⟨w.heap.size, 0, none⟩ = some (.int .i64 o)) := fun w' hw => by
    have := hw.m _ _ hm1
    simp [World.cell?, this]
  have hix : idxB o G.l = -1 := by rw [h0]; rfl
  obtain ⟨en, hen⟩ : ∃ e, G.end_ = e := ⟨_, rfl⟩
  have hoe : o = en := by rw [← hen, ho, end_eq, h0]; rfl
  obtain ⟨lv0, Al0, hA0, hrow⟩ := id hG
  have hc4 : ∀ w P F, Hp w P (A ++ F) → w.cell? ⟨s, 4, none⟩ = some lv0 := fun w P F hH => hH.cell (b := s) (c := sgCells G lv0) (t := 92) (fr := (0, 0)) (by simp [hA0]) rfl
  have hbl : s < w.heap.size := World.block_lt_of_cell? _ _ (hc4 _ _ _ hH)
  rw [h0] at hrow
  have hrc : lv0 = .slice none 0 0 ∨ ∃ g c, lv0 = .slice (some ⟨g, 0, none⟩) 0 c := by
    rcases hrow.2 with ⟨h, -⟩ | ⟨g, cap, cur, h, -⟩
    · exact .inl h
    · exact .inr ⟨g, cap, h⟩
  have HKZ := Lib.hid hkz
  have HZK : Hid ((G.cutK 0).kept = kz) := hks.symm
  have HSM := Lib.hid (cut_same hO.I f kz)
  have HUS : Hid ((D.cut f kz).used ≤ D.used) := by show _ ≤ _; omega
  have HLK : Hid (∀ s', s' ≠ G.nm → (D.cut f kz).look s' = D.look s') := fun s' hs' => by rw [cut_look hO.I h1, if_neg hs']
  have HF := Lib.hid (hO.I.find_ok h1)
  have HL := Lib.hid (look_some h1).2
  have HO2 := Lib.hid hO2
  have HW := Lib.hid hW
  have HBX := Lib.hid hbx
  have HM1 := Lib.hid hm1
  have HS1 := Lib.hid hs1
  have H1 := Lib.hid hH1
  have HEN := Lib.hid hen
  have HOE := Lib.hid hoe
  have HIX := Lib.hid hix
  have hkn : kz ≤ f.b.length := by omega
  have hfl2 : f.b.length ≤ 1099511627776 := by omega
  rcases hrc with rfl | ⟨g, c, rfl⟩
  · have HC4 := Lib.hid hc4
    have c4 := hc4 _ _ _ hH1
    clear h1 h2 h3 hH hO hO2 hW hen hH1 hm1 hs1 hbx hkz hft hus h0 hoe hix hz0 hz1 hks ho hrow hA0 hc4
    go_enter Tryz.func50, Tryz.ntmps50
    go_wp2_with fail
    refine (idxfn_ok hG HW.out _ c4 w.heap.size o HM1.out H1.out).mono ?_
    rintro e w2 ⟨rfl, hH2⟩
    rw [HIX.out]
    have H2 := Lib.hid hH2
    clear hH2
    go_wp2_with fail
    refine wp_region_hp (by kernel_rfl) (by decide) _ _ H2.out (fun i _ v => match i with | 0 => v = .int .i64 (-1) | 1 => v = .bool true | 2 => v = .bool true | 3 => v = .int .i64 o | 4 => v = ptr s | 5 => v = .int .i64 en | 6 => v = .bool false | 7 => v = .bool false | _ => True) (by intro i P P' v _ h; exact h) ?_ ?_
    · intro i o ho u wq Pq hsq hHq hp K hK
      rcases i with _ | _ | _ | _ | _ | _ | _ | _ | i
      · cases ho
        simp only [frOf, Act.put, List.setIfInBounds_toArray, List.set_cons_zero, List.set_cons_succ, Nat.zero_add, Nat.reduceAdd] at hK ⊢
        go_simp
        exact hK _ wq Pq (Sub.refl _) hHq rfl
      · cases ho
        have h0 : u 0 = .int .i64 (-1) := hp ⟨0, .data⟩ (by simp) rfl
        simp only [frOf, Act.put, List.setIfInBounds_toArray, List.set_cons_zero, List.set_cons_succ, Nat.zero_add, Nat.reduceAdd] at hK ⊢
        simp only [h0] at hK ⊢
        go_simp
        exact hK _ wq Pq (Sub.refl _) hHq (by rfl)
      · cases ho
        have h1 : u 1 = .bool true := hp ⟨1, .data⟩ (by simp) rfl
        simp only [frOf, Act.put, List.setIfInBounds_toArray, List.set_cons_zero, List.set_cons_succ, Nat.zero_add, Nat.reduceAdd] at hK ⊢
        simp only [h1] at hK ⊢
        go_simp
        exact hK _ wq Pq (Sub.refl _) hHq rfl
      · cases ho
        have h2 : u 2 = .bool true := hp ⟨2, .guard⟩ (by simp) rfl
        simp only [frOf, Act.put, List.setIfInBounds_toArray, List.set_cons_zero, List.set_cons_succ, Nat.zero_add, Nat.reduceAdd] at hK ⊢
        simp only [h2] at hK ⊢
        have kb : wq.cell? ⟨w.heap.size, 0, none⟩ = some (.int .i64 o) := hHq.use (HBX.out.sub hsq)
        go_simp
        exact hK _ wq Pq (Sub.refl _) hHq rfl
      · cases ho
        have h2 : u 2 = .bool true := hp ⟨2, .guard⟩ (by simp) rfl
        simp only [frOf, Act.put, List.setIfInBounds_toArray, List.set_cons_zero, List.set_cons_succ, Nat.zero_add, Nat.reduceAdd] at hK ⊢
        simp only [h2] at hK ⊢
        go_simp
        exact hK _ wq Pq (Sub.refl _) hHq rfl
      · cases ho
        have h4 : u 4 = ptr s := hp ⟨4, .data⟩ (by simp) rfl
        have h2 : u 2 = .bool true := hp ⟨2, .guard⟩ (by simp) rfl
        simp only [frOf, Act.put, List.setIfInBounds_toArray, List.set_cons_zero, List.set_cons_succ, Nat.zero_add, Nat.reduceAdd] at hK ⊢
        simp only [h4, h2] at hK ⊢
        go_simp
        with_reducible refine (end_any hG HW.out hHq).mono ?_
        rintro e w3 ⟨rfl, hH3⟩
        rw [HEN.out]
        exact hK _ w3 Pq (Sub.refl _) hH3 rfl
      · cases ho
        have h3 : u 3 = .int .i64 o := hp ⟨3, .data⟩ (by simp) rfl
        have h5 : u 5 = .int .i64 en := hp ⟨5, .data⟩ (by simp) rfl
        have h2 : u 2 = .bool true := hp ⟨2, .guard⟩ (by simp) rfl
        simp only [frOf, Act.put, List.setIfInBounds_toArray, List.set_cons_zero, List.set_cons_succ, Nat.zero_add, Nat.reduceAdd] at hK ⊢
        simp only [h3, h5, h2] at hK ⊢
        go_simp
        exact hK _ wq Pq (Sub.refl _) hHq (by simp [HOE.out])
      · cases ho
        have h2 : u 2 = .bool true := hp ⟨2, .data⟩ (by simp) rfl
        have h6 : u 6 = .bool false := hp ⟨6, .data⟩ (by simp) rfl
        simp only [frOf, Act.put, List.setIfInBounds_toArray, List.set_cons_zero, List.set_cons_succ, Nat.zero_add, Nat.reduceAdd] at hK ⊢
        simp only [h2, h6] at hK ⊢
        go_simp
        exact hK _ wq Pq (Sub.refl _) hHq rfl
      · exact absurd ho (by simp)
    intro u wq Pq hsq hHq hR
    have h7 : u 7 = .bool false := hR 7 (by decide)
    simp only [frOf, List.setIfInBounds_toArray, List.set_cons_zero, List.set_cons_succ, Nat.zero_add, Nat.reduceAdd]
    simp only [h7]
    have H3 := Lib.hid (hHq.weaken hsq)
    clear hR hHq hsq h7
    have c4b := HC4.out _ _ _ H3.out
    go_wp2_with fail
    refine (ssize_any hG HW.out H3.out).mono ?_
    rintro e w4 ⟨rfl, hH4⟩
    rw [HKZ.out]
    have d4 := HC4.out _ _ _ hH4
    obtain ⟨lv4, k0, k1, -, -, -, -⟩ := hG.cells hH4
    have H4 := Lib.hid hH4
    clear hH4
    go_wp2_with fail
    go_region_held3 (fun w' => w'.cell? ⟨s, 0, none⟩ = some (ptr G.d) ∧ w'.cell? ⟨s, 1, none⟩ = some (str G.nm))
      (first
        | go_keep
        | exact ⟨k0, k1⟩)
      (first
        | (go_at_call 76
           with_reducible refine (dcut_ok (C.sub HS1.out) (hD.sub HS1.out) (Hp.mid H4.out.drew) G.nm (by omega) f.blk HF.out f HL.out kz hkn hfl2).mono ?_
           rintro e w5 ⟨rfl, P5, Ad5, hs5, hD5, hH5⟩
           have hH6 := Hp.mid hH5
           obtain ⟨lv5, k0, k1, -, -, -, -⟩ := hG.cells hH6))
    have d6 := HC4.out _ _ _ hH6
    have H6 := Lib.hid hH6
    have HD5 := Lib.hid hD5
    have HS5 := Lib.hid (HS1.out.trans hs5)
    clear hH5 hH6 hD5 hs5 d4
    go_wp2_with fail
    obtain ⟨A7, hA7, hr7⟩ : ∃ A7 : Mm, A7 = [] ∧ RowM 87 6 (.slice none 0 0) 0 [] A7 := ⟨[], rfl, rowM_nil _ _⟩
    refine (clonepl_nil _).mono ?_
    rintro e w7 ⟨rfl, hw7⟩
    have hH7 : Hp w7 P5 (A7 ++ (A ++ (Ad5 ++ F))) := by rw [hA7, hw7]; exact H6.out
    clear hw7 hA7
    obtain ⟨lv, Al, hA, hr⟩ := id hG
    have hH8 : Hp w7 P5 ((s, Obj.cells (sgCells G lv) 92 (0, 0)) :: (A7 ++ (Al ++ (Ad5 ++ F)))) := by
      rw [hA] at hH7
      have := Hp.mid (A := A7) (B := [(s, Obj.cells (sgCells G lv) 92 (0, 0))]) (C := Al ++ (Ad5 ++ F)) (by simpa using hH7)
      simpa using this
    have e4 := (@Hp.cell _ _ _ hH8 s _ _ (0, 0) List.mem_cons_self) (i := 4) rfl
    have e5 := (@Hp.cell _ _ _ hH8 s _ _ (0, 0) List.mem_cons_self) (i := 5) rfl
    have f4 := @Hp.frozen _ _ _ hH8 s _ _ List.mem_cons_self 4
    have f5 := @Hp.frozen _ _ _ hH8 s _ _ List.mem_cons_self 5
    have H8 := Lib.hid hH8
    have HR7 := Lib.hid hr7
    clear hH7 hH8 hr7 hA hr d6
    go_wp2_with fail
    go_ret
    refine ⟨rfl, P5, (s, Obj.cells (sgCells (G.cutK 0) (.slice none 0 0)) 92 (0, 0)) :: A7, Ad5, D.cut f kz, HS5.out, ⟨_, A7, rfl, ?_⟩, HD5.out, HO2.out, HSM.out, HUS.out, HLK.out, ?_⟩
    · have hl : (G.cutK 0).l = [] := by show G.l.take 0 = []; rfl
      rw [hl]; exact HR7.out
    · have h1 := (H8.out.set 4 (.slice none 0 0)).set 5 (.int .i64 kz)
      have h2 := (Hp.mid (A := (s, _) :: A7) (B := Al) (C := Ad5 ++ F) h1).drop
      have hz : (G.cutK 0).kept = kz := HZK.out
      unfold sgCells
      rw [hz]
      simpa [sgCells, Sg.cutK] using h2

  · by_cases hc0 : c = 0
    · subst hc0
      have HC4 := Lib.hid hc4
      have c4 := hc4 _ _ _ hH1
      clear h1 h2 h3 hH hO hO2 hW hen hH1 hm1 hs1 hbx hkz hft hus h0 hoe hix hz0 hz1 hks ho hrow hA0 hc4
      go_enter Tryz.func50, Tryz.ntmps50
      go_wp2_with fail
      refine (idxfn_ok hG HW.out _ c4 w.heap.size o HM1.out H1.out).mono ?_
      rintro e w2 ⟨rfl, hH2⟩
      rw [HIX.out]
      have H2 := Lib.hid hH2
      clear hH2
      go_wp2_with fail
      refine wp_region_hp (by kernel_rfl) (by decide) _ _ H2.out (fun i _ v => match i with | 0 => v = .int .i64 (-1) | 1 => v = .bool true | 2 => v = .bool true | 3 => v = .int .i64 o | 4 => v = ptr s | 5 => v = .int .i64 en | 6 => v = .bool false | 7 => v = .bool false | _ => True) (by intro i P P' v _ h; exact h) ?_ ?_
      · intro i o ho u wq Pq hsq hHq hp K hK
        rcases i with _ | _ | _ | _ | _ | _ | _ | _ | i
        · cases ho
          simp only [frOf, Act.put, List.setIfInBounds_toArray, List.set_cons_zero, List.set_cons_succ, Nat.zero_add, Nat.reduceAdd] at hK ⊢
          go_simp
          exact hK _ wq Pq (Sub.refl _) hHq rfl
        · cases ho
          have h0 : u 0 = .int .i64 (-1) := hp ⟨0, .data⟩ (by simp) rfl
          simp only [frOf, Act.put, List.setIfInBounds_toArray, List.set_cons_zero, List.set_cons_succ, Nat.zero_add, Nat.reduceAdd] at hK ⊢
          simp only [h0] at hK ⊢
          go_simp
          exact hK _ wq Pq (Sub.refl _) hHq (by rfl)
        · cases ho
          have h1 : u 1 = .bool true := hp ⟨1, .data⟩ (by simp) rfl
          simp only [frOf, Act.put, List.setIfInBounds_toArray, List.set_cons_zero, List.set_cons_succ, Nat.zero_add, Nat.reduceAdd] at hK ⊢
          simp only [h1] at hK ⊢
          go_simp
          exact hK _ wq Pq (Sub.refl _) hHq rfl
        · cases ho
          have h2 : u 2 = .bool true := hp ⟨2, .guard⟩ (by simp) rfl
          simp only [frOf, Act.put, List.setIfInBounds_toArray, List.set_cons_zero, List.set_cons_succ, Nat.zero_add, Nat.reduceAdd] at hK ⊢
          simp only [h2] at hK ⊢
          have kb : wq.cell? ⟨w.heap.size, 0, none⟩ = some (.int .i64 o) := hHq.use (HBX.out.sub hsq)
          go_simp
          exact hK _ wq Pq (Sub.refl _) hHq rfl
        · cases ho
          have h2 : u 2 = .bool true := hp ⟨2, .guard⟩ (by simp) rfl
          simp only [frOf, Act.put, List.setIfInBounds_toArray, List.set_cons_zero, List.set_cons_succ, Nat.zero_add, Nat.reduceAdd] at hK ⊢
          simp only [h2] at hK ⊢
          go_simp
          exact hK _ wq Pq (Sub.refl _) hHq rfl
        · cases ho
          have h4 : u 4 = ptr s := hp ⟨4, .data⟩ (by simp) rfl
          have h2 : u 2 = .bool true := hp ⟨2, .guard⟩ (by simp) rfl
          simp only [frOf, Act.put, List.setIfInBounds_toArray, List.set_cons_zero, List.set_cons_succ, Nat.zero_add, Nat.reduceAdd] at hK ⊢
          simp only [h4, h2] at hK ⊢
          go_simp
          with_reducible refine (end_any hG HW.out hHq).mono ?_
          rintro e w3 ⟨rfl, hH3⟩
          rw [HEN.out]
          exact hK _ w3 Pq (Sub.refl _) hH3 rfl
        · cases ho
          have h3 : u 3 = .int .i64 o := hp ⟨3, .data⟩ (by simp) rfl
          have h5 : u 5 = .int .i64 en := hp ⟨5, .data⟩ (by simp) rfl
          have h2 : u 2 = .bool true := hp ⟨2, .guard⟩ (by simp) rfl
          simp only [frOf, Act.put, List.setIfInBounds_toArray, List.set_cons_zero, List.set_cons_succ, Nat.zero_add, Nat.reduceAdd] at hK ⊢
          simp only [h3, h5, h2] at hK ⊢
          go_simp
          exact hK _ wq Pq (Sub.refl _) hHq (by simp [HOE.out])
        · cases ho
          have h2 : u 2 = .bool true := hp ⟨2, .data⟩ (by simp) rfl
          have h6 : u 6 = .bool false := hp ⟨6, .data⟩ (by simp) rfl
          simp only [frOf, Act.put, List.setIfInBounds_toArray, List.set_cons_zero, List.set_cons_succ, Nat.zero_add, Nat.reduceAdd] at hK ⊢
          simp only [h2, h6] at hK ⊢
          go_simp
          exact hK _ wq Pq (Sub.refl _) hHq rfl
        · exact absurd ho (by simp)
      intro u wq Pq hsq hHq hR
      have h7 : u 7 = .bool false := hR 7 (by decide)
      simp only [frOf, List.setIfInBounds_toArray, List.set_cons_zero, List.set_cons_succ, Nat.zero_add, Nat.reduceAdd]
      simp only [h7]
      have H3 := Lib.hid (hHq.weaken hsq)
      clear hR hHq hsq h7
      have c4b := HC4.out _ _ _ H3.out
      go_wp2_with fail
      refine (ssize_any hG HW.out H3.out).mono ?_
      rintro e w4 ⟨rfl, hH4⟩
      rw [HKZ.out]
      have d4 := HC4.out _ _ _ hH4
      obtain ⟨lv4, k0, k1, -, -, -, -⟩ := hG.cells hH4
      have H4 := Lib.hid hH4
      clear hH4
      go_wp2_with fail
      go_region_held3 (fun w' => w'.cell? ⟨s, 0, none⟩ = some (ptr G.d) ∧ w'.cell? ⟨s, 1, none⟩ = some (str G.nm))
        (first
          | go_keep
          | exact ⟨k0, k1⟩)
        (first
          | (go_at_call 76
             with_reducible refine (dcut_ok (C.sub HS1.out) (hD.sub HS1.out) (Hp.mid H4.out.drew) G.nm (by omega) f.blk HF.out f HL.out kz hkn hfl2).mono ?_
             rintro e w5 ⟨rfl, P5, Ad5, hs5, hD5, hH5⟩
             have hH6 := Hp.mid hH5
             obtain ⟨lv5, k0, k1, -, -, -, -⟩ := hG.cells hH6))
      have d6 := HC4.out _ _ _ hH6
      have H6 := Lib.hid hH6
      have HD5 := Lib.hid hD5
      have HS5 := Lib.hid (HS1.out.trans hs5)
      clear hH5 hH6 hD5 hs5 d4
      go_wp2_with fail
      refine (clonepl_ok g 0 0 [] rfl (by simp) (by simp) (by omega) H6.out).mono ?_
      rintro e w7 ⟨v7, A7, rfl, hr7, hH7⟩
      obtain ⟨a7, c7, rfl⟩ := hr7.shape
      obtain ⟨lv, Al, hA, hr⟩ := id hG
      have hH8 : Hp w7 P5 ((s, Obj.cells (sgCells G lv) 92 (0, 0)) :: (A7 ++ (Al ++ (Ad5 ++ F)))) := by
        rw [hA] at hH7
        have := Hp.mid (A := A7) (B := [(s, Obj.cells (sgCells G lv) 92 (0, 0))]) (C := Al ++ (Ad5 ++ F)) (by simpa using hH7)
        simpa using this
      have e4 := (@Hp.cell _ _ _ hH8 s _ _ (0, 0) List.mem_cons_self) (i := 4) rfl
      have e5 := (@Hp.cell _ _ _ hH8 s _ _ (0, 0) List.mem_cons_self) (i := 5) rfl
      have f4 := @Hp.frozen _ _ _ hH8 s _ _ List.mem_cons_self 4
      have f5 := @Hp.frozen _ _ _ hH8 s _ _ List.mem_cons_self 5
      have H8 := Lib.hid hH8
      have HR7 := Lib.hid hr7
      clear hH7 hH8 hr7 hA hr d6
      go_wp2_with fail
      go_ret
      refine ⟨rfl, P5, (s, Obj.cells (sgCells (G.cutK 0) (.slice a7 0 c7)) 92 (0, 0)) :: A7, Ad5, D.cut f kz, HS5.out, ⟨_, A7, rfl, ?_⟩, HD5.out, HO2.out, HSM.out, HUS.out, HLK.out, ?_⟩
      · have hl : (G.cutK 0).l = [] := by show G.l.take 0 = []; rfl
        rw [hl]; exact HR7.out
      · have h1 := (H8.out.set 4 (.slice a7 0 c7)).set 5 (.int .i64 kz)
        have h2 := (Hp.mid (A := (s, _) :: A7) (B := Al) (C := Ad5 ++ F) h1).drop
        have hz : (G.cutK 0).kept = kz := HZK.out
        unfold sgCells
        rw [hz]
        simpa [sgCells, Sg.cutK] using h2

    · have HC4 := Lib.hid hc4
      have c4 := hc4 _ _ _ hH1
      clear h1 h2 h3 hH hO hO2 hW hen hH1 hm1 hs1 hbx hkz hft hus h0 hoe hix hz0 hz1 hks ho hrow hA0 hc4
      go_enter Tryz.func50, Tryz.ntmps50
      go_wp2_with fail
      refine (idxfn_ok hG HW.out _ c4 w.heap.size o HM1.out H1.out).mono ?_
      rintro e w2 ⟨rfl, hH2⟩
      rw [HIX.out]
      have H2 := Lib.hid hH2
      clear hH2
      go_wp2_with fail
      refine wp_region_hp (by kernel_rfl) (by decide) _ _ H2.out (fun i _ v => match i with | 0 => v = .int .i64 (-1) | 1 => v = .bool true | 2 => v = .bool true | 3 => v = .int .i64 o | 4 => v = ptr s | 5 => v = .int .i64 en | 6 => v = .bool false | 7 => v = .bool false | _ => True) (by intro i P P' v _ h; exact h) ?_ ?_
      · intro i o ho u wq Pq hsq hHq hp K hK
        rcases i with _ | _ | _ | _ | _ | _ | _ | _ | i
        · cases ho
          simp only [frOf, Act.put, List.setIfInBounds_toArray, List.set_cons_zero, List.set_cons_succ, Nat.zero_add, Nat.reduceAdd] at hK ⊢
          go_simp
          exact hK _ wq Pq (Sub.refl _) hHq rfl
        · cases ho
          have h0 : u 0 = .int .i64 (-1) := hp ⟨0, .data⟩ (by simp) rfl
          simp only [frOf, Act.put, List.setIfInBounds_toArray, List.set_cons_zero, List.set_cons_succ, Nat.zero_add, Nat.reduceAdd] at hK ⊢
          simp only [h0] at hK ⊢
          go_simp
          exact hK _ wq Pq (Sub.refl _) hHq (by rfl)
        · cases ho
          have h1 : u 1 = .bool true := hp ⟨1, .data⟩ (by simp) rfl
          simp only [frOf, Act.put, List.setIfInBounds_toArray, List.set_cons_zero, List.set_cons_succ, Nat.zero_add, Nat.reduceAdd] at hK ⊢
          simp only [h1] at hK ⊢
          go_simp
          exact hK _ wq Pq (Sub.refl _) hHq rfl
        · cases ho
          have h2 : u 2 = .bool true := hp ⟨2, .guard⟩ (by simp) rfl
          simp only [frOf, Act.put, List.setIfInBounds_toArray, List.set_cons_zero, List.set_cons_succ, Nat.zero_add, Nat.reduceAdd] at hK ⊢
          simp only [h2] at hK ⊢
          have kb : wq.cell? ⟨w.heap.size, 0, none⟩ = some (.int .i64 o) := hHq.use (HBX.out.sub hsq)
          go_simp
          exact hK _ wq Pq (Sub.refl _) hHq rfl
        · cases ho
          have h2 : u 2 = .bool true := hp ⟨2, .guard⟩ (by simp) rfl
          simp only [frOf, Act.put, List.setIfInBounds_toArray, List.set_cons_zero, List.set_cons_succ, Nat.zero_add, Nat.reduceAdd] at hK ⊢
          simp only [h2] at hK ⊢
          go_simp
          exact hK _ wq Pq (Sub.refl _) hHq rfl
        · cases ho
          have h4 : u 4 = ptr s := hp ⟨4, .data⟩ (by simp) rfl
          have h2 : u 2 = .bool true := hp ⟨2, .guard⟩ (by simp) rfl
          simp only [frOf, Act.put, List.setIfInBounds_toArray, List.set_cons_zero, List.set_cons_succ, Nat.zero_add, Nat.reduceAdd] at hK ⊢
          simp only [h4, h2] at hK ⊢
          go_simp
          with_reducible refine (end_any hG HW.out hHq).mono ?_
          rintro e w3 ⟨rfl, hH3⟩
          rw [HEN.out]
          exact hK _ w3 Pq (Sub.refl _) hH3 rfl
        · cases ho
          have h3 : u 3 = .int .i64 o := hp ⟨3, .data⟩ (by simp) rfl
          have h5 : u 5 = .int .i64 en := hp ⟨5, .data⟩ (by simp) rfl
          have h2 : u 2 = .bool true := hp ⟨2, .guard⟩ (by simp) rfl
          simp only [frOf, Act.put, List.setIfInBounds_toArray, List.set_cons_zero, List.set_cons_succ, Nat.zero_add, Nat.reduceAdd] at hK ⊢
          simp only [h3, h5, h2] at hK ⊢
          go_simp
          exact hK _ wq Pq (Sub.refl _) hHq (by simp [HOE.out])
        · cases ho
          have h2 : u 2 = .bool true := hp ⟨2, .data⟩ (by simp) rfl
          have h6 : u 6 = .bool false := hp ⟨6, .data⟩ (by simp) rfl
          simp only [frOf, Act.put, List.setIfInBounds_toArray, List.set_cons_zero, List.set_cons_succ, Nat.zero_add, Nat.reduceAdd] at hK ⊢
          simp only [h2, h6] at hK ⊢
          go_simp
          exact hK _ wq Pq (Sub.refl _) hHq rfl
        · exact absurd ho (by simp)
      intro u wq Pq hsq hHq hR
      have h7 : u 7 = .bool false := hR 7 (by decide)
      simp only [frOf, List.setIfInBounds_toArray, List.set_cons_zero, List.set_cons_succ, Nat.zero_add, Nat.reduceAdd]
      simp only [h7]
      have H3 := Lib.hid (hHq.weaken hsq)
      clear hR hHq hsq h7
      have c4b := HC4.out _ _ _ H3.out
      go_wp2_with fail
      refine (ssize_any hG HW.out H3.out).mono ?_
      rintro e w4 ⟨rfl, hH4⟩
      rw [HKZ.out]
      have d4 := HC4.out _ _ _ hH4
      obtain ⟨lv4, k0, k1, -, -, -, -⟩ := hG.cells hH4
      have H4 := Lib.hid hH4
      clear hH4
      go_wp2_with fail
      go_region_held3 (fun w' => w'.cell? ⟨s, 0, none⟩ = some (ptr G.d) ∧ w'.cell? ⟨s, 1, none⟩ = some (str G.nm))
        (first
          | go_keep
          | exact ⟨k0, k1⟩)
        (first
          | (go_at_call 76
             with_reducible refine (dcut_ok (C.sub HS1.out) (hD.sub HS1.out) (Hp.mid H4.out.drew) G.nm (by omega) f.blk HF.out f HL.out kz hkn hfl2).mono ?_
             rintro e w5 ⟨rfl, P5, Ad5, hs5, hD5, hH5⟩
             have hH6 := Hp.mid hH5
             obtain ⟨lv5, k0, k1, -, -, -, -⟩ := hG.cells hH6))
      have d6 := HC4.out _ _ _ hH6
      have H6 := Lib.hid hH6
      have HD5 := Lib.hid hD5
      have HS5 := Lib.hid (HS1.out.trans hs5)
      clear hH5 hH6 hD5 hs5 d4
      go_wp2_with fail
      refine (clonepl_ok g 0 c [] rfl (by simp) (by simp) (by omega) H6.out).mono ?_
      rintro e w7 ⟨v7, A7, rfl, hr7, hH7⟩
      obtain ⟨a7, c7, rfl⟩ := hr7.shape
      obtain ⟨lv, Al, hA, hr⟩ := id hG
      have hH8 : Hp w7 P5 ((s, Obj.cells (sgCells G lv) 92 (0, 0)) :: (A7 ++ (Al ++ (Ad5 ++ F)))) := by
        rw [hA] at hH7
        have := Hp.mid (A := A7) (B := [(s, Obj.cells (sgCells G lv) 92 (0, 0))]) (C := Al ++ (Ad5 ++ F)) (by simpa using hH7)
        simpa using this
      have e4 := (@Hp.cell _ _ _ hH8 s _ _ (0, 0) List.mem_cons_self) (i := 4) rfl
      have e5 := (@Hp.cell _ _ _ hH8 s _ _ (0, 0) List.mem_cons_self) (i := 5) rfl
      have f4 := @Hp.frozen _ _ _ hH8 s _ _ List.mem_cons_self 4
      have f5 := @Hp.frozen _ _ _ hH8 s _ _ List.mem_cons_self 5
      have H8 := Lib.hid hH8
      have HR7 := Lib.hid hr7
      clear hH7 hH8 hr7 hA hr d6
      go_wp2_with fail
      go_ret
      refine ⟨rfl, P5, (s, Obj.cells (sgCells (G.cutK 0) (.slice a7 0 c7)) 92 (0, 0)) :: A7, Ad5, D.cut f kz, HS5.out, ⟨_, A7, rfl, ?_⟩, HD5.out, HO2.out, HSM.out, HUS.out, HLK.out, ?_⟩
      · have hl : (G.cutK 0).l = [] := by show G.l.take 0 = []; rfl
        rw [hl]; exact HR7.out
      · have h1 := (H8.out.set 4 (.slice a7 0 c7)).set 5 (.int .i64 kz)
        have h2 := (Hp.mid (A := (s, _) :: A7) (B := Al) (C := Ad5 ++ F) h1).drop
        have hz : (G.cutK 0).kept = kz := HZK.out
        unfold sgCells
        rw [hz]
        simpa [sgCells, Sg.cutK] using h2

end

end Go.Proofs.YtlkkagjpapjehaaGreatDoor.Sg

/-! Lw -/
namespace Go.Proofs.YtlkkagjpapjehaaGreatDoor.Sg
open Go.RowKit Er Go.Maps

/-- Row's batches of at most twenty numbers. -/
theorem row20b (every : Nat) (xs : List Int) (base : Nat) (hb : base ≤ 1073741824) (hx : xs.length ≤ 20) : Chain base 0 (rowGo every xs 0 base) ∧ (∀ x, x ∈ rowGo every xs 0 base → BtOk x ∧ BtBy x) ∧ sizes (rowGo every xs 0 base) ≤ 1048576 ∧
    (base : Int) + (xs.length : Int) ≤ endOf base (rowGo every xs 0 base) ∧ endOf base (rowGo every xs 0 base) ≤ base + 5 * xs.length := by
  have hok := row_ok every xs 0 base (by omega) (by omega) (by omega)
  refine ⟨row_chain every xs 0 base 0 (by have := (rEp_mono every 0).2; omega), hok, ?_, ?_⟩
  · have h : ∀ L : List Bt, (∀ x, x ∈ L → BtOk x ∧ BtBy x) → sizes L ≤ L.length * 38816 := by
      intro L
      induction L with
      | nil => intro _; simp [sizes]
      | cons x L ih =>
        intro h
        have h1 := szB_le x (h x List.mem_cons_self).1
        have h2 := ih (fun y hy => h y (List.mem_cons_of_mem _ hy))
        simp only [sizes, List.map_cons, List.sum_cons, List.length_cons] at h2 ⊢
        omega
    have h1 := h _ hok
    rw [row_len] at h1
    omega
  · have h : ∀ (l : List Int) (i : Nat) (a : Int), a + (l.length : Int) ≤ endOf a (rowGo every l i a) ∧ endOf a (rowGo every l i a) ≤ a + 5 * l.length := by
      intro l
      induction l with
      | nil => intro i a; simp [rowGo, endOf]
      | cons s l ih =>
        intro i a
        obtain ⟨hp1, hp5⟩ := rN_pos s
        have := ih (i + 1) (a + (rN s : Int))
        show a + ((l.length + 1 : Nat) : Int) ≤ endOf a (rBt every s i a :: rowGo every l (i + 1) (a + (rN s : Int))) ∧ endOf a (rBt every s i a :: rowGo every l (i + 1) (a + (rN s : Int))) ≤ a + 5 * ((l.length + 1 : Nat) : Int)
        rw [endOf_cons, rBt_len, show (rBt every s i a).b = a from rfl]
        omega
    exact h xs 0 base

end Go.Proofs.YtlkkagjpapjehaaGreatDoor.Sg
